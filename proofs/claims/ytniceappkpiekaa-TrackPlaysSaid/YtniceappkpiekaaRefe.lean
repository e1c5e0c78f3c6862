/-
  synodref9.Progress: Acked. (Printed by gen_refack.py.)
-/
import Derived.Test.YtniceappkpiekaaRefd
namespace Go.Proofs.Ytniceappkpiekaa
open Go.RowKit

theorem RgTo.trans {w w1 w2 : World} {r : Nat} {s1 s2 : Pg} {G : List Nat} (h : RgTo w r G s1 w1) (k : ∀ G1, RgAt w1 r s1 G1 → RgTo w1 r G1 s2 w2) : RgTo w r G s2 w2 := by
  obtain ⟨F1, h1, h2, h3⟩ := h
  obtain ⟨F2, k1, k2, k3⟩ := k F1 h1
  have hs := h2.size
  refine ⟨F2, k1, h2.trans k2 (fun x hx hlt => ?_), fun x hx => ?_⟩
  · rcases h3 x hx with h | h
    · exact h
    · omega
  · rcases k3 x hx with h | h
    · exact h3 x h
    · exact .inr (by omega)
theorem RgTo.cells {w w' : World} {r : Nat} {s : Pg} {G : List Nat} (h : RgTo w r G s w') : ∃ a cap, 
    w'.cell? ⟨r, 0, none⟩ = some (.int .i64 s.mt) ∧ w'.cell? ⟨r, 1, none⟩ = some (.int .i64 s.nx) ∧ w'.cell? ⟨r, 2, none⟩ = some (.int .i64 s.st) ∧
    w'.cell? ⟨r, 4, none⟩ = some (.slice a s.xs.length cap) ∧ w'.cell? ⟨r, 6, none⟩ = some (.int .i64 s.sn) ∧ w'.frozen? ⟨r, 1, none⟩ = false ∧ w'.frozen? ⟨r, 2, none⟩ = false ∧ w'.frozen? ⟨r, 4, none⟩ = false := by
  obtain ⟨G', h1, -⟩ := h
  obtain ⟨a, cap, -, c0, c1, c2, -, c4, -, c6, fr⟩ := h1.cells
  exact ⟨a, cap, c0, c1, c2, c4, c6, fr 1, fr 2, fr 4⟩
theorem RefFree_of {w w2 : World} {r : Nat} {G : List Nat} {s : Pg} (h : RgTo w r G s w2) (u : Int) :
    Calls Try.prog 51 #[.pointer (some ⟨r, 0, none⟩), .int .i64 u] w2 fun e w' => e = .returned (.tuple #[]) ∧ RgTo w r G { s with xs := s.xs.drop (low u s.xs) } w' := by
  have h' := h
  obtain ⟨G', h1, h2, h3⟩ := h
  refine (RefFree_any w2 r s G' u h1).mono ?_
  rintro e w' ⟨rfl, hf⟩
  refine ⟨rfl, ?_⟩
  obtain ⟨F2, k1, k2, k3⟩ := hf
  have hs := h2.size
  refine ⟨F2, k1, h2.trans k2 (fun x hx hlt => ?_), fun x hx => ?_⟩
  · rcases h3 x hx with h | h
    · exact h
    · omega
  · rcases k3 x hx with h | h
    · exact h3 x h
    · exact .inr (by omega)
theorem RgTo.conv {w w' : World} {r : Nat} {s s' : Pg} {G : List Nat} (h : RgTo w r G s w') (e : s = s') : RgTo w r G s' w' := e ▸ h

set_option maxHeartbeats 1600000 in
theorem RefAcked_up0eq (w : World) (r : Nat) (s : Pg) (G : List Nat) (index : Int) (h : RgAt w r s G) (hm : NumOk s.mt) (hi : NumOk index) (hst : s.st = 0) (hlt : s.mt < index) :
    Calls Try.prog 23 #[.pointer (some ⟨r, 0, none⟩), .int .i64 index] w fun e w' => e = .returned (.bool true) ∧ RgTo w r G (s.acked index) w' := by
  have hmt := acked_mt s index hm hi
  obtain ⟨hmt1, hmt2⟩ := hmt
  obtain ⟨hi1, hi2⟩ := hi
  obtain ⟨a, cap, -, c0, c1, c2, c3, -, -, -, fr⟩ := h.cells
  have f0 := fr 0
  have f1 := fr 1
  have f3 := fr 3
  have hpre : s.ackedPre index = { s with mt := index, nx := max s.nx (index + 1), pz := false } := by
    have e1 : max s.mt index = index := by omega
    simp [Pg.ackedPre, hlt, e1]
  have ht := (((RgTo.refl h).store (s' := { s with mt := index }) 0 (.int .i64 index) (fun _ => rfl) rfl).store (s' := { s with mt := index, nx := max s.nx (index + 1) }) 1 (.int .i64 (max s.nx (index + 1))) (fun _ => rfl) rfl).store (s' := s.ackedPre index) 3 (.bool false) (fun _ => by rw [hpre]; rfl) rfl
  have HF : Hid (Calls Try.prog 51 #[.pointer (some ⟨r, 0, none⟩), .int .i64 index] (((w.setCell ⟨r, 0, none⟩ (.int .i64 index)).setCell ⟨r, 1, none⟩ (.int .i64 (max s.nx (index + 1)))).setCell ⟨r, 3, none⟩ (.bool false)) fun e w' => e = .returned (.tuple #[]) ∧ RgTo w r G (s.ackedFirst index) w') := RefFree_of ht index
  have HK : ∀ w3, RgTo w r G (s.ackedFirst index) w3 → RgTo w r G (s.acked index) (((w3.setCell ⟨r, 2, none⟩ (.int .i64 1)).setCell ⟨r, 4, none⟩ (.slice none 0 0)).setCell ⟨r, 1, none⟩ (.int .i64 ((s.ackedFirst index).mt + 1))) := fun w3 h3 =>
    ((((h3.store (s' := { (s.ackedFirst index) with st := 1 }) 2 (.int .i64 1) (fun _ => rfl) rfl).cleared).store (s' := { (s.ackedFirst index) with st := 1, xs := [], nx := (s.ackedFirst index).mt + 1 }) 1 (.int .i64 ((s.ackedFirst index).mt + 1)) (fun _ => rfl) rfl)).conv (by rw [acked_0 s index hst, if_pos (by omega)]; rfl)
  replace HK := Lib.hid HK
  have hst' : (s.ackedFirst index).st = 0 := hst
  have hge : decide (s.mt ≤ index) = true := by simp; omega
  generalize s.ackedFirst index = t at *
  clear hpre ht fr hst 
  go_enter Try.func23, Try.ntmps23
  go_wp2_with (first | (go_at_call 51; refine HF.out.mono ?_; rintro e w3 ⟨rfl, h3⟩; obtain ⟨a3, cap3, d0, d1, d2, d4, d6, g1, g2, g4⟩ := h3.cells; rw [hst'] at d2; have R3 := Lib.hid (HK.out _ h3); clear h3))
  go_ret
  exact ⟨rfl, R3.out⟩

set_option maxHeartbeats 1600000 in
theorem RefAcked_up1 (w : World) (r : Nat) (s : Pg) (G : List Nat) (index : Int) (h : RgAt w r s G) (hm : NumOk s.mt) (hi : NumOk index) (hst : s.st = 1) (hlt : s.mt < index) :
    Calls Try.prog 23 #[.pointer (some ⟨r, 0, none⟩), .int .i64 index] w fun e w' => e = .returned (.bool true) ∧ RgTo w r G (s.acked index) w' := by
  have hmt := acked_mt s index hm hi
  obtain ⟨hmt1, hmt2⟩ := hmt
  obtain ⟨hi1, hi2⟩ := hi
  obtain ⟨a, cap, -, c0, c1, c2, c3, -, -, -, fr⟩ := h.cells
  have f0 := fr 0
  have f1 := fr 1
  have f3 := fr 3
  have hpre : s.ackedPre index = { s with mt := index, nx := max s.nx (index + 1), pz := false } := by
    have e1 : max s.mt index = index := by omega
    simp [Pg.ackedPre, hlt, e1]
  have ht := (((RgTo.refl h).store (s' := { s with mt := index }) 0 (.int .i64 index) (fun _ => rfl) rfl).store (s' := { s with mt := index, nx := max s.nx (index + 1) }) 1 (.int .i64 (max s.nx (index + 1))) (fun _ => rfl) rfl).store (s' := s.ackedPre index) 3 (.bool false) (fun _ => by rw [hpre]; rfl) rfl
  have HF : Hid (Calls Try.prog 51 #[.pointer (some ⟨r, 0, none⟩), .int .i64 index] (((w.setCell ⟨r, 0, none⟩ (.int .i64 index)).setCell ⟨r, 1, none⟩ (.int .i64 (max s.nx (index + 1)))).setCell ⟨r, 3, none⟩ (.bool false)) fun e w' => e = .returned (.tuple #[]) ∧ RgTo w r G (s.ackedFirst index) w') := RefFree_of ht index
  have HK : ∀ w3, RgTo w r G (s.ackedFirst index) w3 → RgTo w r G (s.acked index) w3 := fun w3 h3 => h3.conv (by rw [acked_1 s index hst])
  replace HK := Lib.hid HK
  have hst' : (s.ackedFirst index).st = 1 := hst
  generalize s.ackedFirst index = t at *
  clear hpre ht fr hst 
  go_enter Try.func23, Try.ntmps23
  go_wp2_with (first | (go_at_call 51; refine HF.out.mono ?_; rintro e w3 ⟨rfl, h3⟩; obtain ⟨a3, cap3, d0, d1, d2, d4, d6, g1, g2, g4⟩ := h3.cells; rw [hst'] at d2; have R3 := Lib.hid (HK.out _ h3); clear h3))
  go_quiet (fail)
  go_wp2
  go_ret
  exact ⟨rfl, R3.out.drewN _⟩

set_option maxHeartbeats 1600000 in
theorem RefAcked_up2yes (w : World) (r : Nat) (s : Pg) (G : List Nat) (index : Int) (h : RgAt w r s G) (hm : NumOk s.mt) (hi : NumOk index) (hr : s.Rise) (hst : s.st = 2) (hlt : s.mt < index) (hsn : s.sn ≤ max s.mt index) :
    Calls Try.prog 23 #[.pointer (some ⟨r, 0, none⟩), .int .i64 index] w fun e w' => e = .returned (.bool true) ∧ RgTo w r G (s.acked index) w' := by
  have hmt := acked_mt s index hm hi
  obtain ⟨hmt1, hmt2⟩ := hmt
  obtain ⟨hi1, hi2⟩ := hi
  obtain ⟨a, cap, -, c0, c1, c2, c3, -, -, -, fr⟩ := h.cells
  have f0 := fr 0
  have f1 := fr 1
  have f3 := fr 3
  have hpre : s.ackedPre index = { s with mt := index, nx := max s.nx (index + 1), pz := false } := by
    have e1 : max s.mt index = index := by omega
    simp [Pg.ackedPre, hlt, e1]
  have ht := (((RgTo.refl h).store (s' := { s with mt := index }) 0 (.int .i64 index) (fun _ => rfl) rfl).store (s' := { s with mt := index, nx := max s.nx (index + 1) }) 1 (.int .i64 (max s.nx (index + 1))) (fun _ => rfl) rfl).store (s' := s.ackedPre index) 3 (.bool false) (fun _ => by rw [hpre]; rfl) rfl
  have HF : Hid (Calls Try.prog 51 #[.pointer (some ⟨r, 0, none⟩), .int .i64 index] (((w.setCell ⟨r, 0, none⟩ (.int .i64 index)).setCell ⟨r, 1, none⟩ (.int .i64 (max s.nx (index + 1)))).setCell ⟨r, 3, none⟩ (.bool false)) fun e w' => e = .returned (.tuple #[]) ∧ RgTo w r G (s.ackedFirst index) w') := RefFree_of ht index
  have hempty := hr.empty (by omega)
  have HK : ∀ w3, RgTo w r G (s.ackedFirst index) w3 → RgTo w r G (s.acked index) ((w3.setCell ⟨r, 2, none⟩ (.int .i64 0)).setCell ⟨r, 1, none⟩ (.int .i64 ((s.ackedFirst index).mt + 1))) := fun w3 h3 =>
    ((h3.store (s' := { (s.ackedFirst index) with st := 0 }) 2 (.int .i64 0) (fun _ => rfl) rfl).store (s' := { (s.ackedFirst index) with st := 0, nx := (s.ackedFirst index).mt + 1 }) 1 (.int .i64 ((s.ackedFirst index).mt + 1)) (fun _ => rfl) rfl).conv (by rw [acked_2 s index hst, if_pos (by show s.sn ≤ max s.mt index; omega)]; simp [Pg.entered, Pg.ackedFirst, hempty])
  replace HK := Lib.hid HK
  have hst' : (s.ackedFirst index).st = 2 := hst
  have hsn' : decide ((s.ackedFirst index).sn ≤ (s.ackedFirst index).mt) = true := by
    show decide (s.sn ≤ max s.mt index) = true
    simp; omega
  generalize s.ackedFirst index = t at *
  clear hpre ht fr hst 
  go_enter Try.func23, Try.ntmps23
  go_wp2_with (first | (go_at_call 51; refine HF.out.mono ?_; rintro e w3 ⟨rfl, h3⟩; obtain ⟨a3, cap3, d0, d1, d2, d4, d6, g1, g2, g4⟩ := h3.cells; rw [hst'] at d2; have R3 := Lib.hid (HK.out _ h3); clear h3))
  go_quiet (fail)
  go_wp2
  go_ret
  exact ⟨rfl, R3.out.drewN _⟩

set_option maxHeartbeats 1600000 in
theorem RefAcked_up2no (w : World) (r : Nat) (s : Pg) (G : List Nat) (index : Int) (h : RgAt w r s G) (hm : NumOk s.mt) (hi : NumOk index) (hst : s.st = 2) (hlt : s.mt < index) (hsn : max s.mt index < s.sn) :
    Calls Try.prog 23 #[.pointer (some ⟨r, 0, none⟩), .int .i64 index] w fun e w' => e = .returned (.bool true) ∧ RgTo w r G (s.acked index) w' := by
  have hmt := acked_mt s index hm hi
  obtain ⟨hmt1, hmt2⟩ := hmt
  obtain ⟨hi1, hi2⟩ := hi
  obtain ⟨a, cap, -, c0, c1, c2, c3, -, -, -, fr⟩ := h.cells
  have f0 := fr 0
  have f1 := fr 1
  have f3 := fr 3
  have hpre : s.ackedPre index = { s with mt := index, nx := max s.nx (index + 1), pz := false } := by
    have e1 : max s.mt index = index := by omega
    simp [Pg.ackedPre, hlt, e1]
  have ht := (((RgTo.refl h).store (s' := { s with mt := index }) 0 (.int .i64 index) (fun _ => rfl) rfl).store (s' := { s with mt := index, nx := max s.nx (index + 1) }) 1 (.int .i64 (max s.nx (index + 1))) (fun _ => rfl) rfl).store (s' := s.ackedPre index) 3 (.bool false) (fun _ => by rw [hpre]; rfl) rfl
  have HF : Hid (Calls Try.prog 51 #[.pointer (some ⟨r, 0, none⟩), .int .i64 index] (((w.setCell ⟨r, 0, none⟩ (.int .i64 index)).setCell ⟨r, 1, none⟩ (.int .i64 (max s.nx (index + 1)))).setCell ⟨r, 3, none⟩ (.bool false)) fun e w' => e = .returned (.tuple #[]) ∧ RgTo w r G (s.ackedFirst index) w') := RefFree_of ht index
  have HK : ∀ w3, RgTo w r G (s.ackedFirst index) w3 → RgTo w r G (s.acked index) w3 := fun w3 h3 => h3.conv (by rw [acked_2 s index hst, if_neg (by show ¬ s.sn ≤ max s.mt index; omega)])
  replace HK := Lib.hid HK
  have hst' : (s.ackedFirst index).st = 2 := hst
  have hsn' : decide ((s.ackedFirst index).sn ≤ (s.ackedFirst index).mt) = false := by
    show decide (s.sn ≤ max s.mt index) = false
    simp; omega
  generalize s.ackedFirst index = t at *
  clear hpre ht fr hst 
  go_enter Try.func23, Try.ntmps23
  go_wp2_with (first | (go_at_call 51; refine HF.out.mono ?_; rintro e w3 ⟨rfl, h3⟩; obtain ⟨a3, cap3, d0, d1, d2, d4, d6, g1, g2, g4⟩ := h3.cells; rw [hst'] at d2; have R3 := Lib.hid (HK.out _ h3); clear h3))
  go_quiet (fail)
  go_wp2
  go_ret
  exact ⟨rfl, R3.out.drewN _⟩

set_option maxHeartbeats 1600000 in
theorem RefAcked_no0eq (w : World) (r : Nat) (s : Pg) (G : List Nat) (index : Int) (h : RgAt w r s G) (hm : NumOk s.mt) (hi : NumOk index) (hst : s.st = 0) (hlt : index = s.mt) :
    Calls Try.prog 23 #[.pointer (some ⟨r, 0, none⟩), .int .i64 index] w fun e w' => e = .returned (.bool false) ∧ RgTo w r G (s.acked index) w' := by
  have hmt := acked_mt s index hm hi
  obtain ⟨hmt1, hmt2⟩ := hmt
  obtain ⟨hi1, hi2⟩ := hi
  obtain ⟨a, cap, -, c0, c1, c2, c3, -, -, -, fr⟩ := h.cells
  have f0 := fr 0
  have f1 := fr 1
  have f3 := fr 3
  have hpre : s.ackedPre index = { s with pz := false } := by
    have e1 : max s.mt index = s.mt := by omega
    have e2 : ¬ s.mt < index := by omega
    simp [Pg.ackedPre, e1, e2]
  have ht := (RgTo.refl h).store (s' := s.ackedPre index) 3 (.bool false) (fun _ => by rw [hpre]; rfl) rfl
  have HF : Hid (Calls Try.prog 51 #[.pointer (some ⟨r, 0, none⟩), .int .i64 index] (w.setCell ⟨r, 3, none⟩ (.bool false)) fun e w' => e = .returned (.tuple #[]) ∧ RgTo w r G (s.ackedFirst index) w') := RefFree_of ht index
  have HK : ∀ w3, RgTo w r G (s.ackedFirst index) w3 → RgTo w r G (s.acked index) (((w3.setCell ⟨r, 2, none⟩ (.int .i64 1)).setCell ⟨r, 4, none⟩ (.slice none 0 0)).setCell ⟨r, 1, none⟩ (.int .i64 ((s.ackedFirst index).mt + 1))) := fun w3 h3 =>
    ((((h3.store (s' := { (s.ackedFirst index) with st := 1 }) 2 (.int .i64 1) (fun _ => rfl) rfl).cleared).store (s' := { (s.ackedFirst index) with st := 1, xs := [], nx := (s.ackedFirst index).mt + 1 }) 1 (.int .i64 ((s.ackedFirst index).mt + 1)) (fun _ => rfl) rfl)).conv (by rw [acked_0 s index hst, if_pos (by omega)]; rfl)
  replace HK := Lib.hid HK
  have hst' : (s.ackedFirst index).st = 0 := hst
  have hbool : decide (s.mt < index) = false := by simp; omega
  have hge : decide (s.mt ≤ index) = true := by simp; omega
  generalize s.ackedFirst index = t at *
  clear hpre ht fr hst hlt
  go_enter Try.func23, Try.ntmps23
  go_wp2_with (first | (go_at_call 51; refine HF.out.mono ?_; rintro e w3 ⟨rfl, h3⟩; obtain ⟨a3, cap3, d0, d1, d2, d4, d6, g1, g2, g4⟩ := h3.cells; rw [hst'] at d2; have R3 := Lib.hid (HK.out _ h3); clear h3))
  go_ret
  exact ⟨rfl, R3.out⟩

set_option maxHeartbeats 1600000 in
theorem RefAcked_no0lt (w : World) (r : Nat) (s : Pg) (G : List Nat) (index : Int) (h : RgAt w r s G) (hm : NumOk s.mt) (hi : NumOk index) (hst : s.st = 0) (hlt : index < s.mt) :
    Calls Try.prog 23 #[.pointer (some ⟨r, 0, none⟩), .int .i64 index] w fun e w' => e = .returned (.bool false) ∧ RgTo w r G (s.acked index) w' := by
  have hmt := acked_mt s index hm hi
  obtain ⟨hmt1, hmt2⟩ := hmt
  obtain ⟨hi1, hi2⟩ := hi
  obtain ⟨a, cap, -, c0, c1, c2, c3, -, -, -, fr⟩ := h.cells
  have f0 := fr 0
  have f1 := fr 1
  have f3 := fr 3
  have hpre : s.ackedPre index = { s with pz := false } := by
    have e1 : max s.mt index = s.mt := by omega
    have e2 : ¬ s.mt < index := by omega
    simp [Pg.ackedPre, e1, e2]
  have ht := (RgTo.refl h).store (s' := s.ackedPre index) 3 (.bool false) (fun _ => by rw [hpre]; rfl) rfl
  have HF : Hid (Calls Try.prog 51 #[.pointer (some ⟨r, 0, none⟩), .int .i64 index] (w.setCell ⟨r, 3, none⟩ (.bool false)) fun e w' => e = .returned (.tuple #[]) ∧ RgTo w r G (s.ackedFirst index) w') := RefFree_of ht index
  have HK : ∀ w3, RgTo w r G (s.ackedFirst index) w3 → RgTo w r G (s.acked index) w3 := fun w3 h3 => h3.conv (by rw [acked_0 s index hst, if_neg (by omega)])
  replace HK := Lib.hid HK
  have hst' : (s.ackedFirst index).st = 0 := hst
  have hbool : decide (s.mt < index) = false := by simp; omega
  have hge : decide (s.mt ≤ index) = false := by simp; omega
  generalize s.ackedFirst index = t at *
  clear hpre ht fr hst hlt
  go_enter Try.func23, Try.ntmps23
  go_wp2_with (first | (go_at_call 51; refine HF.out.mono ?_; rintro e w3 ⟨rfl, h3⟩; obtain ⟨a3, cap3, d0, d1, d2, d4, d6, g1, g2, g4⟩ := h3.cells; rw [hst'] at d2; have R3 := Lib.hid (HK.out _ h3); clear h3))
  go_quiet (fail)
  go_wp2
  go_ret
  exact ⟨rfl, R3.out.drewN _⟩

set_option maxHeartbeats 1600000 in
theorem RefAcked_no1 (w : World) (r : Nat) (s : Pg) (G : List Nat) (index : Int) (h : RgAt w r s G) (hm : NumOk s.mt) (hi : NumOk index) (hst : s.st = 1) (hlt : index ≤ s.mt) :
    Calls Try.prog 23 #[.pointer (some ⟨r, 0, none⟩), .int .i64 index] w fun e w' => e = .returned (.bool false) ∧ RgTo w r G (s.acked index) w' := by
  have hmt := acked_mt s index hm hi
  obtain ⟨hmt1, hmt2⟩ := hmt
  obtain ⟨hi1, hi2⟩ := hi
  obtain ⟨a, cap, -, c0, c1, c2, c3, -, -, -, fr⟩ := h.cells
  have f0 := fr 0
  have f1 := fr 1
  have f3 := fr 3
  have hpre : s.ackedPre index = { s with pz := false } := by
    have e1 : max s.mt index = s.mt := by omega
    have e2 : ¬ s.mt < index := by omega
    simp [Pg.ackedPre, e1, e2]
  have ht := (RgTo.refl h).store (s' := s.ackedPre index) 3 (.bool false) (fun _ => by rw [hpre]; rfl) rfl
  have HF : Hid (Calls Try.prog 51 #[.pointer (some ⟨r, 0, none⟩), .int .i64 index] (w.setCell ⟨r, 3, none⟩ (.bool false)) fun e w' => e = .returned (.tuple #[]) ∧ RgTo w r G (s.ackedFirst index) w') := RefFree_of ht index
  have HK : ∀ w3, RgTo w r G (s.ackedFirst index) w3 → RgTo w r G (s.acked index) w3 := fun w3 h3 => h3.conv (by rw [acked_1 s index hst])
  replace HK := Lib.hid HK
  have hst' : (s.ackedFirst index).st = 1 := hst
  have hbool : decide (s.mt < index) = false := by simp; omega
  generalize s.ackedFirst index = t at *
  clear hpre ht fr hst hlt
  go_enter Try.func23, Try.ntmps23
  go_wp2_with (first | (go_at_call 51; refine HF.out.mono ?_; rintro e w3 ⟨rfl, h3⟩; obtain ⟨a3, cap3, d0, d1, d2, d4, d6, g1, g2, g4⟩ := h3.cells; rw [hst'] at d2; have R3 := Lib.hid (HK.out _ h3); clear h3))
  go_quiet (fail)
  go_wp2
  go_ret
  exact ⟨rfl, R3.out.drewN _⟩

set_option maxHeartbeats 1600000 in
theorem RefAcked_no2yes (w : World) (r : Nat) (s : Pg) (G : List Nat) (index : Int) (h : RgAt w r s G) (hm : NumOk s.mt) (hi : NumOk index) (hr : s.Rise) (hst : s.st = 2) (hlt : index ≤ s.mt) (hsn : s.sn ≤ max s.mt index) :
    Calls Try.prog 23 #[.pointer (some ⟨r, 0, none⟩), .int .i64 index] w fun e w' => e = .returned (.bool false) ∧ RgTo w r G (s.acked index) w' := by
  have hmt := acked_mt s index hm hi
  obtain ⟨hmt1, hmt2⟩ := hmt
  obtain ⟨hi1, hi2⟩ := hi
  obtain ⟨a, cap, -, c0, c1, c2, c3, -, -, -, fr⟩ := h.cells
  have f0 := fr 0
  have f1 := fr 1
  have f3 := fr 3
  have hpre : s.ackedPre index = { s with pz := false } := by
    have e1 : max s.mt index = s.mt := by omega
    have e2 : ¬ s.mt < index := by omega
    simp [Pg.ackedPre, e1, e2]
  have ht := (RgTo.refl h).store (s' := s.ackedPre index) 3 (.bool false) (fun _ => by rw [hpre]; rfl) rfl
  have HF : Hid (Calls Try.prog 51 #[.pointer (some ⟨r, 0, none⟩), .int .i64 index] (w.setCell ⟨r, 3, none⟩ (.bool false)) fun e w' => e = .returned (.tuple #[]) ∧ RgTo w r G (s.ackedFirst index) w') := RefFree_of ht index
  have hempty := hr.empty (by omega)
  have HK : ∀ w3, RgTo w r G (s.ackedFirst index) w3 → RgTo w r G (s.acked index) ((w3.setCell ⟨r, 2, none⟩ (.int .i64 0)).setCell ⟨r, 1, none⟩ (.int .i64 ((s.ackedFirst index).mt + 1))) := fun w3 h3 =>
    ((h3.store (s' := { (s.ackedFirst index) with st := 0 }) 2 (.int .i64 0) (fun _ => rfl) rfl).store (s' := { (s.ackedFirst index) with st := 0, nx := (s.ackedFirst index).mt + 1 }) 1 (.int .i64 ((s.ackedFirst index).mt + 1)) (fun _ => rfl) rfl).conv (by rw [acked_2 s index hst, if_pos (by show s.sn ≤ max s.mt index; omega)]; simp [Pg.entered, Pg.ackedFirst, hempty])
  replace HK := Lib.hid HK
  have hst' : (s.ackedFirst index).st = 2 := hst
  have hsn' : decide ((s.ackedFirst index).sn ≤ (s.ackedFirst index).mt) = true := by
    show decide (s.sn ≤ max s.mt index) = true
    simp; omega
  have hbool : decide (s.mt < index) = false := by simp; omega
  generalize s.ackedFirst index = t at *
  clear hpre ht fr hst hlt
  go_enter Try.func23, Try.ntmps23
  go_wp2_with (first | (go_at_call 51; refine HF.out.mono ?_; rintro e w3 ⟨rfl, h3⟩; obtain ⟨a3, cap3, d0, d1, d2, d4, d6, g1, g2, g4⟩ := h3.cells; rw [hst'] at d2; have R3 := Lib.hid (HK.out _ h3); clear h3))
  go_quiet (fail)
  go_wp2
  go_ret
  exact ⟨rfl, R3.out.drewN _⟩

set_option maxHeartbeats 1600000 in
theorem RefAcked_no2no (w : World) (r : Nat) (s : Pg) (G : List Nat) (index : Int) (h : RgAt w r s G) (hm : NumOk s.mt) (hi : NumOk index) (hst : s.st = 2) (hlt : index ≤ s.mt) (hsn : max s.mt index < s.sn) :
    Calls Try.prog 23 #[.pointer (some ⟨r, 0, none⟩), .int .i64 index] w fun e w' => e = .returned (.bool false) ∧ RgTo w r G (s.acked index) w' := by
  have hmt := acked_mt s index hm hi
  obtain ⟨hmt1, hmt2⟩ := hmt
  obtain ⟨hi1, hi2⟩ := hi
  obtain ⟨a, cap, -, c0, c1, c2, c3, -, -, -, fr⟩ := h.cells
  have f0 := fr 0
  have f1 := fr 1
  have f3 := fr 3
  have hpre : s.ackedPre index = { s with pz := false } := by
    have e1 : max s.mt index = s.mt := by omega
    have e2 : ¬ s.mt < index := by omega
    simp [Pg.ackedPre, e1, e2]
  have ht := (RgTo.refl h).store (s' := s.ackedPre index) 3 (.bool false) (fun _ => by rw [hpre]; rfl) rfl
  have HF : Hid (Calls Try.prog 51 #[.pointer (some ⟨r, 0, none⟩), .int .i64 index] (w.setCell ⟨r, 3, none⟩ (.bool false)) fun e w' => e = .returned (.tuple #[]) ∧ RgTo w r G (s.ackedFirst index) w') := RefFree_of ht index
  have HK : ∀ w3, RgTo w r G (s.ackedFirst index) w3 → RgTo w r G (s.acked index) w3 := fun w3 h3 => h3.conv (by rw [acked_2 s index hst, if_neg (by show ¬ s.sn ≤ max s.mt index; omega)])
  replace HK := Lib.hid HK
  have hst' : (s.ackedFirst index).st = 2 := hst
  have hsn' : decide ((s.ackedFirst index).sn ≤ (s.ackedFirst index).mt) = false := by
    show decide (s.sn ≤ max s.mt index) = false
    simp; omega
  have hbool : decide (s.mt < index) = false := by simp; omega
  generalize s.ackedFirst index = t at *
  clear hpre ht fr hst hlt
  go_enter Try.func23, Try.ntmps23
  go_wp2_with (first | (go_at_call 51; refine HF.out.mono ?_; rintro e w3 ⟨rfl, h3⟩; obtain ⟨a3, cap3, d0, d1, d2, d4, d6, g1, g2, g4⟩ := h3.cells; rw [hst'] at d2; have R3 := Lib.hid (HK.out _ h3); clear h3))
  go_quiet (fail)
  go_wp2
  go_ret
  exact ⟨rfl, R3.out.drewN _⟩

theorem RefAcked_any (w : World) (r : Nat) (s : Pg) (G : List Nat) (index : Int) (h : RgAt w r s G) (hm : NumOk s.mt) (hi : NumOk index) (hr : s.Rise) (hst : s.st = 0 ∨ s.st = 1 ∨ s.st = 2) :
    Calls Try.prog 23 #[.pointer (some ⟨r, 0, none⟩), .int .i64 index] w fun e w' => e = .returned (.bool (decide (s.mt < index))) ∧ RgTo w r G (s.acked index) w' := by
  by_cases hlt : s.mt < index
  · rw [decide_eq_true hlt]
    rcases hst with h0 | h1 | h2
    · exact RefAcked_up0eq w r s G index h hm hi h0 hlt
    · exact RefAcked_up1 w r s G index h hm hi h1 hlt
    · by_cases hs : s.sn ≤ max s.mt index
      · exact RefAcked_up2yes w r s G index h hm hi hr h2 hlt hs
      · exact RefAcked_up2no w r s G index h hm hi h2 hlt (by omega)
  · rw [decide_eq_false hlt]
    rcases hst with h0 | h1 | h2
    · by_cases he : index = s.mt
      · exact RefAcked_no0eq w r s G index h hm hi h0 he
      · exact RefAcked_no0lt w r s G index h hm hi h0 (by omega)
    · exact RefAcked_no1 w r s G index h hm hi h1 (by omega)
    · by_cases hs : s.sn ≤ max s.mt index
      · exact RefAcked_no2yes w r s G index h hm hi hr h2 (by omega) hs
      · exact RefAcked_no2no w r s G index h hm hi h2 (by omega) (by omega)

end Go.Proofs.Ytniceappkpiekaa
