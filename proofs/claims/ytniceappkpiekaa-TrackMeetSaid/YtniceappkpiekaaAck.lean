/-
  track.Progress.Acked: by the table. (Printed by gen_acked.py.)
-/
import Derived.Test.YtniceappkpiekaaRej
namespace Go.Proofs.Ytniceappkpiekaa
open Go.RowKit

theorem acked_0 (s : Pg) (index : Int) (h : s.st = 0) : s.acked index = if s.mt ≤ index then (s.ackedFirst index).entered 1 else s.ackedFirst index := by simp [Pg.acked, h]
theorem acked_1 (s : Pg) (index : Int) (h : s.st = 1) : s.acked index = s.ackedFirst index := by simp [Pg.acked, h]
theorem acked_2 (s : Pg) (index : Int) (h : s.st = 2) : s.acked index = if (s.ackedFirst index).sn ≤ (s.ackedFirst index).mt then (s.ackedFirst index).entered 0 else s.ackedFirst index := by simp [Pg.acked, h]
/-- behind the first stores. -/
def Pg.ackedPre (s : Pg) (index : Int) : Pg := { s with mt := max s.mt index, nx := if s.mt < index then max s.nx (index + 1) else s.nx, pz := false }
theorem acked_mt (s : Pg) (index : Int) (hm : NumOk s.mt) (hi : NumOk index) : NumOk (s.ackedFirst index).mt := by
  unfold NumOk Pg.ackedFirst at *
  simp only
  omega

set_option maxHeartbeats 1600000 in
theorem Acked_up0 (w : World) (p : Nat) (s : Pg) (F : List Nat) (index : Int) (h : PgAt w p s F) (hm : NumOk s.mt) (hi : NumOk index) (hst : s.st = 0) (hlt : s.mt < index) :
    Calls Try.prog 22 #[.pointer (some ⟨p, 0, none⟩), .int .i64 index] w fun e w' => e = .returned (.bool true) ∧ PgTo w p F (s.acked index) w' := by
  have hmt := acked_mt s index hm hi
  have hi' := hi
  obtain ⟨hi1, hi2⟩ := hi'
  obtain ⟨q, p0, p1, p2, p3, -, p5, fr, -⟩ := h.cells
  have f1 := fr 1
  have f2 := fr 2
  have f5 := fr 5
  have hpre : s.ackedPre index = { s with mt := index, nx := max s.nx (index + 1), pz := false } := by
    have e1 : max s.mt index = index := by omega
    simp [Pg.ackedPre, hlt, e1]
  have ht := (((PgTo.refl h).store (s' := { s with mt := index }) 1 (.int .i64 index) (fun _ => rfl) rfl rfl).store (s' := { s with mt := index, nx := max s.nx (index + 1) }) 2 (.int .i64 (max s.nx (index + 1))) (fun _ => rfl) rfl rfl).store (s' := s.ackedPre index) 5 (.bool false) (fun _ => by rw [hpre]; rfl) rfl rfl
  have HF := Lib.hid (Free_of (q := q) ht (by simp [World.cell?_setCell_other, p0]) index)
  have HK : ∀ w3, PgTo w p F (s.ackedFirst index) w3 → (∀ o1 o2 o3, (((w3.alloc o1).alloc o2).alloc o3).cell? ⟨p, 3, none⟩ = some (.int .i64 0)) ∧ Hid (∀ o2 o3, Calls Try.prog 59 #[.int .i64 index, .int .i64 s.mt, .pointer (some ⟨w3.heap.size, 0, none⟩)] (((w3.alloc (.cells #[.pointer (some ⟨p, 0, none⟩)] 31)).alloc o2).alloc o3) fun e w' => e = .returned (.tuple #[]) ∧ PgTo w p F (s.acked index) w') := fun w3 h3 => by
    refine ⟨fun o1 o2 o3 => by rw [h3.facts3, ← hst]; rfl, fun o2 o3 => ?_⟩
    obtain ⟨F', a, c, k⟩ := h3.tabled o2 o3
    exact (acked2_any _ _ p (s.ackedFirst index) F' index s.mt a c hmt).mono fun e w' ⟨h1, h2⟩ => ⟨h1, by rw [acked_0 s index hst]; exact k _ _ h2⟩
  replace HK := Lib.hid HK
  have hbool : decide (s.mt < index) = true := by simp; omega
  clear hpre ht fr hmt hst
  go_enter Try.func22, Try.ntmps22
  go_wp2_with (first | (go_at_call 49; refine HF.out.mono ?_; rintro e w3 ⟨rfl, h3⟩; obtain ⟨k3, kc⟩ := HK.out _ h3; clear h3) | (go_at_call 50; refine (table_any _ _).mono ?_; rintro e w' ⟨rfl, rfl⟩) | (go_at_call 59; refine (kc.out _ _).mono ?_; rintro e w' ⟨rfl, r1⟩))
  go_ret
  exact ⟨rfl, r1⟩

set_option maxHeartbeats 1600000 in
theorem Acked_up1 (w : World) (p : Nat) (s : Pg) (F : List Nat) (index : Int) (h : PgAt w p s F) (hm : NumOk s.mt) (hi : NumOk index) (hst : s.st = 1) (hlt : s.mt < index) :
    Calls Try.prog 22 #[.pointer (some ⟨p, 0, none⟩), .int .i64 index] w fun e w' => e = .returned (.bool true) ∧ PgTo w p F (s.acked index) w' := by
  have hmt := acked_mt s index hm hi
  have hi' := hi
  obtain ⟨hi1, hi2⟩ := hi'
  obtain ⟨q, p0, p1, p2, p3, -, p5, fr, -⟩ := h.cells
  have f1 := fr 1
  have f2 := fr 2
  have f5 := fr 5
  have hpre : s.ackedPre index = { s with mt := index, nx := max s.nx (index + 1), pz := false } := by
    have e1 : max s.mt index = index := by omega
    simp [Pg.ackedPre, hlt, e1]
  have ht := (((PgTo.refl h).store (s' := { s with mt := index }) 1 (.int .i64 index) (fun _ => rfl) rfl rfl).store (s' := { s with mt := index, nx := max s.nx (index + 1) }) 2 (.int .i64 (max s.nx (index + 1))) (fun _ => rfl) rfl rfl).store (s' := s.ackedPre index) 5 (.bool false) (fun _ => by rw [hpre]; rfl) rfl rfl
  have HF := Lib.hid (Free_of (q := q) ht (by simp [World.cell?_setCell_other, p0]) index)
  have HK : ∀ w3, PgTo w p F (s.ackedFirst index) w3 → (∀ o1 o2 o3, (((w3.alloc o1).alloc o2).alloc o3).cell? ⟨p, 3, none⟩ = some (.int .i64 1)) ∧ PgTo w p F (s.acked index) w3 := fun w3 h3 =>
    ⟨fun o1 o2 o3 => by rw [h3.facts3, ← hst]; rfl, by rw [acked_1 s index hst]; exact h3⟩
  replace HK := Lib.hid HK
  have hbool : decide (s.mt < index) = true := by simp; omega
  clear hpre ht fr hmt hst
  go_enter Try.func22, Try.ntmps22
  go_wp2_with (first | (go_at_call 49; refine HF.out.mono ?_; rintro e w3 ⟨rfl, h3⟩; obtain ⟨k3, kc⟩ := HK.out _ h3; clear h3) | (go_at_call 50; refine (table_any _ _).mono ?_; rintro e w' ⟨rfl, rfl⟩) | (go_at_call 62; refine (nothing4_any _ _ _).mono ?_; rintro e w' ⟨rfl, rfl⟩))
  go_ret
  exact ⟨rfl, ((kc.alloc _).alloc _).alloc _⟩

set_option maxHeartbeats 1600000 in
theorem Acked_up2 (w : World) (p : Nat) (s : Pg) (F : List Nat) (index : Int) (h : PgAt w p s F) (hm : NumOk s.mt) (hi : NumOk index) (hst : s.st = 2) (hlt : s.mt < index) :
    Calls Try.prog 22 #[.pointer (some ⟨p, 0, none⟩), .int .i64 index] w fun e w' => e = .returned (.bool true) ∧ PgTo w p F (s.acked index) w' := by
  have hmt := acked_mt s index hm hi
  have hi' := hi
  obtain ⟨hi1, hi2⟩ := hi'
  obtain ⟨q, p0, p1, p2, p3, -, p5, fr, -⟩ := h.cells
  have f1 := fr 1
  have f2 := fr 2
  have f5 := fr 5
  have hpre : s.ackedPre index = { s with mt := index, nx := max s.nx (index + 1), pz := false } := by
    have e1 : max s.mt index = index := by omega
    simp [Pg.ackedPre, hlt, e1]
  have ht := (((PgTo.refl h).store (s' := { s with mt := index }) 1 (.int .i64 index) (fun _ => rfl) rfl rfl).store (s' := { s with mt := index, nx := max s.nx (index + 1) }) 2 (.int .i64 (max s.nx (index + 1))) (fun _ => rfl) rfl rfl).store (s' := s.ackedPre index) 5 (.bool false) (fun _ => by rw [hpre]; rfl) rfl rfl
  have HF := Lib.hid (Free_of (q := q) ht (by simp [World.cell?_setCell_other, p0]) index)
  have HK : ∀ w3, PgTo w p F (s.ackedFirst index) w3 → (∀ o1 o2 o3, (((w3.alloc o1).alloc o2).alloc o3).cell? ⟨p, 3, none⟩ = some (.int .i64 2)) ∧ Hid (∀ o2 o3, Calls Try.prog 66 #[.int .i64 index, .int .i64 s.mt, .pointer (some ⟨w3.heap.size, 0, none⟩)] (((w3.alloc (.cells #[.pointer (some ⟨p, 0, none⟩)] 31)).alloc o2).alloc o3) fun e w' => e = .returned (.tuple #[]) ∧ PgTo w p F (s.acked index) w') := fun w3 h3 => by
    refine ⟨fun o1 o2 o3 => by rw [h3.facts3, ← hst]; rfl, fun o2 o3 => ?_⟩
    obtain ⟨F', a, c, k⟩ := h3.tabled o2 o3
    exact (acked7_any _ _ p (s.ackedFirst index) F' index s.mt a c hmt).mono fun e w' ⟨h1, h2⟩ => ⟨h1, by rw [acked_2 s index hst]; exact k _ _ h2⟩
  replace HK := Lib.hid HK
  have hbool : decide (s.mt < index) = true := by simp; omega
  clear hpre ht fr hmt hst
  go_enter Try.func22, Try.ntmps22
  go_wp2_with (first | (go_at_call 49; refine HF.out.mono ?_; rintro e w3 ⟨rfl, h3⟩; obtain ⟨k3, kc⟩ := HK.out _ h3; clear h3) | (go_at_call 50; refine (table_any _ _).mono ?_; rintro e w' ⟨rfl, rfl⟩) | (go_at_call 66; refine (kc.out _ _).mono ?_; rintro e w' ⟨rfl, r1⟩))
  go_ret
  exact ⟨rfl, r1⟩

set_option maxHeartbeats 1600000 in
theorem Acked_no0 (w : World) (p : Nat) (s : Pg) (F : List Nat) (index : Int) (h : PgAt w p s F) (hm : NumOk s.mt) (hi : NumOk index) (hst : s.st = 0) (hlt : index ≤ s.mt) :
    Calls Try.prog 22 #[.pointer (some ⟨p, 0, none⟩), .int .i64 index] w fun e w' => e = .returned (.bool false) ∧ PgTo w p F (s.acked index) w' := by
  have hmt := acked_mt s index hm hi
  have hi' := hi
  obtain ⟨hi1, hi2⟩ := hi'
  obtain ⟨q, p0, p1, p2, p3, -, p5, fr, -⟩ := h.cells
  have f1 := fr 1
  have f2 := fr 2
  have f5 := fr 5
  have hpre : s.ackedPre index = { s with pz := false } := by
    have e1 : max s.mt index = s.mt := by omega
    have e2 : ¬ s.mt < index := by omega
    simp [Pg.ackedPre, e1, e2]
  have ht := (PgTo.refl h).store (s' := s.ackedPre index) 5 (.bool false) (fun _ => by rw [hpre]; rfl) rfl rfl
  have HF := Lib.hid (Free_of (q := q) ht (by simp [World.cell?_setCell_other, p0]) index)
  have HK : ∀ w3, PgTo w p F (s.ackedFirst index) w3 → (∀ o1 o2 o3, (((w3.alloc o1).alloc o2).alloc o3).cell? ⟨p, 3, none⟩ = some (.int .i64 0)) ∧ Hid (∀ o2 o3, Calls Try.prog 59 #[.int .i64 index, .int .i64 s.mt, .pointer (some ⟨w3.heap.size, 0, none⟩)] (((w3.alloc (.cells #[.pointer (some ⟨p, 0, none⟩)] 31)).alloc o2).alloc o3) fun e w' => e = .returned (.tuple #[]) ∧ PgTo w p F (s.acked index) w') := fun w3 h3 => by
    refine ⟨fun o1 o2 o3 => by rw [h3.facts3, ← hst]; rfl, fun o2 o3 => ?_⟩
    obtain ⟨F', a, c, k⟩ := h3.tabled o2 o3
    exact (acked2_any _ _ p (s.ackedFirst index) F' index s.mt a c hmt).mono fun e w' ⟨h1, h2⟩ => ⟨h1, by rw [acked_0 s index hst]; exact k _ _ h2⟩
  replace HK := Lib.hid HK
  have hbool : decide (s.mt < index) = false := by simp; omega
  clear hpre ht fr hmt hst
  go_enter Try.func22, Try.ntmps22
  go_wp2_with (first | (go_at_call 49; refine HF.out.mono ?_; rintro e w3 ⟨rfl, h3⟩; obtain ⟨k3, kc⟩ := HK.out _ h3; clear h3) | (go_at_call 50; refine (table_any _ _).mono ?_; rintro e w' ⟨rfl, rfl⟩) | (go_at_call 59; refine (kc.out _ _).mono ?_; rintro e w' ⟨rfl, r1⟩))
  go_ret
  exact ⟨rfl, r1⟩

set_option maxHeartbeats 1600000 in
theorem Acked_no1 (w : World) (p : Nat) (s : Pg) (F : List Nat) (index : Int) (h : PgAt w p s F) (hm : NumOk s.mt) (hi : NumOk index) (hst : s.st = 1) (hlt : index ≤ s.mt) :
    Calls Try.prog 22 #[.pointer (some ⟨p, 0, none⟩), .int .i64 index] w fun e w' => e = .returned (.bool false) ∧ PgTo w p F (s.acked index) w' := by
  have hmt := acked_mt s index hm hi
  have hi' := hi
  obtain ⟨hi1, hi2⟩ := hi'
  obtain ⟨q, p0, p1, p2, p3, -, p5, fr, -⟩ := h.cells
  have f1 := fr 1
  have f2 := fr 2
  have f5 := fr 5
  have hpre : s.ackedPre index = { s with pz := false } := by
    have e1 : max s.mt index = s.mt := by omega
    have e2 : ¬ s.mt < index := by omega
    simp [Pg.ackedPre, e1, e2]
  have ht := (PgTo.refl h).store (s' := s.ackedPre index) 5 (.bool false) (fun _ => by rw [hpre]; rfl) rfl rfl
  have HF := Lib.hid (Free_of (q := q) ht (by simp [World.cell?_setCell_other, p0]) index)
  have HK : ∀ w3, PgTo w p F (s.ackedFirst index) w3 → (∀ o1 o2 o3, (((w3.alloc o1).alloc o2).alloc o3).cell? ⟨p, 3, none⟩ = some (.int .i64 1)) ∧ PgTo w p F (s.acked index) w3 := fun w3 h3 =>
    ⟨fun o1 o2 o3 => by rw [h3.facts3, ← hst]; rfl, by rw [acked_1 s index hst]; exact h3⟩
  replace HK := Lib.hid HK
  have hbool : decide (s.mt < index) = false := by simp; omega
  clear hpre ht fr hmt hst
  go_enter Try.func22, Try.ntmps22
  go_wp2_with (first | (go_at_call 49; refine HF.out.mono ?_; rintro e w3 ⟨rfl, h3⟩; obtain ⟨k3, kc⟩ := HK.out _ h3; clear h3) | (go_at_call 50; refine (table_any _ _).mono ?_; rintro e w' ⟨rfl, rfl⟩) | (go_at_call 62; refine (nothing4_any _ _ _).mono ?_; rintro e w' ⟨rfl, rfl⟩))
  go_ret
  exact ⟨rfl, ((kc.alloc _).alloc _).alloc _⟩

set_option maxHeartbeats 1600000 in
theorem Acked_no2 (w : World) (p : Nat) (s : Pg) (F : List Nat) (index : Int) (h : PgAt w p s F) (hm : NumOk s.mt) (hi : NumOk index) (hst : s.st = 2) (hlt : index ≤ s.mt) :
    Calls Try.prog 22 #[.pointer (some ⟨p, 0, none⟩), .int .i64 index] w fun e w' => e = .returned (.bool false) ∧ PgTo w p F (s.acked index) w' := by
  have hmt := acked_mt s index hm hi
  have hi' := hi
  obtain ⟨hi1, hi2⟩ := hi'
  obtain ⟨q, p0, p1, p2, p3, -, p5, fr, -⟩ := h.cells
  have f1 := fr 1
  have f2 := fr 2
  have f5 := fr 5
  have hpre : s.ackedPre index = { s with pz := false } := by
    have e1 : max s.mt index = s.mt := by omega
    have e2 : ¬ s.mt < index := by omega
    simp [Pg.ackedPre, e1, e2]
  have ht := (PgTo.refl h).store (s' := s.ackedPre index) 5 (.bool false) (fun _ => by rw [hpre]; rfl) rfl rfl
  have HF := Lib.hid (Free_of (q := q) ht (by simp [World.cell?_setCell_other, p0]) index)
  have HK : ∀ w3, PgTo w p F (s.ackedFirst index) w3 → (∀ o1 o2 o3, (((w3.alloc o1).alloc o2).alloc o3).cell? ⟨p, 3, none⟩ = some (.int .i64 2)) ∧ Hid (∀ o2 o3, Calls Try.prog 66 #[.int .i64 index, .int .i64 s.mt, .pointer (some ⟨w3.heap.size, 0, none⟩)] (((w3.alloc (.cells #[.pointer (some ⟨p, 0, none⟩)] 31)).alloc o2).alloc o3) fun e w' => e = .returned (.tuple #[]) ∧ PgTo w p F (s.acked index) w') := fun w3 h3 => by
    refine ⟨fun o1 o2 o3 => by rw [h3.facts3, ← hst]; rfl, fun o2 o3 => ?_⟩
    obtain ⟨F', a, c, k⟩ := h3.tabled o2 o3
    exact (acked7_any _ _ p (s.ackedFirst index) F' index s.mt a c hmt).mono fun e w' ⟨h1, h2⟩ => ⟨h1, by rw [acked_2 s index hst]; exact k _ _ h2⟩
  replace HK := Lib.hid HK
  have hbool : decide (s.mt < index) = false := by simp; omega
  clear hpre ht fr hmt hst
  go_enter Try.func22, Try.ntmps22
  go_wp2_with (first | (go_at_call 49; refine HF.out.mono ?_; rintro e w3 ⟨rfl, h3⟩; obtain ⟨k3, kc⟩ := HK.out _ h3; clear h3) | (go_at_call 50; refine (table_any _ _).mono ?_; rintro e w' ⟨rfl, rfl⟩) | (go_at_call 66; refine (kc.out _ _).mono ?_; rintro e w' ⟨rfl, r1⟩))
  go_ret
  exact ⟨rfl, r1⟩

theorem Acked_any (w : World) (p : Nat) (s : Pg) (F : List Nat) (index : Int) (h : PgAt w p s F) (hm : NumOk s.mt) (hi : NumOk index) (hst : s.st = 0 ∨ s.st = 1 ∨ s.st = 2) :
    Calls Try.prog 22 #[.pointer (some ⟨p, 0, none⟩), .int .i64 index] w fun e w' => e = .returned (.bool (decide (s.mt < index))) ∧ PgTo w p F (s.acked index) w' := by
  by_cases hlt : s.mt < index
  · rw [decide_eq_true hlt]
    rcases hst with h0 | h1 | h2
    · exact Acked_up0 w p s F index h hm hi h0 hlt
    · exact Acked_up1 w p s F index h hm hi h1 hlt
    · exact Acked_up2 w p s F index h hm hi h2 hlt
  · rw [decide_eq_false hlt]
    rcases hst with h0 | h1 | h2
    · exact Acked_no0 w p s F index h hm hi h0 (by omega)
    · exact Acked_no1 w p s F index h hm hi h1 (by omega)
    · exact Acked_no2 w p s F index h hm hi h2 (by omega)

end Go.Proofs.Ytniceappkpiekaa
