/-
  synodref9.Progress: Sent. (Printed by gen_refsent.py.)
-/
import Derived.Test.YtniceappkpiekaaRefe
namespace Go.Proofs.Ytniceappkpiekaa
open Go.RowKit

/-- a number is laid into the window: behind the append. -/
theorem RgAt.appended {w : World} {r : Nat} {s : Pg} {v : Value} {D : List Nat} {n : Int} (hb : Blk w r (s.rcells v) 41) (hr : r ∉ D)
    (k : Nat) (o : Obj) (v' : Value) (w1 : World) (D' : List Nat) (r1 : Row w1 3 1 v' (s.xs.length + 1) (intsV s.xs ++ [.int .i64 n]) D') (k1 : Keeps D ((w.drewN k).alloc o) w1) (d1 : ∀ d, d ∈ D' → d ∈ D ∨ ((w.drewN k).alloc o).heap.size ≤ d) :
    w1.cell? ⟨r, 4, none⟩ = some v ∧ w1.frozen? ⟨r, 4, none⟩ = false ∧ w1.cell? ⟨r, 1, none⟩ = some (.int .i64 s.nx) ∧ w1.frozen? ⟨r, 1, none⟩ = false ∧
      RgTo w r (r :: D) { s with xs := s.xs ++ [n], nx := n + 1 } ((w1.setCell ⟨r, 4, none⟩ v').setCell ⟨r, 1, none⟩ (.int .i64 (n + 1))) := by
  have kk : Keeps D w w1 := (((Keeps.refl D w).drewN k).alloc o).trans k1 (fun x hx _ => hx)
  have hb1 := kk.blk hb hr
  have hr' : r ∉ D' := fun hx => by
    rcases d1 r hx with hx | hx
    · exact hr hx
    · have := hb.lt
      simp [World.drewN] at hx
      omega
  refine ⟨hb1.c 4, hb1.fr 4, hb1.c 1, hb1.fr 1, ?_⟩
  have h1 : RgTo w r (r :: D) { s with xs := s.xs ++ [n] } (w1.setCell ⟨r, 4, none⟩ v') := by
    refine ⟨r :: D', ⟨v', D', rfl, hb1.setCell 4 v', ?_, hr'⟩, (kk.mono (fun x hx _ => by simp [hx])).setCell (.inl (by simp)) _, fun x hx => ?_⟩
    · have := r1.setOther ⟨r, 4, none⟩ v' hr'
      unfold Ints
      simpa [intsV] using this
    · simp only [List.mem_cons] at hx ⊢
      rcases hx with hx | hx
      · exact .inl (.inl hx)
      · rcases d1 x hx with hx | hx
        · exact .inl (.inr hx)
        · right
          simp [World.drewN] at hx
          omega
  exact h1.store (s' := { s with xs := s.xs ++ [n], nx := n + 1 }) 1 (.int .i64 (n + 1)) (fun _ => rfl) rfl

theorem toNat_pred (n : Nat) (h : 0 < n) : ((n : Int) - 1).toNat = n - 1 := by omega
theorem drewN_drewN (w : World) (a b : Nat) : (w.drewN a).drewN b = w.drewN (a + b) := by simp [World.drewN, Nat.add_assoc]

set_option maxHeartbeats 1600000 in
theorem RefSent_0 (w : World) (r : Nat) (s : Pg) (G : List Nat) (last : Int) (h : RgAt w r s G) (hl : NumOk last) (hst : s.st = 0) (hx : s.xs = []) :
    Calls Try.prog 21 #[.pointer (some ⟨r, 0, none⟩), .int .i64 last] w fun e w' => e = .returned (.tuple #[]) ∧ RgTo w r G { s with pz := true } w' := by
  obtain ⟨hl1, hl2⟩ := hl
  have HG := Lib.hid h
  obtain ⟨v, D, rfl, hb, hi, hr⟩ := h
  obtain ⟨a, cap, rfl, -⟩ := Row.shape hi
  have c2 : w.cell? ⟨r, 2, none⟩ = some (.int .i64 0) := (hb.c 2).trans (by rw [← hst]; rfl)
  have c1 : w.cell? ⟨r, 1, none⟩ = some (.int .i64 s.nx) := hb.c 1
  have c3 : w.cell? ⟨r, 3, none⟩ = some (.bool s.pz) := hb.c 3
  have c5 : w.cell? ⟨r, 5, none⟩ = some (.int .i64 s.room) := hb.c 5
  have c4 : w.cell? ⟨r, 4, none⟩ = some (.slice a 0 cap) := (hb.c 4).trans (by rw [hx]; rfl)
  have f3 : w.frozen? ⟨r, 3, none⟩ = false := hb.fr 3
  have T := Lib.hid ((RgTo.refl HG.out).store (s' := { s with pz := true }) 3 (.bool true) (fun _ => rfl) rfl)
  clear hb hi hx hst
  go_enter Try.func21, Try.ntmps21
  go_wp2
  go_quiet (fail)
  go_wp2
  go_quiet (fail)
  go_wp2
  go_end0
  exact ⟨rfl, (T.out.drewN _).drewN _⟩

set_option maxHeartbeats 1600000 in
theorem RefSent_2 (w : World) (r : Nat) (s : Pg) (G : List Nat) (last : Int) (h : RgAt w r s G) (hl : NumOk last) (hst : s.st = 2) (hx : s.xs = []) :
    Calls Try.prog 21 #[.pointer (some ⟨r, 0, none⟩), .int .i64 last] w fun e w' => e = .returned (.tuple #[]) ∧ RgTo w r G s w' := by
  obtain ⟨hl1, hl2⟩ := hl
  have HG := Lib.hid h
  obtain ⟨v, D, rfl, hb, hi, hr⟩ := h
  obtain ⟨a, cap, rfl, -⟩ := Row.shape hi
  have c2 : w.cell? ⟨r, 2, none⟩ = some (.int .i64 2) := (hb.c 2).trans (by rw [← hst]; rfl)
  have c1 : w.cell? ⟨r, 1, none⟩ = some (.int .i64 s.nx) := hb.c 1
  have c3 : w.cell? ⟨r, 3, none⟩ = some (.bool s.pz) := hb.c 3
  have c5 : w.cell? ⟨r, 5, none⟩ = some (.int .i64 s.room) := hb.c 5
  have c4 : w.cell? ⟨r, 4, none⟩ = some (.slice a 0 cap) := (hb.c 4).trans (by rw [hx]; rfl)
  clear hb hi hx hst
  go_enter Try.func21, Try.ntmps21
  go_wp2
  go_quiet (fail)
  go_wp2
  go_quiet (fail)
  go_wp2
  go_end0
  exact ⟨rfl, ((RgTo.refl HG.out).drewN _).drewN _⟩

set_option maxHeartbeats 1600000 in
theorem RefSent_1lowE (w : World) (r : Nat) (s : Pg) (G : List Nat) (last : Int) (h : RgAt w r s G) (hl : NumOk last) (hst : s.st = 1) (hx : s.xs = []) (hn : last < s.nx) :
    Calls Try.prog 21 #[.pointer (some ⟨r, 0, none⟩), .int .i64 last] w fun e w' => e = .returned (.tuple #[]) ∧ RgTo w r G s w' := by
  obtain ⟨hl1, hl2⟩ := hl
  have HG := Lib.hid h
  obtain ⟨v, D, rfl, hb, hi, hr⟩ := h
  obtain ⟨a, cap, rfl, -⟩ := Row.shape hi
  have c2 : w.cell? ⟨r, 2, none⟩ = some (.int .i64 1) := (hb.c 2).trans (by rw [← hst]; rfl)
  have c1 : w.cell? ⟨r, 1, none⟩ = some (.int .i64 s.nx) := hb.c 1
  have c3 : w.cell? ⟨r, 3, none⟩ = some (.bool s.pz) := hb.c 3
  have c5 : w.cell? ⟨r, 5, none⟩ = some (.int .i64 s.room) := hb.c 5
  have c4 : w.cell? ⟨r, 4, none⟩ = some (.slice a 0 cap) := (hb.c 4).trans (by rw [hx]; rfl)
  have hnb : decide (s.nx ≤ last) = false := by simp; omega
  clear hb hi hx hst
  go_enter Try.func21, Try.ntmps21
  go_wp2
  go_quiet (fail)
  go_wp2
  go_quiet (fail)
  go_wp2
  go_end0
  exact ⟨rfl, ((RgTo.refl HG.out).drewN _).drewN _⟩

set_option maxHeartbeats 1600000 in
theorem RefSent_1lowF (w : World) (r : Nat) (s : Pg) (G : List Nat) (last : Int) (h : RgAt w r s G) (hl : NumOk last) (hst : s.st = 1) (hne : 0 < s.xs.length) (hn : last < s.nx) :
    Calls Try.prog 21 #[.pointer (some ⟨r, 0, none⟩), .int .i64 last] w fun e w' => e = .returned (.tuple #[]) ∧ RgTo w r G s w' := by
  obtain ⟨hl1, hl2⟩ := hl
  have HG := Lib.hid h
  obtain ⟨v, D, rfl, hb, hi, hr⟩ := h
  obtain ⟨d, off, cap, rfl, -, hcap, hmx, hcell⟩ := Row.at_ hi hne
  unfold maxLen at hmx
  have hlen : s.xs.length ≤ 9223372036854775807 := by omega
  have c2 : w.cell? ⟨r, 2, none⟩ = some (.int .i64 1) := (hb.c 2).trans (by rw [← hst]; rfl)
  have c1 : w.cell? ⟨r, 1, none⟩ = some (.int .i64 s.nx) := hb.c 1
  have c3 : w.cell? ⟨r, 3, none⟩ = some (.bool s.pz) := hb.c 3
  have c5 : w.cell? ⟨r, 5, none⟩ = some (.int .i64 s.room) := hb.c 5
  have c4 : w.cell? ⟨r, 4, none⟩ = some (.slice (some ⟨d, off, none⟩) s.xs.length cap) := hb.c 4
  have hcl : w.cell? ⟨d, off + (s.xs.length - 1), none⟩ = some (.int .i64 (s.xs.getD (s.xs.length - 1) 0)) := by
    rw [hcell _ (by omega), intsV_get _ _ (by omega)]
  have htn : ((s.xs.length : Int) - 1).toNat = s.xs.length - 1 := toNat_pred _ hne
  have hz : ((s.xs.length : Int) == 0) = false := by rw [beq_eq_false_iff_ne]; omega
  have hsub : IntKind.i64.wrap ((s.xs.length : Int) - 1) = (s.xs.length : Int) - 1 := IntWalk.i64_in _ (by omega)
  have hge : (0 : Int) ≤ (s.xs.length : Int) - 1 := by omega
  have hlt : (s.xs.length : Int) - 1 < (s.xs.length : Int) := by omega
  have hnb : decide (s.nx ≤ last) = false := by simp; omega
  generalize s.xs.getD (s.xs.length - 1) 0 = lastx at *
  clear hb hi hst hcell
  go_enter Try.func21, Try.ntmps21
  go_wp2
  go_quiet (fail)
  go_wp2
  go_quiet (fail)
  go_wp2
  go_end0
  exact ⟨rfl, ((RgTo.refl HG.out).drewN _).drewN _⟩

set_option maxHeartbeats 1600000 in
theorem RefSent_1fullF (w : World) (r : Nat) (s : Pg) (G : List Nat) (last : Int) (h : RgAt w r s G) (hl : NumOk last) (hst : s.st = 1) (hne : 0 < s.xs.length) (hn : s.nx ≤ last) (hfull : s.room ≤ s.xs.length) :
    Calls Try.prog 21 #[.pointer (some ⟨r, 0, none⟩), .int .i64 last] w fun e w' => e = .returned (.tuple #[]) ∧ RgTo w r G s w' := by
  obtain ⟨hl1, hl2⟩ := hl
  have HG := Lib.hid h
  obtain ⟨v, D, rfl, hb, hi, hr⟩ := h
  obtain ⟨d, off, cap, rfl, -, hcap, hmx, hcell⟩ := Row.at_ hi hne
  unfold maxLen at hmx
  have hlen : s.xs.length ≤ 9223372036854775807 := by omega
  have c2 : w.cell? ⟨r, 2, none⟩ = some (.int .i64 1) := (hb.c 2).trans (by rw [← hst]; rfl)
  have c1 : w.cell? ⟨r, 1, none⟩ = some (.int .i64 s.nx) := hb.c 1
  have c3 : w.cell? ⟨r, 3, none⟩ = some (.bool s.pz) := hb.c 3
  have c5 : w.cell? ⟨r, 5, none⟩ = some (.int .i64 s.room) := hb.c 5
  have c4 : w.cell? ⟨r, 4, none⟩ = some (.slice (some ⟨d, off, none⟩) s.xs.length cap) := hb.c 4
  have hcl : w.cell? ⟨d, off + (s.xs.length - 1), none⟩ = some (.int .i64 (s.xs.getD (s.xs.length - 1) 0)) := by
    rw [hcell _ (by omega), intsV_get _ _ (by omega)]
  have htn : ((s.xs.length : Int) - 1).toNat = s.xs.length - 1 := toNat_pred _ hne
  have hz : ((s.xs.length : Int) == 0) = false := by rw [beq_eq_false_iff_ne]; omega
  have hsub : IntKind.i64.wrap ((s.xs.length : Int) - 1) = (s.xs.length : Int) - 1 := IntWalk.i64_in _ (by omega)
  have hge : (0 : Int) ≤ (s.xs.length : Int) - 1 := by omega
  have hlt : (s.xs.length : Int) - 1 < (s.xs.length : Int) := by omega
  have hnb : decide (s.nx ≤ last) = true := by simpa using hn
  have hfb : decide ((s.xs.length : Int) < s.room) = false := by simp; omega
  generalize s.xs.getD (s.xs.length - 1) 0 = lastx at *
  clear hb hi hst hcell hn hfull
  go_enter Try.func21, Try.ntmps21
  go_wp2
  go_quiet (fail)
  go_wp2
  go_quiet (fail)
  go_wp2
  go_end0
  exact ⟨rfl, ((RgTo.refl HG.out).drewN _).drewN _⟩

set_option maxHeartbeats 1600000 in
theorem RefSent_1noF (w : World) (r : Nat) (s : Pg) (G : List Nat) (last : Int) (h : RgAt w r s G) (hl : NumOk last) (hst : s.st = 1) (hne : 0 < s.xs.length) (hn : s.nx ≤ last) (hfull : s.xs.length < s.room) (hab : last ≤ s.xs.getD (s.xs.length - 1) 0) :
    Calls Try.prog 21 #[.pointer (some ⟨r, 0, none⟩), .int .i64 last] w fun e w' => e = .returned (.tuple #[]) ∧ RgTo w r G s w' := by
  obtain ⟨hl1, hl2⟩ := hl
  have HG := Lib.hid h
  obtain ⟨v, D, rfl, hb, hi, hr⟩ := h
  obtain ⟨d, off, cap, rfl, -, hcap, hmx, hcell⟩ := Row.at_ hi hne
  unfold maxLen at hmx
  have hlen : s.xs.length ≤ 9223372036854775807 := by omega
  have c2 : w.cell? ⟨r, 2, none⟩ = some (.int .i64 1) := (hb.c 2).trans (by rw [← hst]; rfl)
  have c1 : w.cell? ⟨r, 1, none⟩ = some (.int .i64 s.nx) := hb.c 1
  have c3 : w.cell? ⟨r, 3, none⟩ = some (.bool s.pz) := hb.c 3
  have c5 : w.cell? ⟨r, 5, none⟩ = some (.int .i64 s.room) := hb.c 5
  have c4 : w.cell? ⟨r, 4, none⟩ = some (.slice (some ⟨d, off, none⟩) s.xs.length cap) := hb.c 4
  have hcl : w.cell? ⟨d, off + (s.xs.length - 1), none⟩ = some (.int .i64 (s.xs.getD (s.xs.length - 1) 0)) := by
    rw [hcell _ (by omega), intsV_get _ _ (by omega)]
  have htn : ((s.xs.length : Int) - 1).toNat = s.xs.length - 1 := toNat_pred _ hne
  have hz : ((s.xs.length : Int) == 0) = false := by rw [beq_eq_false_iff_ne]; omega
  have hsub : IntKind.i64.wrap ((s.xs.length : Int) - 1) = (s.xs.length : Int) - 1 := IntWalk.i64_in _ (by omega)
  have hge : (0 : Int) ≤ (s.xs.length : Int) - 1 := by omega
  have hlt : (s.xs.length : Int) - 1 < (s.xs.length : Int) := by omega
  have hnb : decide (s.nx ≤ last) = true := by simpa using hn
  have hfb : decide ((s.xs.length : Int) < s.room) = true := by simp; omega
  have habb : decide (s.xs.getD (s.xs.length - 1) 0 < last) = false := by rw [decide_eq_false_iff_not]; omega
  generalize s.xs.getD (s.xs.length - 1) 0 = lastx at *
  clear hb hi hst hcell hn hfull hab
  go_enter Try.func21, Try.ntmps21
  go_wp2
  go_quiet (fail)
  go_wp2
  go_quiet (fail)
  go_wp2
  go_end0
  exact ⟨rfl, ((RgTo.refl HG.out).drewN _).drewN _⟩

set_option maxHeartbeats 1600000 in
theorem RefSent_1yesE (w : World) (r : Nat) (s : Pg) (G : List Nat) (last : Int) (h : RgAt w r s G) (hl : NumOk last) (hst : s.st = 1) (hx : s.xs = []) (hn : s.nx ≤ last) (hfull : s.xs.length < s.room) :
    Calls Try.prog 21 #[.pointer (some ⟨r, 0, none⟩), .int .i64 last] w fun e w' => e = .returned (.tuple #[]) ∧ RgTo w r G { s with xs := s.xs ++ [last], nx := last + 1 } w' := by
  obtain ⟨hl1, hl2⟩ := hl
  obtain ⟨room, xs, mt, nx, st, sn, pz⟩ := s
  obtain rfl : xs = [] := hx
  obtain rfl : st = 1 := hst
  simp only at hn hfull ⊢
  have HG := Lib.hid h
  obtain ⟨v, D, rfl, hb, hi, hr⟩ := h
  obtain ⟨i0, hinf, hz0, hz1, hz2⟩ := info_parts infoInt
  have HI := Lib.hid hi
  have HA := Lib.hid (RgAt.appended (n := last) hb hr)
  obtain ⟨a, cap, rfl, -⟩ := Row.shape hi
  have c2 : w.cell? ⟨r, 2, none⟩ = some (.int .i64 1) := hb.c 2
  have c1 : w.cell? ⟨r, 1, none⟩ = some (.int .i64 nx) := hb.c 1
  have c3 : w.cell? ⟨r, 3, none⟩ = some (.bool pz) := hb.c 3
  have c5 : w.cell? ⟨r, 5, none⟩ = some (.int .i64 room) := hb.c 5
  have c4 : w.cell? ⟨r, 4, none⟩ = some (.slice a 0 cap) := hb.c 4
  have hnb : decide (nx ≤ last) = true := by simpa using hn
  have hfb : decide (0 < room) = true := by simpa using hfull
  clear hb hi hn hfull
  go_enter Try.func21, Try.ntmps21
  go_wp2
  go_quiet (fail)
  go_wp2
  go_quiet (fail)
  go_wp2_with (first | (at_builtin; refine wpList_append_row rfl _ _ 22 rfl (Row.alloc (Row.drewN HI.out _) _) i0 (.int .i64 0) 8 Try.underlying22 hinf hz0 hz1 hz2 rfl (by decide) rfl _ 1 1 [.int .i64 last] rfl rfl ?hnews ?h1 ?h63 ?hbytes ?hK; case' hK => (intro v' w1 D' r1 k1 d1; obtain ⟨a', m', cap', rfl⟩ := Row.shape' r1; obtain ⟨k4, g4, k1c, g1, hA⟩ := HA.out _ _ _ _ _ r1 k1 d1; clear r1 k1 d1)))
  case hnews => exact cell_one_new _ _ _
  case h1 => simp [Value.oneCell']
  case h63 => simp [maxLen]
  case hbytes => simp
  go_end0
  exact ⟨rfl, hA⟩

set_option maxHeartbeats 1600000 in
theorem RefSent_1yesF (w : World) (r : Nat) (s : Pg) (G : List Nat) (last : Int) (h : RgAt w r s G) (hl : NumOk last) (hst : s.st = 1) (hne : 0 < s.xs.length) (hn : s.nx ≤ last) (hfull : s.xs.length < s.room) (h64 : s.room ≤ 64) (hab : s.xs.getD (s.xs.length - 1) 0 < last) :
    Calls Try.prog 21 #[.pointer (some ⟨r, 0, none⟩), .int .i64 last] w fun e w' => e = .returned (.tuple #[]) ∧ RgTo w r G { s with xs := s.xs ++ [last], nx := last + 1 } w' := by
  obtain ⟨hl1, hl2⟩ := hl
  have HG := Lib.hid h
  obtain ⟨v, D, rfl, hb, hi, hr⟩ := h
  obtain ⟨i0, hinf, hz0, hz1, hz2⟩ := info_parts infoInt
  have HI := Lib.hid hi
  have HA := Lib.hid (RgAt.appended (n := last) hb hr)
  obtain ⟨d, off, cap, rfl, -, hcap, hmx, hcell⟩ := Row.at_ hi hne
  unfold maxLen at hmx
  have hlen : s.xs.length ≤ 9223372036854775807 := by omega
  have c2 : w.cell? ⟨r, 2, none⟩ = some (.int .i64 1) := (hb.c 2).trans (by rw [← hst]; rfl)
  have c1 : w.cell? ⟨r, 1, none⟩ = some (.int .i64 s.nx) := hb.c 1
  have c3 : w.cell? ⟨r, 3, none⟩ = some (.bool s.pz) := hb.c 3
  have c5 : w.cell? ⟨r, 5, none⟩ = some (.int .i64 s.room) := hb.c 5
  have c4 : w.cell? ⟨r, 4, none⟩ = some (.slice (some ⟨d, off, none⟩) s.xs.length cap) := hb.c 4
  have hcl : w.cell? ⟨d, off + (s.xs.length - 1), none⟩ = some (.int .i64 (s.xs.getD (s.xs.length - 1) 0)) := by
    rw [hcell _ (by omega), intsV_get _ _ (by omega)]
  have htn : ((s.xs.length : Int) - 1).toNat = s.xs.length - 1 := toNat_pred _ hne
  have hz : ((s.xs.length : Int) == 0) = false := by rw [beq_eq_false_iff_ne]; omega
  have hsub : IntKind.i64.wrap ((s.xs.length : Int) - 1) = (s.xs.length : Int) - 1 := IntWalk.i64_in _ (by omega)
  have hge : (0 : Int) ≤ (s.xs.length : Int) - 1 := by omega
  have hlt : (s.xs.length : Int) - 1 < (s.xs.length : Int) := by omega
  have hnb : decide (s.nx ≤ last) = true := by simpa using hn
  have hfb : decide ((s.xs.length : Int) < s.room) = true := by simp; omega
  have habb : decide (s.xs.getD (s.xs.length - 1) 0 < last) = true := by rw [decide_eq_true_iff]; omega
  have hl64 : s.xs.length < 64 := by omega
  generalize s.xs.getD (s.xs.length - 1) 0 = lastx at *
  clear hb hi hst hcell hn hfull hab
  go_enter Try.func21, Try.ntmps21
  go_wp2
  go_quiet (fail)
  go_wp2
  go_quiet (fail)
  go_wp2_with (first | (at_builtin; refine wpList_append_row rfl _ _ 22 rfl (Row.alloc (Row.drewN HI.out _) _) i0 (.int .i64 0) 8 Try.underlying22 hinf hz0 hz1 hz2 rfl (by decide) rfl _ 1 1 [.int .i64 last] rfl rfl ?hnews ?h1 ?h63 ?hbytes ?hK; case' hK => (intro v' w1 D' r1 k1 d1; obtain ⟨a', m', cap', rfl⟩ := Row.shape' r1; obtain ⟨k4, g4, k1c, g1, hA⟩ := HA.out _ _ _ _ _ r1 k1 d1; clear r1 k1 d1)))
  case hnews => exact cell_one_new _ _ _
  case h1 => simp [Value.oneCell']
  case h63 => simp [maxLen]; omega
  case hbytes => omega
  go_end0
  exact ⟨rfl, hA⟩

end Go.Proofs.Ytniceappkpiekaa
