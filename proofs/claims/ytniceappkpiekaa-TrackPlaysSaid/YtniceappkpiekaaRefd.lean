/-
  synodref9.Progress: Beat.
-/
import Derived.Test.YtniceappkpiekaaRefc
namespace Go.Proofs.Ytniceappkpiekaa
open Go.RowKit

/-- the window of a progress rises, holds no more than its room, and is empty where it does not replicate. -/
structure Pg.Rise (s : Pg) : Prop where
  up : s.xs.Pairwise (· < ·)
  len : (s.xs.length : Int) ≤ s.room
  empty : s.st ≠ 1 → s.xs = []

theorem low_head (x : Int) (xs : List Int) (h : (x :: xs).Pairwise (· < ·)) : low x (x :: xs) = 1 := by
  unfold low
  have : (x :: xs).takeWhile (fun y => decide (y ≤ x)) = [x] := by
    simp only [List.takeWhile_cons, Int.le_refl, decide_true, if_true]
    cases xs with
    | nil => rfl
    | cons y ys =>
      have hxy : x < y := by
        have := List.rel_of_pairwise_cons h (a' := y) (by simp)
        exact this
      have : ¬ y ≤ x := by omega
      simp [this]
  rw [this]
  rfl
theorem beat_full (s : Pg) (h1 : s.st = 1) (x : Int) (xs : List Int) (hx : s.xs = x :: xs) (hr : s.Rise) (hf : (s.xs.length : Int) = s.room) : s.beat = { s with pz := false, xs := xs } := by
  have e : s.xs.drop (low (s.xs.getD 0 0) s.xs) = xs := by
    have hp := hr.up
    rw [hx] at hp ⊢
    rw [show (x :: xs).getD 0 0 = x from rfl, low_head x xs hp]
    rfl
  unfold Pg.beat Pg.beaten
  simp only
  rw [if_neg (by omega), if_pos h1, if_pos (by omega), e]
theorem beat_notfull (s : Pg) (h1 : s.st = 1) (hr : s.Rise) (hf : (s.xs.length : Int) ≠ s.room) : s.beat = { s with pz := false } := by
  have := hr.len
  unfold Pg.beat Pg.beaten
  simp only
  rw [if_neg (by omega), if_pos h1, if_neg (by omega)]
theorem beat_snap (s : Pg) (h2 : s.st = 2) (hr : s.Rise) : s.beat = { s with pz := false, st := 0, nx := s.mt + 1 } := by
  have := hr.empty (by omega)
  unfold Pg.beat Pg.entered
  simp only
  rw [if_neg (by omega), if_neg (by omega), this]
theorem beat_probe (s : Pg) (h0 : s.st = 0) : s.beat = { s with pz := false } := by
  unfold Pg.beat
  simp only
  rw [if_pos h0]

set_option maxHeartbeats 800000 in
theorem RefBeat_any (w : World) (r : Nat) (s : Pg) (G : List Nat) (h : RgAt w r s G) (hm : NumOk s.mt) (hr : s.Rise) (h1r : 1 ≤ s.room) (hst : s.st = 0 ∨ s.st = 1 ∨ s.st = 2) :
    Calls Try.prog 27 #[.pointer (some ⟨r, 0, none⟩)] w fun e w' => e = .returned (.tuple #[]) ∧ RgTo w r G s.beat w' := by
  obtain ⟨hm1, hm2⟩ := hm
  obtain ⟨a, cap, hlen, c0, c1, c2, c3, c4, c5, -, fr⟩ := h.cells
  have f1 := fr 1
  have f2 := fr 2
  have f3 := fr 3
  have f4 := fr 4
  clear fr
  have ht := (RgTo.refl h).store (s' := { s with pz := false }) 3 (.bool false) (fun _ => rfl) rfl
  have T := Lib.hid ht
  rcases hst with h0 | h1 | h2
  · rw [beat_probe s h0]
    rw [h0] at c2
    clear h0 ht
    go_enter Try.func27, Try.ntmps27
    go_wp2
    go_quiet (fail)
    go_wp2
    go_end0
    exact ⟨rfl, T.out.drewN _⟩
  · by_cases hf : (s.xs.length : Int) = s.room
    · have hne : 0 < s.xs.length := by omega
      cases hx : s.xs with
      | nil => rw [hx] at hne; cases hne
      | cons x xs =>
        have hb := beat_full s h1 x xs hx hr hf
        obtain ⟨d, off, cap', g4, -, hc, hmx, -, ht'⟩ := ht.tail (x := x) (xs := xs) hx
        unfold maxLen at hmx
        rw [h1] at c2
        rw [hb]
        have e4 : Value.slice a s.xs.length cap = .slice (some ⟨d, off, none⟩) (xs.length + 1) cap' := by
          rw [World.cell?_setCell_other _ _ _ _ (by simp), c4] at g4
          simpa using g4
        rw [e4] at c4
        have hbl : (((xs.length + 1 : Nat) : Int) == s.room) = true := by rw [← hf, hx]; simp
        by_cases hc1 : cap' = 1
        · subst hc1
          obtain rfl : xs = [] := List.eq_nil_of_length_eq_zero (by omega)
          simp only [if_true, List.length_nil, Nat.sub_self] at ht'
          replace ht' := Lib.hid ht'
          clear h1 ht hb hf hx hr g4 e4 hlen hne
          go_enter Try.func27, Try.ntmps27
          go_wp2
          go_quiet (fail)
          go_wp2
          go_end0
          exact ⟨rfl, ht'.out.drewN _⟩
        · have h2 : 1 < cap' := by omega
          rw [if_neg hc1] at ht'
          replace ht' := Lib.hid ht'
          clear h1 ht hb hf hx hr g4 e4 hlen hne hc1
          go_enter Try.func27, Try.ntmps27
          go_wp2
          go_quiet (fail)
          go_wp2
          go_end0
          exact ⟨rfl, ht'.out.drewN _⟩
    · rw [beat_notfull s h1 hr hf]
      rw [h1] at c2
      have hb : ((s.xs.length : Int) == s.room) = false := by simpa using hf
      clear h1 ht hr hf
      go_enter Try.func27, Try.ntmps27
      go_wp2
      go_quiet (fail)
      go_wp2
      go_end0
      exact ⟨rfl, T.out.drewN _⟩
  · have hs := ((ht.drewN 0).store (s' := { s with pz := false, st := 0 }) 2 (.int .i64 0) (fun _ => rfl) rfl).store (s' := { s with pz := false, st := 0, nx := s.mt + 1 }) 1 (.int .i64 (s.mt + 1)) (fun _ => rfl) rfl
    replace hs := Lib.hid hs
    rw [beat_snap s h2 hr]
    rw [h2] at c2
    clear h2 ht hr
    go_enter Try.func27, Try.ntmps27
    go_wp2
    go_quiet (fail)
    go_wp2
    go_end0
    exact ⟨rfl, hs.out.drewN _⟩

end Go.Proofs.Ytniceappkpiekaa
