/-
  synodref9.Progress: free.
-/
import Derived.Test.YtniceappkpiekaaRefb
import Derived.Deep.LoopGhost
namespace Go.Proofs.Ytniceappkpiekaa
open Go.RowKit

theorem low_cons_yes (u x : Int) (xs : List Int) (h : x ≤ u) : (x :: xs).drop (low u (x :: xs)) = xs.drop (low u xs) := by
  simp [low, h]
theorem low_cons_no (u x : Int) (xs : List Int) (h : ¬ x ≤ u) : (x :: xs).drop (low u (x :: xs)) = x :: xs := by
  simp [low, h]

set_option maxHeartbeats 800000 in
theorem RefFree_any (w : World) (r : Nat) (s : Pg) (G : List Nat) (u : Int) (h : RgAt w r s G) :
    Calls Try.prog 51 #[.pointer (some ⟨r, 0, none⟩), .int .i64 u] w fun e w' => e = .returned (.tuple #[]) ∧ RgTo w r G { s with xs := s.xs.drop (low u s.xs) } w' := by
  have HH := Lib.hid (RgTo.refl h)
  go_enter Try.func51, Try.ntmps51
  go_wp2
  go_loopg [] s.xs.length (fun k wr => ∃ ys : List Int, ys.length = k ∧ RgTo w r G { s with xs := ys } wr ∧ ys.drop (low u ys) = s.xs.drop (low u s.xs))
  case atStart => exact ⟨s.xs, rfl, HH.out, rfl⟩
  case round =>
    obtain ⟨ys, hk, hr, hd⟩ := hrel
    cases ys with
    | nil =>
      have A := Lib.hid hd
      have R := Lib.hid hr
      obtain ⟨a, cap, -, -, -, -, -, c4, -⟩ : ∃ a cap, True ∧ True ∧ True ∧ True ∧ True ∧ wr.cell? ⟨r, 4, none⟩ = some (.slice a 0 cap) ∧ True := by
        obtain ⟨G', hg, -⟩ := hr
        obtain ⟨a, cap, -, -, -, -, -, c4, -⟩ := hg.cells
        exact ⟨a, cap, trivial, trivial, trivial, trivial, trivial, c4, trivial⟩
      clear hd hr hk
      go_wp2
      go_end0
      refine ⟨rfl, ?_⟩
      have e : s.xs.drop (low u s.xs) = [] := by rw [← A.out]; simp
      rw [e]
      exact R.out
    | cons x xs =>
      obtain ⟨d, off, cap, c4, cd, hc, hm, f4, ht⟩ := hr.tail rfl
      unfold maxLen at hm
      by_cases hx : x ≤ u
      · rw [low_cons_yes u x xs hx] at hd
        by_cases h1 : cap = 1
        · subst h1
          obtain rfl : xs = [] := List.eq_nil_of_length_eq_zero (by omega)
          simp only [if_true, List.length_nil, Nat.sub_self] at ht
          have A := Lib.hid hd
          have T := Lib.hid ht
          have K := Lib.hid hk
          clear hd hr hk ht
          go_wp2
          go_roundg 0
          case measure => have := K.out; simp at this; omega
          case rel => exact ⟨[], rfl, T.out, A.out⟩
        · rw [if_neg h1] at ht
          have A := Lib.hid hd
          have T := Lib.hid ht
          have K := Lib.hid hk
          have h2 : 1 < cap := by omega
          clear hd hr hk ht h1
          go_wp2
          go_roundg xs.length
          case measure => have := K.out; simp at this; omega
          case rel => exact ⟨xs, rfl, T.out, A.out⟩
      · rw [low_cons_no u x xs hx] at hd
        have A := Lib.hid hd
        have R := Lib.hid hr
        clear hd hr hk ht
        go_wp2
        go_end0
        refine ⟨rfl, ?_⟩
        rw [← A.out]
        exact R.out

end Go.Proofs.Ytniceappkpiekaa
