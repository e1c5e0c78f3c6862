/-
  The small functions of track, queue and the reference: what each call answers, and what becomes of memory.
-/
import Derived.Test.YtniceappkpiekaaRows
import Derived.Test.YtniceappkpiekaaBase
namespace Go.Proofs.Ytniceappkpiekaa
open Go.RowKit

def quorum (n : Int) : Int := if n < 1 ∨ 7 < n then 0 else n / 2 + 1

set_option maxHeartbeats 400000 in
theorem Quorum_any (n : Int) (w : World) :
    Calls Try.prog 14 #[.int .i64 n] w fun e w' => e = .returned (.int .i64 (quorum n)) ∧ w = w' := by
  by_cases h : n < 1
  · go_enter Try.func14, Try.ntmps14
    go_wp2
    go_ret
    exact ⟨ret_i (by rw [quorum, if_pos (by omega)]), rfl⟩
  · by_cases h2 : 7 < n
    · go_enter Try.func14, Try.ntmps14
      go_wp2
      go_ret
      exact ⟨ret_i (by rw [quorum, if_pos (by omega)]), rfl⟩
    · go_enter Try.func14, Try.ntmps14
      go_wp2
      go_ret
      exact ⟨ret_i (by rw [quorum, if_neg (by omega)]), rfl⟩

set_option maxHeartbeats 400000 in
theorem RefQuorum_any (n : Int) (w : World) :
    Calls Try.prog 15 #[.int .i64 n] w fun e w' => e = .returned (.int .i64 (quorum n)) ∧ w = w' := by
  by_cases h : n < 1
  · go_enter Try.func15, Try.ntmps15
    go_wp2
    go_ret
    exact ⟨ret_i (by rw [quorum, if_pos (by omega)]), rfl⟩
  · by_cases h2 : 7 < n
    · go_enter Try.func15, Try.ntmps15
      go_wp2
      go_ret
      exact ⟨ret_i (by rw [quorum, if_pos (by omega)]), rfl⟩
    · go_enter Try.func15, Try.ntmps15
      go_wp2
      go_ret
      exact ⟨ret_i (by rw [quorum, if_neg (by omega)]), rfl⟩

/-- is it a number: 0 to 2^62? -/
def numB (n : Int) : Bool := decide (0 ≤ n) && decide (n ≤ 4611686018427387904)

set_option maxHeartbeats 400000 in
theorem number_any (n : Int) (w : World) :
    Calls Try.prog 17 #[.int .i64 n] w fun e w' => e = .returned (.bool (numB n)) ∧ w = w' := by
  by_cases h : 0 ≤ n
  · by_cases h2 : n ≤ 4611686018427387904
    · go_enter Try.func17, Try.ntmps17
      go_wp2
      go_ret
      exact ⟨ret_b (by simp [numB]; omega), rfl⟩
    · go_enter Try.func17, Try.ntmps17
      go_wp2
      go_ret
      exact ⟨ret_b (by simp [numB]; omega), rfl⟩
  · go_enter Try.func17, Try.ntmps17
    go_wp2
    go_ret
    exact ⟨ret_b (by simp [numB]; omega), rfl⟩

def holdsB (n : Int) : Bool := decide (1 ≤ n) && decide (n ≤ 64)

set_option maxHeartbeats 400000 in
theorem holds_any (n : Int) (w : World) :
    Calls Try.prog 56 #[.int .i64 n] w fun e w' => e = .returned (.bool (holdsB n)) ∧ w = w' := by
  by_cases h : 1 ≤ n
  · by_cases h2 : n ≤ 64
    · go_enter Try.func56, Try.ntmps56
      go_wp2
      go_ret
      exact ⟨ret_b (by simp [holdsB]; omega), rfl⟩
    · go_enter Try.func56, Try.ntmps56
      go_wp2
      go_ret
      exact ⟨ret_b (by simp [holdsB]; omega), rfl⟩
  · go_enter Try.func56, Try.ntmps56
    go_wp2
    go_ret
    exact ⟨ret_b (by simp [holdsB]; omega), rfl⟩

set_option maxHeartbeats 400000 in
theorem NewWindow_no (room : Int) (w : World) (h : holdsB room = false) :
    Calls Try.prog 47 #[.int .i64 room] w fun e w' => e = .returned (.pointer none) ∧ w = w' := by
  go_enter Try.func47, Try.ntmps47
  go_wp2_with (go_at_call 56; refine (holds_any _ _).mono ?_; rintro e w' ⟨rfl, rfl⟩)
  go_ret
  exact ⟨rfl, rfl⟩

set_option maxHeartbeats 400000 in
theorem NewWindow_yes (room : Int) (w : World) (h : holdsB room = true) :
    Calls Try.prog 47 #[.int .i64 room] w fun e w' => e = .returned (.pointer (some ⟨w.heap.size, 0, none⟩)) ∧
      w.alloc (.cells #[.int .i64 room, .slice none 0 0] 77) = w' := by
  go_enter Try.func47, Try.ntmps47
  go_wp2_with (go_at_call 56; refine (holds_any _ _).mono ?_; rintro e w' ⟨rfl, rfl⟩)
  go_ret
  exact ⟨rfl, rfl⟩

end Go.Proofs.Ytniceappkpiekaa
