/-
  synodlaw9.member, bits: the bits of a number.
-/
import Derived.Test.YtniceappkpiekaaSeen
namespace Go.Proofs.Ytniceappkpiekaa
open Go.RowKit

def bitsN (A : Nat) : Nat → Nat
  | 0 => 0
  | m + 1 => bitsN A m + if A.testBit m then 1 else 0
theorem bitsN_le (A : Nat) : ∀ m, bitsN A m ≤ m
  | 0 => Nat.le_refl _
  | m + 1 => by have := bitsN_le A m; unfold bitsN; split <;> omega
def meetN (A B : Nat) : Nat → Bool
  | 0 => false
  | m + 1 => meetN A B m || (A.testBit m && B.testBit m)
theorem meetN_no (A B : Nat) : ∀ m, meetN A B m = false → bitsN A m + bitsN B m ≤ m
  | 0, _ => by simp [bitsN]
  | m + 1, h => by
    unfold meetN at h
    rw [Bool.or_eq_false_iff] at h
    have := meetN_no A B m h.1
    have h2 := h.2
    unfold bitsN
    generalize A.testBit m = x at *
    generalize B.testBit m = y at *
    cases x <;> cases y
    · simp; omega
    · simp; omega
    · simp; omega
    · cases h2
theorem half_step (A j : Nat) : A / 2 ^ j / 2 = A / 2 ^ (j + 1) := by rw [Nat.div_div_eq_div_mul, Nat.pow_succ]
theorem bit_half (A j : Nat) : A.testBit j = decide (A / 2 ^ j % 2 = 1) := Nat.testBit_eq_decide_div_mod_eq

theorem bit_b (x : Nat) : (((x : Int) % 2) == 1) = decide (x % 2 = 1) := by
  rw [Bool.eq_iff_iff]
  simp
  omega

set_option maxHeartbeats 1600000 in
theorem member_any (A i : Nat) (hA : A ≤ 1000) (hi : i ≤ 1000) (w : World) :
    Calls Try.prog 44 #[.int .i64 A, .int .i64 ((i : Int) + 1)] w fun e w' => e = .returned (.bool (A.testBit i)) ∧ w = w' := by
  go_enter Try.func44, Try.ntmps44
  go_wp2
  go_loop [0, 5] (fun s c => ∃ (j x : Nat), j ≤ i ∧ c = .int .i64 ((j : Int) + 1) ∧ s = .int .i64 (x : Int) ∧ Hid (x = A / 2 ^ j) ∧ x ≤ 1000) (fun _ c => i + 1 - (intOf c).toNat)
  case atStart => exact ⟨0, A, by omega, rfl, rfl, Lib.hid (by simp), hA⟩
  case round =>
    obtain ⟨j, x, hj, rfl, rfl, hx, hxl⟩ := hrel
    by_cases hlt : j < i
    · have hn : Hid (x / 2 = A / 2 ^ (j + 1)) := Lib.hid (by rw [hx.out]; exact half_step A j)
      clear hx
      go_wp2
      go_round
      case rel => exact ⟨j + 1, x / 2, by omega, by go_num, by go_num, hn, by omega⟩
      case measure => simp [intOf]; omega
    · obtain rfl : j = i := by omega
      have hn : Hid (A.testBit j = decide (x % 2 = 1)) := Lib.hid (by rw [hx.out]; exact bit_half A j)
      clear hx
      go_wp2
      go_ret
      exact ⟨ret_b (by rw [hn.out]; exact bit_b x), rfl⟩

theorem bits_step (A j x : Nat) (h : x = A / 2 ^ j) : bitsN A j + x % 2 = bitsN A (j + 1) := by
  have : bitsN A (j + 1) = bitsN A j + if A.testBit j then 1 else 0 := rfl
  rw [this, bit_half, ← h]
  have := Nat.mod_two_eq_zero_or_one x
  rcases this with e | e <;> rw [e] <;> simp

set_option maxHeartbeats 1600000 in
theorem bits_any (A m : Nat) (hA : A ≤ 1000) (hm : m ≤ 1000) (w : World) :
    Calls Try.prog 43 #[.int .i64 A, .int .i64 m] w fun e w' => e = .returned (.int .i64 (bitsN A m)) ∧ w = w' := by
  go_enter Try.func43, Try.ntmps43
  go_wp2
  go_loop [0, 5, 6] (fun s k c => ∃ (j x y : Nat), j ≤ m ∧ c = .int .i64 (j : Int) ∧ s = .int .i64 (x : Int) ∧ k = .int .i64 (y : Int) ∧ Hid (x = A / 2 ^ j ∧ y = bitsN A j) ∧ x ≤ 1000 ∧ y ≤ j) (fun _ _ c => m - (intOf c).toNat)
  case atStart => exact ⟨0, A, 0, by omega, rfl, rfl, rfl, Lib.hid ⟨by simp, rfl⟩, hA, by omega⟩
  case round =>
    obtain ⟨j, x, y, hj, rfl, rfl, rfl, hx, hxl, hyl⟩ := hrel
    by_cases hlt : j < m
    · have hn : Hid (x / 2 = A / 2 ^ (j + 1) ∧ y + x % 2 = bitsN A (j + 1)) := Lib.hid ⟨by rw [hx.out.1]; exact half_step A j, by rw [hx.out.2]; exact bits_step A j x hx.out.1⟩
      clear hx
      go_wp2
      go_round
      case rel => exact ⟨j + 1, x / 2, y + x % 2, by omega, by go_num, by go_num, by go_num, hn, by omega, by omega⟩
      case measure => simp [intOf]; omega
    · obtain rfl : j = m := by omega
      have hy := Lib.hid hx.out.2
      clear hx
      go_wp2
      go_ret
      exact ⟨ret_i (by rw [hy.out]), rfl⟩

end Go.Proofs.Ytniceappkpiekaa
