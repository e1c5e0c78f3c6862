/-
  slices.Sort as a law on rows, and track.Commit.
-/
import Derived.Test.YtniceappkpiekaaAck
namespace Go.Proofs.Ytniceappkpiekaa
open Go.RowKit

def sorted (xs : List Int) : List Int := xs.mergeSort fun x y => decide (x ≤ y)
theorem sorted_length (xs : List Int) : (sorted xs).length = xs.length := by simp [sorted]
/-- what a quorum has. -/
def commitP (xs : List Int) : Int := if quorum xs.length = 0 then 0 else (sorted xs).getD (xs.length - (quorum xs.length).toNat) 0

theorem quorum_ge (n : Nat) (h1 : 1 ≤ n) (h2 : n ≤ 7) : quorum n = n / 2 + 1 := by
  unfold quorum
  rw [if_neg (by omega)]
theorem quorum_zero (n : Int) (h : n < 1 ∨ 7 < n) : quorum n = 0 := by
  unfold quorum
  rw [if_pos h]

theorem Sort_any (w : World) (v : Value) (xs : List Int) (D : List Nat) (h : Ints w v xs D) (hl : xs.length ≤ 1000000) :
    Calls Try.prog 46 #[v] w fun e w' => e = .returned (.tuple #[]) ∧ Ints w' v (sorted xs) D ∧ Keeps D w w' := by
  obtain ⟨a, cap, rfl, hc, hm, hlen, hh⟩ := id h
  by_cases hn : xs.length = 0
  · obtain rfl : xs = [] := List.eq_nil_of_length_eq_zero hn
    refine (Try.slices_Sort_int_none a cap w).mono ?_
    rintro e w' ⟨rfl, rfl⟩
    refine ⟨rfl, ?_, Keeps.refl _ _⟩
    simpa [sorted] using h
  · rcases hh with ⟨rfl, rfl, _⟩ | ⟨d, off, arr, rfl, rfl, e3, e4, e5⟩
    · omega
    · have hH : Sort.Holds (Value.int .i64) w d off xs.toArray := fun j hj => by
        have hj' : j < xs.length := by simpa using hj
        rw [e3.c, e5 j (by omega), intsV_get _ _ hj']
        refine ⟨?_, e3.fr _⟩
        simp [List.getD_eq_getElem?_getD, hj']
      refine (Try.slices_Sort_int d off cap xs w hH e3.lt (by omega)).mono ?_
      rintro e w' ⟨rfl, n, os, rfl⟩
      have hb : Blk (Sort.grow (Sort.putRow (Value.int .i64) (Sort.ahead w n) d off (xs.mergeSort fun x y => decide (x ≤ y)).toArray) os) d (Sort.putCells (Value.int .i64) off (xs.mergeSort fun x y => decide (x ≤ y)).toArray arr) 3 := by
        unfold Blk at *
        rw [Sort.heap_grow_old _ _ (by simpa using (Array.getElem?_eq_some_iff.1 e3).1)]
        simp [Sort.putRow, Sort.mapBlock, Array.getElem?_modify, e3, Sort.onCells]
      refine ⟨rfl, ⟨_, cap, by rw [sorted_length], by rw [sorted_length]; exact hc, hm, by simp [intsV], .inr ⟨d, off, _, rfl, rfl, hb, by simpa [Sort.putCells] using e4, fun i hi => ?_⟩⟩, ?_⟩
      · rw [sorted_length, Nat.mul_one] at hi
        rw [intsV_get _ _ (by rw [sorted_length]; exact hi)]
        have hia : off + i < arr.size := by omega
        simp only [Sort.putCells, Array.getElem?_mapIdx, hia, Array.getElem?_eq_getElem, Option.map_some]
        rw [if_pos ⟨by omega, by simpa using hi⟩]
        simp [sorted, List.getD_eq_getElem?_getD, hi]
      · refine ⟨rfl, rfl, rfl, by simp, fun k hk hd => ?_⟩
        rw [Sort.heap_grow_old _ _ (by simpa using hk)]
        simp only [List.mem_cons, List.not_mem_nil, or_false] at hd
        simp [Sort.putRow, Sort.mapBlock, Array.getElem?_modify, Ne.symm hd]

set_option maxHeartbeats 400000 in
theorem Commit_any (w : World) (v : Value) (xs : List Int) (h : RInts w v xs) (hl : xs.length ≤ 1000000) :
    Calls Try.prog 12 #[v] w fun e w' => e = .returned (.int .i64 (commitP xs)) ∧ Keeps [] w w' := by
  have h' := h
  obtain ⟨a, cap, rfl, -, -, -, -⟩ := h
  have HC := Lib.hid (Clone_any w _ xs h' hl)
  by_cases hq : xs.length < 1 ∨ 7 < xs.length
  · have hz : quorum xs.length = 0 := quorum_zero _ (by omega)
    have hc : commitP xs = 0 := by rw [commitP, if_pos hz]
    rw [hc]
    have hQ := Lib.hid (hz ▸ Quorum_any xs.length w)
    clear h' hz hc
    go_enter Try.func12, Try.ntmps12
    go_wp2_with (go_at_call 14; refine hQ.out.mono ?_; rintro e w' ⟨rfl, rfl⟩)
    go_ret
    exact ⟨rfl, Keeps.refl _ _⟩
  · have h1 : 1 ≤ xs.length := by omega
    have h7 : xs.length ≤ 7 := by omega
    have hz := quorum_ge xs.length h1 h7
    have hc : commitP xs = (sorted xs).getD (xs.length - (xs.length / 2 + 1)) 0 := by
      rw [commitP, if_neg (by omega), hz]
      congr 2
    have hQ := Lib.hid (hz ▸ Quorum_any xs.length w)
    rw [hc]
    have hS : ∀ w1 v1 D1, Ints w1 v1 xs D1 → Keeps [] w w1 → Hid (Calls Try.prog 46 #[v1] w1 fun e w' => e = .returned (.tuple #[]) ∧ (∃ d off cap, v1 = .slice (some ⟨d, off, none⟩) xs.length cap ∧ w'.cell? ⟨d, off + (xs.length - (xs.length / 2 + 1)), none⟩ = some (.int .i64 ((sorted xs).getD (xs.length - (xs.length / 2 + 1)) 0))) ∧ Keeps D1 w1 w') := fun w1 v1 D1 r1 _ => by
      refine (Sort_any w1 v1 xs D1 r1 hl).mono ?_
      rintro e w' ⟨rfl, r2, k2⟩
      obtain ⟨d, off, cap', hv, -, -, -, hcell⟩ := Row.at_ r2 (by rw [sorted_length]; omega)
      rw [sorted_length] at hv hcell
      refine ⟨rfl, ⟨d, off, cap', hv, ?_⟩, k2⟩
      rw [hcell _ (by omega), intsV_get _ _ (by rw [sorted_length]; omega)]
    replace hS := Lib.hid hS
    clear h' hz hc hq
    generalize (sorted xs).getD (xs.length - (xs.length / 2 + 1)) 0 = r at *
    go_enter Try.func12, Try.ntmps12
    go_wp2_with (first | (go_at_call 14; refine hQ.out.mono ?_; rintro e w' ⟨rfl, rfl⟩) | (go_at_call 45; refine HC.out.mono ?_; rintro e w1 ⟨v1, D1, rfl, r1, k1, d1⟩; have hs1 := hS.out w1 v1 D1 r1 k1) | (go_at_call 46; refine hs1.out.mono ?_; rintro e w2 ⟨rfl, ⟨d, off, cap', rfl, hcell⟩, k2⟩))
    go_ret
    exact ⟨rfl, k1.trans k2 (fun x hx hlt => by have := d1 x hx; omega)⟩

end Go.Proofs.Ytniceappkpiekaa
