/-
  synodlaw9.TrackQuorums, walked. (Printed by gen_quorums.py.)
-/
import Derived.Test.YtniceappkpiekaaQuor
namespace Go.Proofs.Ytniceappkpiekaa
open Go.RowKit

/-- is it no number? -/
def outB (x : Int) : Bool := decide (x < 0) || decide (4611686018427387904 < x)
theorem in_of (xs : List Int) (h : ∀ i, i < xs.length → outB (xs.getD i 0) = false) : ∀ x, x ∈ xs → 0 ≤ x := by
  intro x hx
  obtain ⟨i, hi, rfl⟩ := List.getElem_of_mem hx
  have := h i hi
  rw [List.getD_eq_getElem?_getD, List.getElem?_eq_getElem hi] at this
  simp [outB] at this
  exact this.1

/-- behind the two appends. -/
theorem after_nine (w w2 w3 : World) (v3 : Value) (xs : List Int) {D2 D3 : List Nat} {o : Obj} (k2 : Keeps [] w w2)
    (r3 : Row w3 3 1 v3 (xs.length + 1) (intsV xs ++ [.int .i64 9]) D3) (k3 : Keeps D2 (w2.alloc o) w3) (hd : ∀ x, x ∈ D2 → x < w.heap.size → False) :
    ∃ d off c3, v3 = .slice (some ⟨d, off, none⟩) (xs.length + 1) c3 ∧ w3.cell? ⟨d, off + xs.length, none⟩ = some (.int .i64 9) ∧ xs.length + 1 ≤ c3 ∧ c3 ≤ 9223372036854775807 ∧
      (∀ w', Keeps [] w3 w' → RInts w' (.slice (some ⟨d, off, none⟩) xs.length c3) xs) ∧ Keeps [] w w3 := by
  have e : intsV xs ++ [.int .i64 9] = intsV (xs ++ [9]) := by simp [intsV]
  obtain ⟨d, off, c3, rfl, -, h1, h2, hc⟩ := Row.at_ r3 (by omega)
  unfold maxLen at h2
  refine ⟨d, off, c3, rfl, ?_, h1, by omega, fun w' k => ?_, ?_⟩
  · rw [hc _ (by omega), e, intsV_get _ _ (by simp)]
    simp [List.getD_eq_getElem?_getD]
  · rw [e] at r3
    exact (Row.cut (ys := [9]) r3).keep k
  · exact (k2.alloc o).trans k3 (fun x hx hlt => (hd x hx hlt).elim)

set_option maxRecDepth 100000 in
set_option maxHeartbeats 1600000 in
theorem TrackQuorums_long (w : World) (n : Int) (a : Option Addr) (m cap : Nat) (h : 1000 < m) :
    Calls Try.prog 3 #[.int .i64 n, .slice a m cap] w fun e w' => e = .returned (.bool true) ∧ Keeps [] w w' := by
  have hb : (1000 : Int) < m := by omega
  clear h
  go_enter Try.func3, Try.ntmps3
  go_wp2_with (go_at_call 11; refine (first_any _).mono ?_; rintro e w1 ⟨rfl, k1⟩)
  go_ret
  exact ⟨rfl, k1⟩

set_option maxRecDepth 100000 in
set_option maxHeartbeats 4000000 in
theorem TrackQuorums_none (w : World) (n : Int) (a : Option Addr) (xs : List Int) (cap : Nat) (hxs : xs = []) (hr : RInts w (.slice a xs.length cap) xs) (h : xs.length ≤ 1000) :
    Calls Try.prog 3 #[.int .i64 n, .slice a xs.length cap] w fun e w' => e = .returned (.bool true) ∧ Keeps [] w w' := by
  obtain ⟨i0, hinf, hz0, hz1, hz2⟩ := info_parts infoInt
  have hlen : xs.length ≤ 9223372036854775807 := by omega
  have hsrc : Src w a xs.length (intsV xs) := by
    obtain ⟨a', cap', e, -, -, hs⟩ := hr.src
    simp only [Value.slice.injEq] at e
    rw [e.1]
    exact hs
  have HS := Lib.hid hsrc
  have HR := Lib.hid hr
  have hb : ¬ (1000 : Int) < xs.length := by omega
  have HX := Lib.hid hxs
  clear hr hsrc hxs
  go_enter Try.func3, Try.ntmps3
  go_wp2_with (first | (go_at_call 11; refine (first_any _).mono ?_; rintro e w1 ⟨rfl, k1⟩) | (at_builtin; refine wpList_append_src rfl (.tmp 19) (.tmp 20) 22 rfl (Row.empty w1 _ 1) i0 (.int .i64 0) 8 Try.underlying22 hinf hz0 hz1 hz2 rfl (by decide) rfl a xs.length cap (intsV xs) rfl ?s1 ?s2 ?s3 ?s4 ?s5 ?K1; case' K1 => (intro v2 w2 D2 r2 k2 d2; have r2' : Row w2 3 1 v2 xs.length (intsV xs) D2 := (by simpa using r2); obtain ⟨a2, m2, c2, rfl⟩ := Row.shape' r2; have R2 := Lib.hid r2'; have K2 := Lib.hid (show Keeps [] w w2 from (k1.alloc _).trans k2 (by have := k1.size; simp; omega)); have D2' := Lib.hid d2; clear r2 r2' k2 d2)) | (at_builtin; refine wpList_append_row rfl (.tmp 21) (.tmp 22) 22 rfl (Row.alloc R2.out _) i0 (.int .i64 0) 8 Try.underlying22 hinf hz0 hz1 hz2 rfl (by decide) rfl _ 1 1 [.int .i64 9] rfl rfl ?u1 ?u2 ?u3 ?u4 ?K2; case' K2 => (intro v3 w3 D3 r3 k3 d3; have hx3 := after_nine _ _ _ _ _ K2.out r3 k3 (fun x hx hlt => by have := k1.size; rcases D2'.out x hx with h | h; (simp at h; omega); (simp at h; omega)); obtain ⟨d, off, c3, rfl, h9, hcap, hmax, hcut, k3w⟩ := hx3; have CUT := Lib.hid hcut; have K3 := Lib.hid k3w; clear r3 k3 d3 hcut k3w)) | (go_at_call 12; refine (Commit_any _ _ xs (CUT.out _ (Keeps.refl _ _)) (by omega)).mono ?_; rintro e w4 ⟨rfl, k4⟩; have K4 := Lib.hid k4; clear k4) | (go_at_call 13; refine (SameInts_same _ _ _ xs (CUT.out _ K4.out) (HR.out.keep (K3.out.trans K4.out (by simp)))).mono ?_; rintro e w5 ⟨rfl, q5, rfl⟩))
  case u1 => exact cell_one_new _ _ _
  case u2 => simp [Value.oneCell']
  case u3 => simp [maxLen]; omega
  case u4 => omega
  case s1 => exact HS.out.keep (k1.alloc _)
  case s2 => simp [intsV]
  case s3 => simp [intsV, Value.oneCell']
  case s4 => simp [maxLen]; omega
  case s5 => omega
  have KALL := Lib.hid (K3.out.trans K4.out (by simp))
  have h9c : w4.cell? ⟨d, off + xs.length, none⟩ = some (.int .i64 9) := K4.out.cell h9 (by simp)
  clear h9
  have hle0 : (0 : Int) ≤ (xs.length : Int) := by omega
  have hcm : (commitP xs == refCommit xs) = true := by rw [commit_same xs (by rw [HX.out]; simp)]; simp
  have hx0 : decide ((0 : Int) < (xs.length : Int)) = false := by rw [HX.out]; rfl
  have hx1 : decide (0 < xs.length) = false := by rw [HX.out]; rfl
  refine wp_loop_once ?_
  go_wp2_with (first | (go_at_call 14; refine (Quorum_any _ _).mono ?_; rintro e w' ⟨rfl, rfl⟩) | (go_at_call 15; refine (RefQuorum_any _ _).mono ?_; rintro e w' ⟨rfl, rfl⟩) | (go_at_call 16; refine (RefCommit_any _ _ xs (HR.out.keep (KALL.out.drewN _))).mono ?_; rintro e w' ⟨rfl, q9, rfl⟩))
  go_ret
  exact ⟨rfl, KALL.out.drewN _⟩

set_option maxRecDepth 100000 in
set_option maxHeartbeats 4000000 in
theorem TrackQuorums_some (w : World) (n : Int) (b offl : Nat) (xs : List Int) (cap : Nat) (hr : RInts w (.slice (some ⟨b, offl, none⟩) xs.length cap) xs) (hcell : ∀ i, i < xs.length → w.cell? ⟨b, offl + i, none⟩ = some (.int .i64 (xs.getD i 0))) (h : xs.length ≤ 1000) :
    Calls Try.prog 3 #[.int .i64 n, .slice (some ⟨b, offl, none⟩) xs.length cap] w fun e w' => e = .returned (.bool true) ∧ Keeps [] w w' := by
  obtain ⟨i0, hinf, hz0, hz1, hz2⟩ := info_parts infoInt
  have hlen : xs.length ≤ 9223372036854775807 := by omega
  have hsrc : Src w (some ⟨b, offl, none⟩) xs.length (intsV xs) := by
    obtain ⟨a', cap', e, -, -, hs⟩ := hr.src
    simp only [Value.slice.injEq] at e
    rw [e.1]
    exact hs
  have HS := Lib.hid hsrc
  have HR := Lib.hid hr
  have hb : ¬ (1000 : Int) < xs.length := by omega
  have HCELL := Lib.hid hcell
  clear hr hsrc hcell
  go_enter Try.func3, Try.ntmps3
  go_wp2_with (first | (go_at_call 11; refine (first_any _).mono ?_; rintro e w1 ⟨rfl, k1⟩) | (at_builtin; refine wpList_append_src rfl (.tmp 19) (.tmp 20) 22 rfl (Row.empty w1 _ 1) i0 (.int .i64 0) 8 Try.underlying22 hinf hz0 hz1 hz2 rfl (by decide) rfl (some ⟨b, offl, none⟩) xs.length cap (intsV xs) rfl ?s1 ?s2 ?s3 ?s4 ?s5 ?K1; case' K1 => (intro v2 w2 D2 r2 k2 d2; have r2' : Row w2 3 1 v2 xs.length (intsV xs) D2 := (by simpa using r2); obtain ⟨a2, m2, c2, rfl⟩ := Row.shape' r2; have R2 := Lib.hid r2'; have K2 := Lib.hid (show Keeps [] w w2 from (k1.alloc _).trans k2 (by have := k1.size; simp; omega)); have D2' := Lib.hid d2; clear r2 r2' k2 d2)) | (at_builtin; refine wpList_append_row rfl (.tmp 21) (.tmp 22) 22 rfl (Row.alloc R2.out _) i0 (.int .i64 0) 8 Try.underlying22 hinf hz0 hz1 hz2 rfl (by decide) rfl _ 1 1 [.int .i64 9] rfl rfl ?u1 ?u2 ?u3 ?u4 ?K2; case' K2 => (intro v3 w3 D3 r3 k3 d3; have hx3 := after_nine _ _ _ _ _ K2.out r3 k3 (fun x hx hlt => by have := k1.size; rcases D2'.out x hx with h | h; (simp at h; omega); (simp at h; omega)); obtain ⟨d, off, c3, rfl, h9, hcap, hmax, hcut, k3w⟩ := hx3; have CUT := Lib.hid hcut; have K3 := Lib.hid k3w; clear r3 k3 d3 hcut k3w)) | (go_at_call 12; refine (Commit_any _ _ xs (CUT.out _ (Keeps.refl _ _)) (by omega)).mono ?_; rintro e w4 ⟨rfl, k4⟩; have K4 := Lib.hid k4; clear k4) | (go_at_call 13; refine (SameInts_same _ _ _ xs (CUT.out _ K4.out) (HR.out.keep (K3.out.trans K4.out (by simp)))).mono ?_; rintro e w5 ⟨rfl, q5, rfl⟩))
  case u1 => exact cell_one_new _ _ _
  case u2 => simp [Value.oneCell']
  case u3 => simp [maxLen]; omega
  case u4 => omega
  case s1 => exact HS.out.keep (k1.alloc _)
  case s2 => simp [intsV]
  case s3 => simp [intsV, Value.oneCell']
  case s4 => simp [maxLen]; omega
  case s5 => omega
  have KALL := Lib.hid (K3.out.trans K4.out (by simp))
  have h9c : w4.cell? ⟨d, off + xs.length, none⟩ = some (.int .i64 9) := K4.out.cell h9 (by simp)
  clear h9
  have hle0 : (0 : Int) ≤ (xs.length : Int) := by omega
  go_loop [9] (fun i => ∃ k : Nat, k ≤ xs.length ∧ i = .int .i64 k ∧ Hid (∀ j, j < k → outB (xs.getD j 0) = false)) (fun i => xs.length - (intOf i).toNat)
  case atStart => exact ⟨0, by omega, rfl, fun j hj => absurd hj (Nat.not_lt_zero _)⟩
  case round =>
    obtain ⟨k, hk, rfl, hin⟩ := hrel
    by_cases hlt : k < xs.length
    · have cx : w4.cell? ⟨b, offl + k, none⟩ = some (.int .i64 (xs.getD k 0)) := KALL.out.cell (HCELL.out k hlt) (by simp)
      have hnext : outB (xs.getD k 0) = false → Hid (∀ j, j < k + 1 → outB (xs.getD j 0) = false) := fun hh j hj => by
        by_cases e : j = k
        · subst e; exact hh
        · exact hin.out j (by omega)
      replace hnext := Lib.hid hnext
      generalize xs.getD k 0 = x at *
      by_cases h1 : x < 0
      · go_wp2_with (first | (go_at_call 14; refine (Quorum_any _ _).mono ?_; rintro e w' ⟨rfl, rfl⟩) | (go_at_call 15; refine (RefQuorum_any _ _).mono ?_; rintro e w' ⟨rfl, rfl⟩))
        go_ret
        exact ⟨rfl, KALL.out.drewN _⟩
      · by_cases h2 : 4611686018427387904 < x
        · go_wp2_with (first | (go_at_call 14; refine (Quorum_any _ _).mono ?_; rintro e w' ⟨rfl, rfl⟩) | (go_at_call 15; refine (RefQuorum_any _ _).mono ?_; rintro e w' ⟨rfl, rfl⟩))
          go_ret
          exact ⟨rfl, KALL.out.drewN _⟩
        · have hn := hnext.out (by simp [outB]; omega)
          go_wp2_with (first | (go_at_call 14; refine (Quorum_any _ _).mono ?_; rintro e w' ⟨rfl, rfl⟩) | (go_at_call 15; refine (RefQuorum_any _ _).mono ?_; rintro e w' ⟨rfl, rfl⟩))
          go_round
          case rel => exact ⟨k + 1, by omega, by go_num, hn⟩
          case measure => simp [intOf]; omega
    · obtain rfl : k = xs.length := by omega
      have hcm : (commitP xs == refCommit xs) = true := by rw [commit_same xs (in_of xs hin.out)]; simp
      clear hin
      go_wp2_with (first | (go_at_call 14; refine (Quorum_any _ _).mono ?_; rintro e w' ⟨rfl, rfl⟩) | (go_at_call 15; refine (RefQuorum_any _ _).mono ?_; rintro e w' ⟨rfl, rfl⟩) | (go_at_call 16; refine (RefCommit_any _ _ xs (HR.out.keep (KALL.out.drewN _))).mono ?_; rintro e w' ⟨rfl, q9, rfl⟩))
      go_ret
      exact ⟨rfl, KALL.out.drewN _⟩

theorem TrackQuorums_walk (w : World) (n : Int) (v : Value) (xs : List Int) (_hn : -9223372036854775808 ≤ n ∧ n ≤ 9223372036854775807) (h : RInts w v xs) (_ok : IntsOk xs) :
    Calls Try.prog 3 #[.int .i64 n, v] w fun e w' => e = .returned (.bool true) ∧ Keeps [] w w' := by
  have h' := h
  obtain ⟨a, cap, rfl, -, -, -, hc⟩ := h
  by_cases hl : 1000 < xs.length
  · exact TrackQuorums_long w n a _ cap hl
  · rcases hc with hx | ⟨b, off, rfl, hc⟩
    · exact TrackQuorums_none w n a xs cap hx h' (by omega)
    · exact TrackQuorums_some w n b off xs cap h' hc (by omega)

end Go.Proofs.Ytniceappkpiekaa
