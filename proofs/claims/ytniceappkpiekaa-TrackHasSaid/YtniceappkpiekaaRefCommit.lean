/-
  synodref9.Commit: what it answers; and that it is what track.Commit answers (at numbers from 0 on).
-/
import Derived.Test.YtniceappkpiekaaAppend
namespace Go.Proofs.Ytniceappkpiekaa
open Go.RowKit

/-- how many are no less. -/
def cge (x : Int) (xs : List Int) : Nat := (xs.filter (fun y => decide (x ≤ y))).length
def better (all : List Int) (best x : Int) : Int := if quorum all.length ≤ cge x all ∧ best < x then x else best
def refCommit (xs : List Int) : Int := if xs.length = 0 ∨ 7 < xs.length then 0 else xs.foldl (better xs) 0

theorem take_succ' (xs : List Int) (k : Nat) (h : k < xs.length) : xs.take (k + 1) = xs.take k ++ [xs.getD k 0] := by
  rw [List.take_succ_eq_append_getElem h, List.getD_eq_getElem?_getD, List.getElem?_eq_getElem h]
  rfl
theorem cge_snoc (x : Int) (xs : List Int) (y : Int) : cge x (xs ++ [y]) = cge x xs + if x ≤ y then 1 else 0 := by
  unfold cge
  rw [List.filter_append]
  by_cases h : x ≤ y <;> simp [h]
theorem cge_le (x : Int) (xs : List Int) : cge x xs ≤ xs.length := List.length_filter_le _ _

set_option maxRecDepth 100000 in
set_option maxHeartbeats 1600000 in
theorem RefCommit_some (w : World) (xs : List Int) (b off cap : Nat) (h1 : 1 ≤ xs.length) (h7 : xs.length ≤ 7) (hc : ∀ i, i < xs.length → w.cell? ⟨b, off + i, none⟩ = some (.int .i64 (xs.getD i 0))) :
    Calls Try.prog 16 #[.slice (some ⟨b, off, none⟩) xs.length cap] w fun e w' => e = .returned (.int .i64 (refCommit xs)) ∧ ∃ n, w' = w.drewN n := by
  have hfin : refCommit xs = xs.foldl (better xs) 0 := by rw [refCommit, if_neg (by omega)]
  rw [hfin]
  have HC := Lib.hid hc
  have hz : ((xs.length : Int) == 0) = false := by rw [beq_eq_false_iff_ne]; omega
  clear hc hfin
  go_enter Try.func16, Try.ntmps16
  go_wp2
  go_loopw [3, 4, 5, 6] (fun best i u5 u6 wr => ∃ (k : Nat) (bst : Int), k ≤ xs.length ∧ i = .int .i64 k ∧ best = .int .i64 bst ∧ Hid (bst = (xs.take k).foldl (better xs) 0) ∧ ∃ n, wr = w.drewN n) (fun _ i _ _ _ => xs.length - (intOf i).toNat)
  case atStart => exact ⟨0, 0, by omega, rfl, rfl, rfl, 0, rfl⟩
  case round =>
    obtain ⟨k, bst, hk, rfl, rfl, hbest, nn, rfl⟩ := hrel
    by_cases hlt : k < xs.length
    · have cx := HC.out k hlt
      have hx : Hid (∃ x, x = xs.getD k 0) := ⟨_, rfl⟩
      obtain ⟨x, hxe⟩ := hx.out
      rw [← hxe] at cx
      have HX := Lib.hid hxe
      clear hxe hx
      have hk0 : (0 : Int) ≤ (k : Int) := by omega
      have hk1 : (k : Int) < (xs.length : Int) := by omega
      go_wp2
      go_loopw [5, 6] (fun n j wr => ∃ (q : Nat) (c : Int), q ≤ xs.length ∧ j = .int .i64 q ∧ n = .int .i64 c ∧ Hid (c = cge x (xs.take q)) ∧ 0 ≤ c ∧ c ≤ q ∧ ∃ m, wr = w.drewN m) (fun _ j _ => xs.length - (intOf j).toNat)
      case atStart => exact ⟨0, 0, by omega, rfl, rfl, rfl, by omega, by omega, nn, rfl⟩
      case round =>
        obtain ⟨q, c, hq, rfl, rfl, hcnt, hc0, hcq, mm, rfl⟩ := hrel
        by_cases hqlt : q < xs.length
        · have cy := HC.out q hqlt
          have hy : Hid (∃ y, y = xs.getD q 0) := ⟨_, rfl⟩
          obtain ⟨y, hye⟩ := hy.out
          rw [← hye] at cy
          have HY := Lib.hid hye
          clear hye hy
          have hq0 : (0 : Int) ≤ (q : Int) := by omega
          have hq1 : (q : Int) < (xs.length : Int) := by omega
          by_cases hxy : x ≤ y
          · have hn : Hid (c + 1 = cge x (xs.take (q + 1))) := by
              show c + 1 = _
              rw [take_succ' xs q hqlt, cge_snoc, ← HY.out, if_pos hxy, hcnt.out]
              rfl
            go_wp2
            go_quiet (fail)
            go_wp2
            go_roundw
            case rel => exact ⟨q + 1, c + 1, by omega, by go_num, rfl, hn, by omega, by omega, _, rfl⟩
            case measure => simp [intOf]; omega
          · have hn : Hid (c = cge x (xs.take (q + 1))) := by
              show c = _
              rw [take_succ' xs q hqlt, cge_snoc, ← HY.out, if_neg hxy, hcnt.out]
              rfl
            go_wp2
            go_quiet (fail)
            go_wp2
            go_roundw
            case rel => exact ⟨q + 1, c, by omega, by go_num, rfl, hn, by omega, by omega, _, rfl⟩
            case measure => simp [intOf]; omega
        · obtain rfl : q = xs.length := by omega
          have hcnt' : Hid (c = cge x xs) := by
            have := hcnt.out
            rw [List.take_length] at this
            exact this
          clear hcnt
          have hfold : ∀ b', b' = better xs bst x → Hid (b' = (xs.take (k + 1)).foldl (better xs) 0) := fun b' hb => by
            show b' = _
            rw [take_succ' xs k hlt, List.foldl_append, ← hbest.out, ← HX.out, hb]
            rfl
          by_cases hge : quorum xs.length ≤ c
          · by_cases hbt : bst < x
            · have hn := hfold x (by rw [better, if_pos ⟨by rw [← hcnt'.out]; exact hge, hbt⟩])
              have hgeb : decide (quorum xs.length ≤ c) = true := by simpa using hge
              clear hfold hge
              go_wp2_with (go_at_call 15; refine (RefQuorum_any _ _).mono ?_; rintro e w' ⟨rfl, rfl⟩)
              go_roundw
              case rel => exact ⟨k + 1, x, by omega, by go_num, rfl, hn, _, rfl⟩
              case measure => simp [intOf]; omega
            · have hn := hfold bst (by rw [better, if_neg (fun hh => hbt hh.2)])
              have hgeb : decide (quorum xs.length ≤ c) = true := by simpa using hge
              clear hfold hge
              go_wp2_with (go_at_call 15; refine (RefQuorum_any _ _).mono ?_; rintro e w' ⟨rfl, rfl⟩)
              go_roundw
              case rel => exact ⟨k + 1, bst, by omega, by go_num, rfl, hn, _, rfl⟩
              case measure => simp [intOf]; omega
          · have hn := hfold bst (by rw [better, if_neg (fun hh => hge (by rw [hcnt'.out]; exact hh.1))])
            have hgeb : decide (quorum xs.length ≤ c) = false := by simpa using hge
            clear hfold hge
            go_wp2_with (go_at_call 15; refine (RefQuorum_any _ _).mono ?_; rintro e w' ⟨rfl, rfl⟩)
            go_roundw
            case rel => exact ⟨k + 1, bst, by omega, by go_num, rfl, hn, _, rfl⟩
            case measure => simp [intOf]; omega
    · obtain rfl : k = xs.length := by omega
      have hb : Hid (bst = xs.foldl (better xs) 0) := by
        have := hbest.out
        rw [List.take_length] at this
        exact this
      clear hbest
      go_wp2
      go_ret
      exact ⟨ret_i hb.out, _, rfl⟩

set_option maxHeartbeats 400000 in
theorem RefCommit_any (w : World) (v : Value) (xs : List Int) (h : RInts w v xs) :
    Calls Try.prog 16 #[v] w fun e w' => e = .returned (.int .i64 (refCommit xs)) ∧ ∃ n, w' = w.drewN n := by
  obtain ⟨a, cap, rfl, hl, hm, -, hc⟩ := h
  by_cases h0 : xs.length = 0
  · have e : refCommit xs = 0 := by rw [refCommit, if_pos (.inl h0)]
    rw [e]
    have hz : ((xs.length : Int) == 0) = true := by rw [h0]; rfl
    clear e h0 hc
    go_enter Try.func16, Try.ntmps16
    go_wp2
    go_ret
    exact ⟨rfl, 0, rfl⟩
  · by_cases h7 : 7 < xs.length
    · have e : refCommit xs = 0 := by rw [refCommit, if_pos (.inr h7)]
      rw [e]
      have hz : ((xs.length : Int) == 0) = false := by rw [beq_eq_false_iff_ne]; omega
      clear e h0 hc
      go_enter Try.func16, Try.ntmps16
      go_wp2
      go_ret
      exact ⟨rfl, 0, rfl⟩
    · rcases hc with rfl | ⟨b, off, rfl, hc⟩
      · exact absurd rfl h0
      · exact RefCommit_some w xs b off cap (by omega) (by omega) hc

end Go.Proofs.Ytniceappkpiekaa
