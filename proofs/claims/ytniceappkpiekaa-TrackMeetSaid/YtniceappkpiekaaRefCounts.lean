/-
  synodref9.Votes: Counts and Result.
-/
import Derived.Test.YtniceappkpiekaaRefVotes
namespace Go.Proofs.Ytniceappkpiekaa
open Go.RowKit

def cnt (x : Int) (cs : List Int) : Nat := (cs.filter (fun c => c == x)).length
theorem cnt_le (x : Int) (cs : List Int) : cnt x cs ≤ cs.length := List.length_filter_le _ _
theorem cnt_take (x : Int) (cs : List Int) (k : Nat) (h : k < cs.length) : cnt x (cs.take (k + 1)) = cnt x (cs.take k) + if cs.getD k 0 == x then 1 else 0 := by
  rw [List.take_succ_eq_append_getElem h, List.getD_eq_getElem?_getD, List.getElem?_eq_getElem h]
  unfold cnt
  rw [List.filter_append]
  simp only [List.filter_cons, List.filter_nil, Option.getD_some, List.length_append]
  split <;> simp
theorem cnt_take_le (x : Int) (cs : List Int) (k : Nat) : cnt x (cs.take k) ≤ k := Nat.le_trans (cnt_le _ _) (by simp; omega)

set_option maxRecDepth 100000 in
set_option maxHeartbeats 1600000 in
theorem RCounts_any (w : World) (b d : Nat) (cs : List Int) (h : RVotesAt w b d cs) :
    Calls Try.prog 40 #[.pointer (some ⟨b, 0, none⟩)] w fun e w' => e = .returned (.tuple #[.int .i64 (cnt 1 cs), .int .i64 (cnt 2 cs)]) ∧ w = w' := by
  have c0 : w.cell? ⟨b, 0, none⟩ = some (.slice (some ⟨d, 0, none⟩) cs.length cs.length) := h.blk.c 0
  have h7 := h.le
  have HC := Lib.hid (fun i hi => (h.row.put i hi 0).1)
  clear h
  go_enter Try.func40, Try.ntmps40
  go_wp2
  go_loop [4, 5, 6] (fun a c i => ∃ (k x y : Nat), k ≤ cs.length ∧ i = .int .i64 (k : Int) ∧ a = .int .i64 (x : Int) ∧ c = .int .i64 (y : Int) ∧ Hid (x = cnt 1 (cs.take k) ∧ y = cnt 2 (cs.take k)) ∧ x ≤ k ∧ y ≤ k) (fun _ _ i => cs.length - (intOf i).toNat)
  case atStart => exact ⟨0, 0, 0, by omega, rfl, rfl, rfl, ⟨rfl, rfl⟩, by omega, by omega⟩
  case round =>
    obtain ⟨k, x, y, hk, rfl, rfl, rfl, hxy, hx, hy⟩ := hrel
    by_cases hlt : k < cs.length
    · have cx := HC.out k hlt
      have e1 := cnt_take 1 cs k hlt
      have e2 := cnt_take 2 cs k hlt
      rw [← hxy.out.1] at e1
      rw [← hxy.out.2] at e2
      generalize cs.getD k 0 = c at *
      have E1 := Lib.hid e1
      have E2 := Lib.hid e2
      have k0 : (0 : Int) ≤ k := by omega
      have k1 : (k : Int) < cs.length := by omega
      clear hxy e1 e2
      cases b1 : (c == 1)
      · rw [b1] at E1
        cases b2 : (c == 2)
        · rw [b2] at E2
          go_wp2
          go_round
          case rel => exact ⟨k + 1, x, y, by omega, by go_num, rfl, rfl, ⟨E1.out.symm, E2.out.symm⟩, by omega, by omega⟩
          case measure => simp [intOf]; omega
        · rw [b2] at E2
          go_wp2
          go_round
          case rel => exact ⟨k + 1, x, y + 1, by omega, by go_num, rfl, by go_num, ⟨E1.out.symm, E2.out.symm⟩, by omega, by omega⟩
          case measure => simp [intOf]; omega
      · rw [b1] at E1
        have b2 : (c == 2) = false := by rw [beq_iff_eq] at b1; rw [b1]; rfl
        rw [b2] at E2
        go_wp2
        go_round
        case rel => exact ⟨k + 1, x + 1, y, by omega, by go_num, by go_num, rfl, ⟨E1.out.symm, E2.out.symm⟩, by omega, by omega⟩
        case measure => simp [intOf]; omega
    · obtain rfl : k = cs.length := by omega
      have e := hxy.out
      rw [List.take_length] at e
      obtain ⟨ex, ey⟩ := e
      subst ex
      subst ey
      clear hxy
      go_wp2
      go_ret2
      exact ⟨rfl, rfl⟩

def RResult (cs : List Int) : Int := saysV cs.length (cnt 1 cs) (cnt 2 cs)

set_option maxRecDepth 100000 in
set_option maxHeartbeats 1600000 in
theorem RResult_any (w : World) (b d : Nat) (cs : List Int) (h : RVotesAt w b d cs) :
    Calls Try.prog 42 #[.pointer (some ⟨b, 0, none⟩)] w fun e w' => e = .returned (.int .i64 (RResult cs)) ∧ w = w' := by
  have c0 : w.cell? ⟨b, 0, none⟩ = some (.slice (some ⟨d, 0, none⟩) cs.length cs.length) := h.blk.c 0
  have HC := RCounts_any w b d cs h
  have l1 := cnt_le 1 cs
  have l2 := cnt_le 2 cs
  have h7 := h.le
  unfold RResult
  generalize cnt 1 cs = x at *
  generalize cnt 2 cs = y at *
  generalize hv : cs.length = l at *
  clear h hv
  by_cases h1 : quorum l ≤ x
  · have hr : saysV l x y = 1 := by simp [saysV, h1]
    rw [hr]
    clear hr
    go_enter Try.func42, Try.ntmps42
    go_wp2_with (first | (go_at_call 40; refine HC.mono ?_; rintro e w1 ⟨rfl, rfl⟩) | (go_at_call 15; refine (RefQuorum_any _ _).mono ?_; rintro e w' ⟨rfl, rfl⟩))
    go_ret
    exact ⟨rfl, rfl⟩
  · by_cases h2 : (l : Int) - y < quorum l
    · have hr : saysV l x y = 2 := by simp [saysV, h1, h2]
      rw [hr]
      clear hr
      go_enter Try.func42, Try.ntmps42
      go_wp2_with (first | (go_at_call 40; refine HC.mono ?_; rintro e w1 ⟨rfl, rfl⟩) | (go_at_call 15; refine (RefQuorum_any _ _).mono ?_; rintro e w' ⟨rfl, rfl⟩))
      go_ret
      exact ⟨rfl, rfl⟩
    · have hr : saysV l x y = 0 := by simp [saysV, h1, h2]
      rw [hr]
      clear hr
      go_enter Try.func42, Try.ntmps42
      go_wp2_with (first | (go_at_call 40; refine HC.mono ?_; rintro e w1 ⟨rfl, rfl⟩) | (go_at_call 15; refine (RefQuorum_any _ _).mono ?_; rintro e w' ⟨rfl, rfl⟩))
      go_ret
      exact ⟨rfl, rfl⟩

end Go.Proofs.Ytniceappkpiekaa
