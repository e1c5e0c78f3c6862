/-
  track.Votes: Counts and Result.
-/
import Derived.Test.YtniceappkpiekaaVotes
namespace Go.Proofs.Ytniceappkpiekaa
open Go.RowKit Go.Maps

theorem keyOf_int_inv' {key : Value} {kl : Lit} (h : keyOf Try.prog 3 key = some kl) : ∃ x, key = Value.int .i64 x := by
  obtain ⟨x, rfl, _⟩ := Maps.keyOf_int_inv Try.underlying3 h
  exact ⟨x, rfl⟩
theorem plainElem_bool_inv {v : Value} {z : DataW Unit × List MemPlace} (h : plainElem Try.prog 4 v = some z) : ∃ c, v = .bool c ∧ z = (.lit (.bool c), []) := by
  unfold plainElem at h
  rw [Try.underlying4] at h
  cases v <;> simp at h
  exact ⟨_, rfl, h.symm⟩

set_option maxRecDepth 100000 in
set_option maxHeartbeats 1600000 in
theorem VCounts_any (w : World) (b m : Nat) (n : Int) (vs : List (Int × Bool)) (h : VotesAt w b m n vs) (hl : vs.length ≤ 1000) :
    Calls Try.prog 39 #[.pointer (some ⟨b, 0, none⟩)] w fun e w' => e = .returned (.tuple #[.int .i64 (yesL vs), .int .i64 ((vs.length : Int) - yesL vs)]) ∧ Keeps [] w w' := by
  have c1 : w.cell? ⟨b, 0 + 1, none⟩ = some (.map (some m)) := h.blk.c 1
  have hown := h.own
  have hsz := VD_size vs h.apart
  have HV := Lib.hid h
  have HY : yesL vs ≤ vs.length := List.length_filter_le _ _
  clear h
  go_enter Try.func39, Try.ntmps39
  go_wp2_with (at_range; refine wpList_range_own _ rfl _ 67 rfl 3 4 lawInt Try.underlying67 _ m vs.length _ rfl hown ?_; intro w0 hrg0 hg0 hs0)
  go_frame
  have K0 := Lib.hid ((Keeps.refl [] w).grown hg0 (by simp))
  have R0 := Lib.hid hrg0
  clear hg0 hrg0 hown
  go_loopw [4, 6] (fun yes _ wr => ∃ (left : Lit → Bool) (cnt y : Nat), yes = .int .i64 (y : Int) ∧ Hid (y = yesGone vs left) ∧ y ≤ vs.length ∧ Hid (wr.ranges Try.prog 3 (plainElem (H := Unit) Try.prog 4) m w.heap.size vs.length (VD vs) left cnt ∧ Keeps [] w wr)) (fun _ _ wr => wr.rangeLeft m w.heap.size)
  case atStart => exact ⟨_, _, 0, rfl, (yesGone_start vs).symm, by omega, R0.out, K0.out⟩
  case round =>
    obtain ⟨left, cnt, y, rfl, hy, hyl, hr⟩ := hrel
    have hrg := hr.out.1
    have hfin : Hid (∀ (x : Int) (c : Bool) (kl : Lit) (z : DataW Unit × List MemPlace) (w1 : World) (cnt1 : Nat), keyOf Try.prog 3 (.int .i64 x) = some kl → left kl = true → plainElem Try.prog 4 (.bool c) = some z → (∀ zd, (VD vs).atKey kl zd = z.1) →
        w1.ranges Try.prog 3 (plainElem (H := Unit) Try.prog 4) m w.heap.size vs.length (VD vs) (fun x => left x && !x.sameKey kl) cnt1 → cnt1 < cnt → wr.grownBy w1 (some w.heap.size) →
        ∃ left', w1.ranges Try.prog 3 (plainElem (H := Unit) Try.prog 4) m w.heap.size vs.length (VD vs) left' cnt1 ∧ yesGone vs left' = y + (if c then 1 else 0) ∧ yesGone vs left' ≤ vs.length ∧ Keeps [] w w1 ∧ w1.rangeLeft m w.heap.size < wr.rangeLeft m w.heap.size) := by
      intro x c kl z w1 cnt1 hkey hlk hRv hat hrg1 hlt hg1
      obtain ⟨x', ex, rfl, -⟩ := Maps.keyOf_int_inv Try.underlying3 hkey
      injection ex with _ ex
      subst ex
      obtain ⟨c', ec, rfl⟩ := plainElem_bool_inv hRv
      injection ec with ec
      subst ec
      have hm := VD_at x c vs hat
      have hstep := yesGone_step x c left hlk vs HV.out.apart hm
      rw [← hy.out] at hstep
      exact ⟨_, hrg1, hstep, List.length_filter_le _ _, hr.out.2.grown hg1 (by simp), by rw [hrg1.left_eq, hrg.left_eq]; exact hlt⟩
    go_wp2_with (at_next; refine wpList_next_ranges _ rfl (.tmp 11) rfl 3 lawInt (plainElem (H := Unit) Try.prog 4) (Value.int .i64) Value.bool (fun _ _ q => keyOf_int_inv' q) (fun _ _ q => by obtain ⟨c, e, _⟩ := plainElem_bool_inv q; exact ⟨c, e⟩) m w.heap.size vs.length _ left cnt rfl hrg ?_ ?hMore; case' hMore => (intro x c kl z w1 cnt1 hkey hlk hRv hat hrg1 hlt hg1 hs1 hen; obtain ⟨left', q1, q2, q3, q4, q5⟩ := hfin.out x c kl z w1 cnt1 hkey hlk hRv hat hrg1 hlt hg1; clear hkey hlk hRv hat hrg1 hlt hg1 hs1; replace q1 := Lib.hid q1; replace q4 := Lib.hid q4; replace q5 := Lib.hid q5; cases c))
    · replace q2 := Lib.hid q2
      go_roundw
      case rel => exact ⟨_, cnt1, y, rfl, q2.out.symm, hyl, q1.out, q4.out⟩
      case measure => exact q5.out
    · rw [q2] at q3
      replace q2 := Lib.hid q2
      go_roundw
      case rel => exact ⟨_, cnt1, y + 1, by go_num, q2.out.symm, q3, q1.out, q4.out⟩
      case measure => exact q5.out
    · intro _ hl0
      have hown2 := hrg.owns
      have hyy : y = yesL vs := by rw [hy.out]; exact yesGone_end vs left hl0
      have d1 : wr.cell? ⟨b, 0 + 1, none⟩ = some (.map (some m)) := hr.out.2.cell c1 (by simp)
      clear hrg
      subst hyy
      have hlen := hown2.len Try.underlying67 3
      rw [hsz] at hlen
      go_wp2
      go_ret2
      exact ⟨rfl, hr.out.2⟩

/-- what votes say: 0 open, 1 won, 2 lost. -/
def saysV (n yes no : Int) : Int := if quorum n ≤ yes then 1 else if n - no < quorum n then 2 else 0
def VResult (n : Int) (vs : List (Int × Bool)) : Int := saysV n (yesL vs) ((vs.length : Int) - yesL vs)

set_option maxRecDepth 100000 in
set_option maxHeartbeats 1600000 in
theorem VResult_any (w : World) (b m : Nat) (n : Int) (vs : List (Int × Bool)) (h : VotesAt w b m n vs) (hl : vs.length ≤ 1000) (hn : 0 ≤ n ∧ n ≤ 1000) :
    Calls Try.prog 41 #[.pointer (some ⟨b, 0, none⟩)] w fun e w' => e = .returned (.int .i64 (VResult n vs)) ∧ Keeps [] w w' := by
  have HV := Lib.hid h
  have HY : yesL vs ≤ vs.length := List.length_filter_le _ _
  have HC := VCounts_any w b m n vs h hl
  unfold VResult
  generalize yesL vs = y at *
  generalize hv : vs.length = l at *
  clear h hv
  by_cases h1 : quorum n ≤ y
  · have hr : saysV n y ((l : Int) - y) = 1 := by simp [saysV, h1]
    rw [hr]
    clear hr
    go_enter Try.func41, Try.ntmps41
    go_wp2_with (first | (go_at_call 39; refine HC.mono ?_; rintro e w1 ⟨rfl, k1⟩; have c0 : w1.cell? ⟨b, 0, none⟩ = some (.int .i64 n) := (HV.out.keep k1 (by simp) (by simp)).blk.c 0) | (go_at_call 14; refine (Quorum_any _ _).mono ?_; rintro e w' ⟨rfl, rfl⟩))
    go_ret
    exact ⟨rfl, k1⟩
  · by_cases h2 : n - (l - y : Int) < quorum n
    · have hr : saysV n y ((l : Int) - y) = 2 := by simp [saysV, h1, h2]
      rw [hr]
      clear hr
      go_enter Try.func41, Try.ntmps41
      go_wp2_with (first | (go_at_call 39; refine HC.mono ?_; rintro e w1 ⟨rfl, k1⟩; have c0 : w1.cell? ⟨b, 0, none⟩ = some (.int .i64 n) := (HV.out.keep k1 (by simp) (by simp)).blk.c 0) | (go_at_call 14; refine (Quorum_any _ _).mono ?_; rintro e w' ⟨rfl, rfl⟩))
      go_ret
      exact ⟨rfl, k1⟩
    · have hr : saysV n y ((l : Int) - y) = 0 := by simp [saysV, h1, h2]
      rw [hr]
      clear hr
      go_enter Try.func41, Try.ntmps41
      go_wp2_with (first | (go_at_call 39; refine HC.mono ?_; rintro e w1 ⟨rfl, k1⟩; have c0 : w1.cell? ⟨b, 0, none⟩ = some (.int .i64 n) := (HV.out.keep k1 (by simp) (by simp)).blk.c 0) | (go_at_call 14; refine (Quorum_any _ _).mono ?_; rintro e w' ⟨rfl, rfl⟩))
      go_ret
      exact ⟨rfl, k1⟩

end Go.Proofs.Ytniceappkpiekaa
