/-
  synodlaw9.first: true, whatever lies in memory; nothing that was there turns.
-/
import Derived.Test.YtniceappkpiekaaCommit
namespace Go.Proofs.Ytniceappkpiekaa
open Go.RowKit

/-- A progress in memory that was made behind w0; nothing of w0 has turned. -/
def Own (w0 w : World) (p : Nat) (s : Pg) : Prop := ∃ F, PgAt w p s F ∧ Keeps [] w0 w ∧ ∀ x, x ∈ F → w0.heap.size ≤ x

theorem Own.to {w0 w : World} {p : Nat} {s s' : Pg} {f : FuncId} {args : Array Value} {v : Value} (h : Own w0 w p s)
    (k : ∀ F, PgAt w p s F → Calls Try.prog f args w (fun e w' => e = .returned v ∧ PgTo w p F s' w')) : Calls Try.prog f args w (fun e w' => e = .returned v ∧ Own w0 w' p s') := by
  obtain ⟨F, h1, h2, h3⟩ := h
  refine (k F h1).mono ?_
  rintro e w' ⟨rfl, F', a1, a2, a3⟩
  have := h2.size
  refine ⟨rfl, F', a1, h2.trans a2 (fun x hx hlt => by have := h3 x hx; omega), fun x hx => ?_⟩
  rcases a3 x hx with h | h
  · exact h3 x h
  · omega
theorem Own.same {w0 w : World} {p : Nat} {s : Pg} {f : FuncId} {args : Array Value} {v : Value} (h : Own w0 w p s)
    (k : ∀ F, PgAt w p s F → Calls Try.prog f args w (fun e w' => e = .returned v ∧ w = w')) : Calls Try.prog f args w (fun e w' => e = .returned v ∧ Own w0 w' p s) := by
  have h' := h
  obtain ⟨F, h1, h2, h3⟩ := h
  refine (k F h1).mono ?_
  rintro e w' ⟨rfl, rfl⟩
  exact ⟨rfl, h'⟩
theorem Own.drewN {w0 w : World} {p : Nat} {s : Pg} (h : Own w0 w p s) (n : Nat) : Own w0 (w.drewN n) p s :=
  let ⟨F, h1, h2, h3⟩ := h
  ⟨F, h1.keep ((Keeps.refl [] w).drewN n) (by simp), h2.drewN n, h3⟩
theorem Own.drew {w0 w : World} {p : Nat} {s : Pg} (h : Own w0 w p s) : Own w0 w.drew p s := h.drewN 1
theorem Own.drawn {w0 w : World} {p : Nat} {s : Pg} {f : FuncId} {args : Array Value} {v : Value} (h : Own w0 w p s)
    (k : ∀ F, PgAt w p s F → Calls Try.prog f args w (fun e w' => e = .returned v ∧ ∃ n, w' = w.drewN n)) : Calls Try.prog f args w (fun e w' => e = .returned v ∧ Own w0 w' p s) := by
  have h' := h
  obtain ⟨F, h1, h2, h3⟩ := h
  refine (k F h1).mono ?_
  rintro e w' ⟨rfl, n, rfl⟩
  exact ⟨rfl, h'.drewN n⟩
theorem Own.keep {w0 w w' : World} {p : Nat} {s : Pg} (h : Own w0 w p s) (k : Keeps [] w w') : Own w0 w' p s :=
  let ⟨F, h1, h2, h3⟩ := h
  ⟨F, h1.keep k (by simp), h2.trans k (by simp), h3⟩

theorem commit_example : commitP [5, 3, 9] = 5 := by
  have h : sorted [5, 3, 9] = [3, 5, 9] := by simp [sorted, List.mergeSort, List.MergeSort.Internal.splitInTwo]
  rw [commitP, h]
  rfl
theorem reads_539 (w : World) (T : TypeId) : RInts (w.alloc (.cells #[.int .i64 5, .int .i64 3, .int .i64 9] T)) (.slice (some ⟨w.heap.size, 0, none⟩) 3 3) [5, 3, 9] := by
  refine ⟨_, 3, rfl, by simp, by simp [maxLen], by simp, .inr ⟨_, 0, rfl, fun i hi => ?_⟩⟩
  have hb := Blk.new w #[.int .i64 5, .int .i64 3, .int .i64 9] T
  rw [hb.c]
  simp only [List.length_cons, List.length_nil] at hi
  match i, hi with
  | 0, _ => rfl
  | 1, _ => rfl
  | 2, _ => rfl
def pg (nx st mt : Int) (pz : Bool) : Pg := { room := 2, xs := [], mt := mt, nx := nx, st := st, sn := 0, pz := pz }

theorem numOk_of (x : Int) (h : -9000000000000000000 ≤ x ∧ x ≤ 9000000000000000000) : NumOk x := h

set_option maxHeartbeats 1600000 in
theorem first_any (w : World) : Calls Try.prog 11 #[] w fun e w' => e = .returned (.bool true) ∧ Keeps [] w w' := by
  go_enter Try.func11, Try.ntmps11
  go_wp2_with fail
  refine (NewProgress_yes 8 2 w rfl).mono ?_
  rintro e w1 ⟨p, rfl, F, a1, a2, a3⟩
  have O1 : Own w w1 p (Pg.new 8 2) := ⟨F, a1, a2, a3⟩
  have H1 := Lib.hid O1
  clear O1 a1 a2 a3
  have C1 := Lib.hid ((commit_example ▸ Commit_any _ _ [5, 3, 9] (reads_539 w1 3) (by simp)))
  go_wp2_with (first | (go_at_call 14; refine (Quorum_any _ _).mono ?_; rintro e w' ⟨rfl, rfl⟩) | (go_at_call 12; refine C1.out.mono ?_; rintro e w2 ⟨rfl, k2⟩))
  have O2 : Own w w2 p (pg 8 0 0 false) := (H1.out.keep ((Keeps.refl [] w1).alloc _)).keep k2
  have S2 := O2.to (s' := pg 8 0 0 true) (fun F a => Sent_any _ p _ F 9 a (numOk_of _ (by omega)) (by decide))
  refine S2.mono ?_
  rintro e w3 ⟨rfl, O3⟩
  clear H1 C1 k2 O2 S2
  replace O3 := Lib.hid O3
  go_wp2_with fail
  refine (O3.out.drawn (fun F a => May_any _ p _ F a)).mono ?_
  rintro e w4 ⟨rfl, O4⟩
  clear O3
  replace O4 := Lib.hid O4
  go_wp2_with fail
  refine (O4.out.to (s' := pg 8 0 0 true) (fun F a => Rejected_any _ p _ F 6 3 a (numOk_of _ (by decide)) (numOk_of _ (by decide)) (numOk_of _ (by decide)) (.inl rfl))).mono ?_
  rintro e w5 ⟨rfl, O5⟩
  clear O4
  replace O5 := Lib.hid O5
  go_wp2_with fail
  refine (O5.out.to (s' := pg 4 0 0 false) (fun F a => Rejected_any _ p _ F 7 3 a (numOk_of _ (by decide)) (numOk_of _ (by decide)) (numOk_of _ (by decide)) (.inl rfl))).mono ?_
  rintro e w6 ⟨rfl, O6⟩
  clear O5
  replace O6 := Lib.hid O6
  go_wp2_with fail
  refine (O6.out.to (s' := pg 4 0 0 true) (fun F a => Sent_any _ p _ F 3 a (numOk_of _ (by decide)) (by decide))).mono ?_
  rintro e w7 ⟨rfl, O7⟩
  clear O6
  replace O7 := Lib.hid O7
  go_wp2_with fail
  refine (O7.out.to (s' := pg 4 1 3 false) (fun F a => Acked_any _ p _ F 3 a (numOk_of _ (by decide)) (numOk_of _ (by decide)) (.inl rfl))).mono ?_
  rintro e w8 ⟨rfl, O8⟩
  clear O7
  replace O8 := Lib.hid O8
  go_wp2_with (first | (go_at_call 32; refine (O8.out.same (fun F a => State_any _ p _ F a)).mono ?_; rintro e w9 ⟨rfl, O9⟩; replace O9 := Lib.hid O9) | (go_at_call 31; refine (O9.out.same (fun F a => Next_any _ p _ F a)).mono ?_; rintro e w10 ⟨rfl, O10⟩; replace O10 := Lib.hid O10) | (go_at_call 30; refine (O10.out.same (fun F a => Match_any _ p _ F a)).mono ?_; rintro e w11 ⟨rfl, O11⟩; replace O11 := Lib.hid O11))
  go_ret
  obtain ⟨F, -, h2, -⟩ := O11.out
  exact ⟨rfl, h2⟩

end Go.Proofs.Ytniceappkpiekaa
