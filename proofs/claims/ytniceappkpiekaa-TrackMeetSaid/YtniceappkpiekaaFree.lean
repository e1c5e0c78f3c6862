/-
  queue.Window.Free and Items.
-/
import Derived.Test.YtniceappkpiekaaWindow
namespace Go.Proofs.Ytniceappkpiekaa
open Go.RowKit

/-- how many at the begin are no more than this. -/
def low (upTo : Int) (xs : List Int) : Nat := (xs.takeWhile (fun x => decide (x ≤ upTo))).length
theorem low_le (upTo : Int) (xs : List Int) : low upTo xs ≤ xs.length := by
  unfold low
  exact (List.takeWhile_sublist _).length_le
theorem low_lt (upTo : Int) (xs : List Int) (i : Nat) (h : i < low upTo xs) : xs.getD i 0 ≤ upTo := by
  induction xs generalizing i with
  | nil => simp [low] at h
  | cons x r ih =>
    unfold low at *
    by_cases hx : x ≤ upTo
    · cases i with
      | zero => simpa using hx
      | succ i =>
        simp only [List.takeWhile_cons, decide_eq_true hx, if_true, List.length_cons] at h
        simpa using ih i (by omega)
    · simp [hx] at h
theorem low_at (upTo : Int) (xs : List Int) (h : low upTo xs < xs.length) : upTo < xs.getD (low upTo xs) 0 := by
  induction xs with
  | nil => simp at h
  | cons x r ih =>
    unfold low at *
    by_cases hx : x ≤ upTo
    · simp only [List.takeWhile_cons, decide_eq_true hx, if_true, List.length_cons] at h ⊢
      simpa using ih (by omega)
    · simp [hx] ; omega

def Freed (w : World) (q : Nat) (room : Int) (xs : List Int) (D : List Nat) (w' : World) : Prop :=
  WinAt w' q room xs D ∧ Keeps (q :: D) w w'

theorem WinAt.drewN {w : World} {q : Nat} {room : Int} {xs : List Int} {D : List Nat} (h : WinAt w q room xs D) (n : Nat) : WinAt (w.drewN n) q room xs D :=
  h.keep ((Keeps.refl [] w).drewN n) (by simp) (by simp)

theorem intsV_drop (xs : List Int) (k : Nat) : intsV (xs.drop k) = (intsV xs).drop k := by simp [intsV]

theorem Delete0_any (w : World) (v : Value) (xs : List Int) (D : List Nat) (h : Ints w v xs D) (k : Nat) (hk : k ≤ xs.length) :
    Calls Try.prog 57 #[v, .int .i64 0, .int .i64 k] w fun e w' => ∃ v', e = .returned v' ∧ Ints w' v' (xs.drop k) D ∧ Keeps D w w' := by
  obtain ⟨a, cap, rfl, hc, hm, hl, hh⟩ := id h
  by_cases hn : xs.length = 0
  · obtain rfl : k = 0 := by omega
    obtain rfl : xs = [] := List.eq_nil_of_length_eq_zero hn
    refine (Try.slices_Delete_int_empty a cap w).mono ?_
    rintro e w' ⟨rfl, rfl⟩
    exact ⟨_, rfl, h, Keeps.refl _ _⟩
  · rcases hh with ⟨rfl, rfl, _⟩ | ⟨d, off, arr, rfl, rfl, e3, e4, e5⟩
    · omega
    · have hcell : ∀ j, j < xs.length → w.cell? ⟨d, off + j, none⟩ = some (.int .i64 (xs.getD j 0)) := fun j hj => by
        rw [e3.c, e5 j (by omega), intsV_get _ _ hj]
      refine (Try.slices_Delete_int_cells d off xs.length cap 0 k xs w (Nat.le_refl _) hc (by unfold maxLen at hm; omega) (Nat.zero_le _) hk hcell (fun j _ => e3.fr _)).mono ?_
      rintro e w' ⟨rfl, n, rfl⟩
      have hlen : (((xs.take xs.length).take 0 ++ (xs.take xs.length).drop k ++ List.replicate (k - 0) 0).map (Value.int .i64)).length = xs.length := by simp; omega
      obtain ⟨arr', a1, a2, a3, a4⟩ := (e3.drewN n).setCells (((xs.take xs.length).take 0 ++ (xs.take xs.length).drop k ++ List.replicate (k - 0) 0).map (Value.int .i64)) off arr (by rw [hlen]; omega)
      refine ⟨_, rfl, ⟨_, cap, by simp, by (simp; omega), hm, by simp [intsV], .inr ⟨d, off, arr', rfl, rfl, a1, by omega, fun j hj => ?_⟩⟩, Keeps.setCells (.inl (by simp)) _ _ _ ((Keeps.refl _ w).drewN n)⟩
      simp only [List.length_drop, Nat.mul_one] at hj
      rw [a3 j (by rw [hlen]; omega)]
      simp only [List.take_length, List.take_zero, List.nil_append, List.map_append, intsV_drop]
      rw [List.getElem?_append_left (by simp; omega)]

set_option maxHeartbeats 400000 in
theorem Free_any (w : World) (q : Nat) (room : Int) (xs : List Int) (D : List Nat) (u : Int) (h : WinAt w q room xs D) :
    Calls Try.prog 49 #[.pointer (some ⟨q, 0, none⟩), .int .i64 u] w fun e w' => e = .returned (.int .i64 (low u xs)) ∧ Freed w q room (xs.drop (low u xs)) D w' := by
  obtain ⟨v, hb, hi, hq⟩ := id h
  have hle := low_le u xs
  obtain ⟨a, cap, rfl, hx, hc, hm⟩ := Row.shape hi
  unfold maxLen at hx hm
  have c1 : w.cell? ⟨q, 1, none⟩ = some (.slice a xs.length cap) := hb.c 1
  have hend : ∀ (v' : Value) (w1 : World), Ints w1 v' (xs.drop (low u xs)) D → Keeps D w w1 → Blk w1 q #[.int .i64 room, .slice a xs.length cap] 77 ∧ Freed w q room (xs.drop (low u xs)) D (w1.setCell ⟨q, 1, none⟩ v') := by
    intro v' w1 r1 k1
    have hb1 := k1.blk hb hq
    exact ⟨hb1, ⟨v', hb1.setCell 1 v', Row.setOther r1 _ _ hq, hq⟩, (k1.mono (fun x hx _ => by simp [hx])).setCell (.inl (by simp)) _⟩
  have HE := Lib.hid hend
  have HI := Lib.hid hi
  have HD := Lib.hid (Delete0_any w _ xs D hi (low u xs) hle)
  clear hend
  by_cases hn : 0 < xs.length
  · obtain ⟨d, off, cap', hv, -, -, -, hcell⟩ := Row.at_ hi hn
    obtain ⟨rfl, -, rfl⟩ : a = some ⟨d, off, none⟩ ∧ xs.length = xs.length ∧ cap = cap' := by simpa using hv
    have hlow := Lib.hid (low_lt u xs)
    have hat := Lib.hid (low_at u xs)
    generalize low u xs = K at *
    have hcl : ∀ i : Nat, i < xs.length → w.cell? ⟨d, off + i, none⟩ = some (.int .i64 (xs.getD i 0)) := fun i hi => by
      rw [hcell _ (by omega), intsV_get _ _ hi]
    have HC := Lib.hid hcl
    clear hcell hb hi hcl hv
    go_enter Try.func49, Try.ntmps49
    go_wp2
    go_loop [5] (fun k => ∃ i : Nat, i ≤ K ∧ k = .int .i64 i) (fun k => xs.length - (intOf k).toNat)
    case atStart => exact ⟨0, by omega, rfl⟩
    case round =>
      obtain ⟨i, hiK, rfl⟩ := hrel
      by_cases hlt : i < K
      · have h1 : xs.getD i 0 ≤ u := hlow.out i hlt
        have h2 := HC.out i (by omega)
        have h3 : decide (i < xs.length) = true := by simp; omega
        generalize xs.getD i 0 = xi at *
        go_wp2
        go_round
        case rel => exact ⟨i + 1, by omega, by go_num⟩
        case measure => simp [intOf]; omega
      · obtain rfl : i = K := by omega
        by_cases hend : i < xs.length
        · have h1 : u < xs.getD i 0 := hat.out hend
          have h2 := HC.out i (by omega)
          have h3 : decide (i < xs.length) = true := by simp; omega
          generalize xs.getD i 0 = xi at *
          go_wp2_with (go_at_call 57; refine HD.out.mono ?_; rintro e w' ⟨v', rfl, r1, k1⟩; obtain ⟨a', n', cap', rfl⟩ := Row.shape' r1; obtain ⟨hb1, hA⟩ := HE.out _ _ r1 k1; have c1' := hb1.c 1; have f1' := hb1.fr 1; clear r1 k1 hb1)
          go_ret
          exact ⟨rfl, hA⟩
        · have h3 : decide (i < xs.length) = false := by simp; omega
          go_wp2_with (go_at_call 57; refine HD.out.mono ?_; rintro e w' ⟨v', rfl, r1, k1⟩; obtain ⟨a', n', cap', rfl⟩ := Row.shape' r1; obtain ⟨hb1, hA⟩ := HE.out _ _ r1 k1; have c1' := hb1.c 1; have f1' := hb1.fr 1; clear r1 k1 hb1)
          go_ret
          exact ⟨rfl, hA⟩
  · obtain rfl : xs = [] := List.eq_nil_of_length_eq_zero (by omega)
    have e0 : low u [] = 0 := rfl
    rw [e0] at HE HD ⊢
    have c1' : w.cell? ⟨q, 1, none⟩ = some (.slice a 0 cap) := hb.c 1
    clear hb hi c1 e0
    go_enter Try.func49, Try.ntmps49
    go_wp2
    refine wp_loop_once ?_
    go_wp2_with (go_at_call 57; refine HD.out.mono ?_; rintro e w' ⟨v', rfl, r1, k1⟩; obtain ⟨a', n', cap', rfl⟩ := Row.shape' r1; obtain ⟨hb1, hA⟩ := HE.out _ _ r1 k1; have c2' := hb1.c 1; have f1' := hb1.fr 1; clear r1 k1 hb1)
    go_ret
    exact ⟨rfl, hA⟩

/-- A slice of ints that is only read: whoever's memory it lies in. -/
def RInts (w : World) (v : Value) (xs : List Int) : Prop :=
  ∃ a cap, v = .slice a xs.length cap ∧ xs.length ≤ cap ∧ cap ≤ maxLen ∧ (a = none → cap = 0) ∧
    (xs = [] ∨ ∃ b off, a = some ⟨b, off, none⟩ ∧ ∀ i, i < xs.length → w.cell? ⟨b, off + i, none⟩ = some (.int .i64 (xs.getD i 0)))

theorem Ints.reads {w : World} {v : Value} {xs : List Int} {D : List Nat} (h : Ints w v xs D) : RInts w v xs := by
  by_cases hn : 0 < xs.length
  · obtain ⟨d, off, cap, rfl, -, h1, h2, hc⟩ := Row.at_ h hn
    exact ⟨_, cap, rfl, h1, h2, by simp, .inr ⟨d, off, rfl, fun i hi => by rw [hc i (by omega), intsV_get _ _ hi]⟩⟩
  · obtain rfl : xs = [] := List.eq_nil_of_length_eq_zero (by omega)
    obtain ⟨a, cap, rfl, h1, h2, h3, h4⟩ := h
    refine ⟨a, cap, rfl, h1, h2, fun e => ?_, .inl rfl⟩
    rcases h4 with ⟨_, h, _⟩ | ⟨d, off, arr, rfl, _⟩
    · exact h
    · cases e

theorem Clone_any (w : World) (v : Value) (xs : List Int) (h : RInts w v xs) (hl : xs.length ≤ 1000000) :
    Calls Try.prog 45 #[v] w fun e w' => ∃ v' D', e = .returned v' ∧ Ints w' v' xs D' ∧ Keeps [] w w' ∧ ∀ x, x ∈ D' → w.heap.size ≤ x := by
  obtain ⟨a, cap, rfl, h1, h2, h3, h4⟩ := h
  rcases h4 with rfl | ⟨b, off, rfl, hc⟩
  · cases a with
    | none =>
      refine (Try.slices_Clone_int_nil 0 cap w).mono ?_
      rintro e w' ⟨rfl, rfl⟩
      exact ⟨_, [], rfl, Row.nil _ _ _, Keeps.refl _ _, by simp⟩
    | some a =>
      refine (Try.slices_Clone_int_zero a cap w).mono ?_
      rintro e w' ⟨v', rfl, ho, -, hb⟩
      obtain ⟨D', r1, r2⟩ := Row.of_owns ho
      exact ⟨v', D', rfl, r1, Keeps.of_below hb rfl, r2⟩
  · refine (Try.slices_Clone_int b off xs.length cap xs w (Nat.le_refl _) (by omega) hc).mono ?_
    rintro e w' ⟨v', rfl, ho, -, hb⟩
    obtain ⟨D', r1, r2⟩ := Row.of_owns ho
    rw [List.take_length] at r1
    exact ⟨v', D', rfl, r1, Keeps.of_below hb rfl, r2⟩

set_option maxHeartbeats 400000 in
theorem Items_any (w : World) (q : Nat) (room : Int) (xs : List Int) (D : List Nat) (h : WinAt w q room xs D) (hl : xs.length ≤ 1000000) :
    Calls Try.prog 65 #[.pointer (some ⟨q, 0, none⟩)] w fun e w' => ∃ v' D', e = .returned v' ∧ Ints w' v' xs D' ∧ Keeps [] w w' ∧ ∀ x, x ∈ D' → w.heap.size ≤ x := by
  obtain ⟨v, hb, hi, hq⟩ := h
  obtain ⟨a, n, cap, rfl⟩ := Row.shape' hi
  have c1 : w.cell? ⟨q, 1, none⟩ = some (.slice a n cap) := hb.c 1
  have HC := Lib.hid (Clone_any w _ xs (Ints.reads hi) hl)
  clear hb hi
  go_enter Try.func65, Try.ntmps65
  go_wp2_with (go_at_call 45; refine HC.out.mono ?_; rintro e w' ⟨v', D', rfl, r1, k1, d1⟩)
  go_ret
  exact ⟨v', D', rfl, r1, k1, d1⟩
end Go.Proofs.Ytniceappkpiekaa
