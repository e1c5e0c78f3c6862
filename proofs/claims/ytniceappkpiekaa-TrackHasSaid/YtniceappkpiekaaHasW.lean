/-
  synodlaw9.TrackHas, walked. (Printed by gen_has.py.)
-/
import Derived.Test.YtniceappkpiekaaQuor
import Derived.Test.YtniceappkpiekaaLawKit
namespace Go.Proofs.Ytniceappkpiekaa
open Go.RowKit

theorem Ints.set {w : World} {v : Value} {xs : List Int} {D : List Nat} (h : Ints w v xs D) (i : Nat) (hi : i < xs.length) (x : Int) :
    ∃ d off cap, v = .slice (some ⟨d, off, none⟩) xs.length cap ∧ D = [d] ∧ w.cell? ⟨d, off + i, none⟩ = some (.int .i64 (xs.getD i 0)) ∧ w.frozen? ⟨d, off + i, none⟩ = false ∧
      Ints (w.setCell ⟨d, off + i, none⟩ (.int .i64 x)) v (xs.set i x) D := by
  obtain ⟨a, cap, rfl, h1, h2, h3, h4⟩ := h
  rcases h4 with ⟨_, rfl, _⟩ | ⟨d, off, arr, rfl, rfl, e3, e4, e5⟩
  · omega
  · refine ⟨d, off, cap, rfl, rfl, ?_, e3.fr _, _, cap, by simp, by simpa using h1, h2, by simp [intsV], .inr ⟨d, off, _, rfl, rfl, e3.setCell (off + i) _, by simpa using e4, fun j hj => ?_⟩⟩
    · rw [e3.c, e5 i (by omega), intsV_get _ _ hi]
    · have hj' : j < xs.length := by simpa using hj
      rw [intsV_get _ _ (by simpa using hj')]
      by_cases e : i = j
      · subst e
        have : off + i < arr.size := by omega
        simp [this, List.getD_eq_getElem?_getD, hi]
      · rw [Array.getElem?_setIfInBounds_ne (by omega), e5 j (by omega), intsV_get _ _ hj']
        simp [List.getD_eq_getElem?_getD, e]

/-! what the plain law says -/
theorem IsC.unique' {xs ys : List Int} {q : Nat} {c d : Int} (h : IsC xs q c) (h' : IsC ys q d) (hp : xs.Perm ys) : c = d := by
  have h1 := h.have_
  have h2 := h.above
  rw [cge_perm hp] at h1
  rw [cgt_perm hp] at h2
  have a := h'.top h1
  by_cases hlt : c < d
  · have := cge_le_cgt hlt ys
    have := h'.have_
    omega
  · omega
theorem commit_rev (xs : List Int) (h1 : 1 ≤ xs.length) (h7 : xs.length ≤ 7) : commitP xs.reverse = commitP xs := by
  have a := commitP_isC xs h1 h7
  have b := commitP_isC xs.reverse (by simpa using h1) (by simpa using h7)
  rw [List.length_reverse] at b
  exact b.unique' a (List.reverse_perm xs)
theorem cge_set (c : Int) (xs : List Int) (i : Nat) (x : Int) (hx : xs.getD i 0 ≤ x) : cge c xs ≤ cge c (xs.set i x) := by
  induction xs generalizing i with
  | nil => simp
  | cons y r ih =>
    have e1 : ∀ (z : Int) (l : List Int), cge c (z :: l) = cge c l + if c ≤ z then 1 else 0 := fun z l => by by_cases h : c ≤ z <;> simp [cge, h]
    cases i with
    | zero =>
      simp only [List.set_cons_zero, e1]
      simp only [List.getD_cons_zero] at hx
      split <;> split <;> omega
    | succ i =>
      simp only [List.set_cons_succ, e1]
      have := ih i (by simpa using hx)
      omega
theorem commit_set (xs : List Int) (i : Nat) (x : Int) (hx : xs.getD i 0 ≤ x) (h1 : 1 ≤ xs.length) (h7 : xs.length ≤ 7) : commitP xs ≤ commitP (xs.set i x) := by
  have a := commitP_isC xs h1 h7
  have b := commitP_isC (xs.set i x) (by simpa using h1) (by simpa using h7)
  rw [List.length_set] at b
  refine b.top ?_
  have := cge_set (commitP xs) xs i x hx
  have := a.have_
  omega
theorem drop_pred (xs : List Int) (m : Nat) (h : m < xs.length) : xs.drop m = xs.getD m 0 :: xs.drop (m + 1) := by
  rw [List.drop_eq_getElem_cons h, List.getD_eq_getElem?_getD, List.getElem?_eq_getElem h]
  rfl
theorem cge_cons (c y : Int) (l : List Int) : cge c (y :: l) = cge c l + if c ≤ y then 1 else 0 := by by_cases h : c ≤ y <;> simp [cge, h]
theorem cgt_cons (c y : Int) (l : List Int) : cgt c (y :: l) = cgt c l + if c < y then 1 else 0 := by by_cases h : c < y <;> simp [cgt, h]

set_option maxRecDepth 100000 in
set_option maxHeartbeats 1600000 in
theorem TrackHas_out (w : World) (more at' : Int) (a : Option Addr) (m cap : Nat) (h : m = 0 ∨ 7 < m) :
    Calls Try.prog 4 #[.slice a m cap, .int .i64 more, .int .i64 at'] w fun e w' => e = .returned (.bool true) ∧ Keeps [] w w' := by
  rcases h with rfl | h
  · go_enter Try.func4, Try.ntmps4
    go_wp2_with (go_at_call 11; refine (first_any _).mono ?_; rintro e w1 ⟨rfl, k1⟩)
    go_ret
    exact ⟨rfl, k1⟩
  · have hb : (7 : Int) < m := by omega
    have hz : ((m : Int) == 0) = false := by rw [beq_eq_false_iff_ne]; omega
    clear h
    go_enter Try.func4, Try.ntmps4
    go_wp2_with (go_at_call 11; refine (first_any _).mono ?_; rintro e w1 ⟨rfl, k1⟩)
    go_ret
    exact ⟨rfl, k1⟩

set_option maxRecDepth 100000 in
set_option maxHeartbeats 6000000 in
theorem TrackHas_in (w : World) (more at' : Int) (xs : List Int) (b offl cap : Nat) (h1 : 1 ≤ xs.length) (h7 : xs.length ≤ 7)
    (hr : RInts w (.slice (some ⟨b, offl, none⟩) xs.length cap) xs) (hcell : ∀ i, i < xs.length → w.cell? ⟨b, offl + i, none⟩ = some (.int .i64 (xs.getD i 0)))
    (hm' : -9223372036854775808 ≤ more ∧ more ≤ 9223372036854775807) (ha' : -9223372036854775808 ≤ at' ∧ at' ≤ 9223372036854775807) :
    Calls Try.prog 4 #[.slice (some ⟨b, offl, none⟩) xs.length cap, .int .i64 more, .int .i64 at'] w fun e w' => e = .returned (.bool true) ∧ Keeps [] w w' := by
  obtain ⟨i0, hinf, hz0, hz1, hz2⟩ := info_parts infoInt
  obtain ⟨hm1, hm2⟩ := hm'
  obtain ⟨ha1, ha2⟩ := ha'
  obtain ⟨mo, hmo, hmo1, hmo2⟩ := mod_form at' xs.length (by omega)
  obtain ⟨t, ht⟩ : ∃ t : Nat, mo % (xs.length : Int) = t := ⟨(mo % (xs.length : Int)).toNat, by have := Int.emod_nonneg mo (b := (xs.length : Int)) (by omega); omega⟩
  have htl : t < xs.length := by have := Int.emod_lt_of_pos mo (b := (xs.length : Int)) (by omega); omega
  have ht' : (mo + (xs.length : Int)) % (xs.length : Int) = t := by rw [Int.add_emod_right]; exact ht
  have HT := Lib.hid ht
  have HT' := Lib.hid ht'
  have hz : ((xs.length : Int) == 0) = false := by rw [beq_eq_false_iff_ne]; omega
  have h7' : ¬ (7 : Int) < xs.length := by omega
  have hsrc : Src w (some ⟨b, offl, none⟩) xs.length (intsV xs) := by
    obtain ⟨a', cap', e, -, -, hs⟩ := hr.src
    simp only [Value.slice.injEq] at e
    rw [e.1]
    exact hs
  have HS := Lib.hid hsrc
  have HR := Lib.hid hr
  have HC := Lib.hid hcell
  have HMO := Lib.hid hmo
  clear hr hcell ht ht' hmo hsrc
  go_enter Try.func4, Try.ntmps4
  go_wp2_with (go_at_call 11; refine (first_any _).mono ?_; rintro e w1 ⟨rfl, k1⟩)
  go_loop [8] (fun i => ∃ k : Nat, k ≤ xs.length ∧ i = .int .i64 k) (fun i => xs.length - (intOf i).toNat)
  case atStart => exact ⟨0, by omega, rfl⟩
  case round =>
    obtain ⟨k, hk, rfl⟩ := hrel
    by_cases hlt : k < xs.length
    · have cx : w1.cell? ⟨b, offl + k, none⟩ = some (.int .i64 (xs.getD k 0)) := k1.cell (HC.out k hlt) (by simp)
      generalize xs.getD k 0 = x at *
      by_cases hn : numB x = true
      · go_wp2_with (first | (go_at_call 17; refine (number_any _ _).mono ?_; rintro e w' ⟨rfl, rfl⟩))
        go_round
        case rel => exact ⟨k + 1, by omega, by go_num⟩
        case measure => simp [intOf]; omega
      · have hn' : numB x = false := by simpa using hn
        clear hn
        go_wp2_with (first | (go_at_call 17; refine (number_any _ _).mono ?_; rintro e w' ⟨rfl, rfl⟩))
        go_ret
        exact ⟨rfl, k1⟩
    · obtain rfl : k = xs.length := by omega
      have hq := Lib.hid (quorum_nat xs.length h1 h7)
      go_wp2_with (first | (go_at_call 12; refine (Commit_any _ _ xs (HR.out.keep k1) (by omega)).mono ?_; rintro e w2 ⟨rfl, k2⟩; have K2 := Lib.hid (k1.trans k2 (by simp)); clear k2) | (go_at_call 14; refine (Quorum_any _ _).mono ?_; rintro e w' ⟨rfl, rfl⟩))
      have hC := Lib.hid (commitP_isC xs h1 h7)
      have hrev := Lib.hid (commit_rev xs h1 h7)
      have hset := Lib.hid (fun x hx => commit_set xs t x hx h1 h7)
      generalize hce : commitP xs = c at *
      generalize hqe : quorum (xs.length : Int) = qn at *
      replace hce := Lib.hid hce
      replace hqe := Lib.hid hqe
      go_loopw [11, 12, 13, 14] (fun have_ above turned i wr => ∃ (j : Nat) (h a : Int) (D : List Nat) (z : Int), j ≤ xs.length ∧ Hid (z = (j : Int) - 1) ∧ i = .int .i64 z ∧ have_ = .int .i64 h ∧ above = .int .i64 a ∧ Hid (h = cge c (xs.drop j) ∧ a = cgt c (xs.drop j)) ∧
        0 ≤ h ∧ h ≤ 7 - j ∧ 0 ≤ a ∧ a ≤ 7 - j ∧ Hid (Ints wr turned (xs.drop j).reverse D ∧ Keeps [] w wr ∧ ∀ x, x ∈ D → w.heap.size ≤ x)) (fun _ _ _ i _ => (intOf i + 1).toNat)
      case atStart => exact ⟨xs.length, 0, 0, [], _, by omega, rfl, rfl, rfl, rfl, by rw [List.drop_length]; exact ⟨rfl, rfl⟩, by omega, by omega, by omega, by omega, by rw [List.drop_length]; exact ⟨Row.nil _ _ _, K2.out, by simp⟩⟩
      case round =>
        obtain ⟨j, h, a, D, z, hj, hi, rfl, rfl, rfl, hcnt, hh0, hh7, ha0, ha7, hrow⟩ := hrel
        cases j with
        | zero =>
          obtain rfl : z = -1 := hi.out
          obtain ⟨rr, kr, dr⟩ := hrow.out
          obtain ⟨ta, tm, tc, rfl⟩ := Row.shape' rr
          rw [List.drop_zero] at rr
          have hcnt' := hcnt.out
          rw [List.drop_zero] at hcnt'
          obtain ⟨rfl, rfl⟩ := hcnt'
          have hge : decide (qn ≤ (cge c xs : Int)) = true := by
            have := hC.out.have_; have := hq.out; have := hqe.out
            rw [decide_eq_true_iff]; omega
          have hlt' : decide ((cgt c xs : Int) < qn) = true := by
            have := hC.out.above; have := hq.out; have := hqe.out
            rw [decide_eq_true_iff]; omega
          have hT : ∀ w', RInts w' (.slice ta tm tc) xs.reverse → Calls Try.prog 12 #[.slice ta tm tc] w' fun e w'' => e = .returned (.int .i64 c) ∧ Keeps [] w' w'' := fun w' hw' => by
            have := Commit_any w' _ xs.reverse hw' (by simp; omega)
            rw [hrev.out] at this
            exact this
          have HTT := Lib.hid hT
          have RT := Lib.hid rr
          have KR := Lib.hid kr
          have DR := Lib.hid dr
          have hx95 : Hid (∃ x, x = xs.getD t 0) := ⟨_, rfl⟩
          obtain ⟨x, hxe⟩ := hx95.out
          have HX := Lib.hid hxe
          have hX : Hid (∀ X, X = max x (min (max more 0) 4611686018427387904) → decide (c ≤ commitP (xs.set t X)) = true) := fun X hXe => by
            rw [decide_eq_true_iff]
            exact hset.out X (by rw [← HX.out]; omega)
          have hup : ∀ (v5 : Value) (w5 : World) (D5 : List Nat), Row w5 3 1 v5 xs.length (intsV xs) D5 → Keeps [wr.heap.size] (wr.alloc (.cells #[] 3)) w5 → (∀ d, d ∈ D5 → d ∈ [wr.heap.size] ∨ (wr.alloc (.cells #[] 3)).heap.size ≤ d) →
              ∃ d off c5, v5 = .slice (some ⟨d, off, none⟩) xs.length c5 ∧ w5.cell? ⟨d, off + t, none⟩ = some (.int .i64 x) ∧ w5.frozen? ⟨d, off + t, none⟩ = false ∧
                ∀ X, RInts (w5.setCell ⟨d, off + t, none⟩ (.int .i64 X)) (.slice (some ⟨d, off, none⟩) xs.length c5) (xs.set t X) ∧ RInts (w5.setCell ⟨d, off + t, none⟩ (.int .i64 X)) (.slice ta tm tc) xs.reverse ∧ Keeps [] w (w5.setCell ⟨d, off + t, none⟩ (.int .i64 X)) := fun v5 w5 D5 q1 q2 q3 => by
            obtain ⟨d, off, c5, rfl, rfl, e3, e4, -⟩ := Ints.set q1 t htl 0
            have hd : wr.heap.size ≤ d := by
              rcases q3 d (by simp) with h | h
              · simp at h; omega
              · simp at h; omega
            have hsz := KR.out.size
            have k0 : Keeps [] wr w5 := ((Keeps.refl [] wr).alloc _).trans q2 (fun y hy hlt => by simp at hy; omega)
            refine ⟨d, off, c5, rfl, by rw [e3, HX.out], e4, fun X => ⟨?_, ?_, ?_⟩⟩
            · obtain ⟨d', off', c5', e1, -, -, -, e5⟩ := Ints.set q1 t htl X
              simp only [Value.slice.injEq, Option.some.injEq, Addr.mk.injEq] at e1
              obtain ⟨⟨rfl, rfl, -⟩, -, rfl⟩ := e1
              have := Ints.reads e5
              simpa using this
            · refine Ints.reads (Row.setOther (Row.keep RT.out k0 (by simp)) _ _ ?_)
              intro hdd
              have := Row.lt RT.out d hdd
              omega
            · exact (KR.out.trans k0 (by simp)).setCell (.inr (by simp; omega)) _
          have HUP := Lib.hid hup
          have htt := HT.out
          have htt' := HT'.out
          have hmo := HMO.out
          have ht0 : (0 : Int) ≤ (t : Int) := by omega
          have ht1 : (t : Int) < (xs.length : Int) := by omega
          have tok1 : True := trivial
          clear hup hxe hx95 hT rr kr dr hrow hi hcnt hh0 hh7 ha0 ha7
          go_wp2_with (first | (at_builtin; refine wpList_append_src rfl (.tmp 87) (.tmp 88) 22 rfl (Row.empty wr _ 1) i0 (.int .i64 0) 8 Try.underlying22 hinf hz0 hz1 hz2 rfl (by decide) rfl (some ⟨b, offl, none⟩) xs.length cap (intsV xs) rfl ?s1 ?s2 ?s3 ?s4 ?s5 ?KS; case' KS => (intro v5 w5 D5 r5 k5 d5; obtain ⟨d, off, c5, rfl, g1, g2, g3⟩ := HUP.out v5 w5 D5 (by simpa using r5) k5 d5; have G3 := Lib.hid g3; clear r5 k5 d5 g3)) | (go_at_call 12; have _t := tok1; refine (HTT.out _ (G3.out _).2.1).mono ?_; rintro e w7 ⟨rfl, k7⟩; have K7 := Lib.hid k7; clear tok1 k7) | (go_at_call 12; refine (Commit_any _ _ (xs.set t _) ((G3.out _).1.keep K7.out) (by simp; omega)).mono ?_; rintro e w8 ⟨rfl, k8⟩; have hXX := hX.out _ rfl; have K8 := Lib.hid k8; clear k8))
          case s1 => exact HS.out.keep (KR.out.alloc _)
          case s2 => simp [intsV]
          case s3 => simp [intsV, Value.oneCell']
          case s4 => simp [maxLen]; omega
          case s5 => omega
          go_ret
          exact ⟨rfl, ((G3.out _).2.2.trans K7.out (by simp)).trans K8.out (by simp)⟩
        | succ m =>
          obtain rfl : z = (m : Int) := by have := hi.out; omega
          clear hi
          obtain ⟨rr, kr, dr⟩ := hrow.out
          obtain ⟨ta, tm, tc, rfl⟩ := Row.shape' rr
          have R := Lib.hid rr
          have KR := Lib.hid kr
          have DR := Lib.hid dr
          have cx : wr.cell? ⟨b, offl + m, none⟩ = some (.int .i64 (xs.getD m 0)) := kr.cell (HC.out m (by omega)) (by simp)
          have hnew : Hid (∀ x, x = xs.getD m 0 → (cge c (xs.drop (m + 1)) : Int) + (if c ≤ x then 1 else 0) = cge c (xs.drop m) ∧ (cgt c (xs.drop (m + 1)) : Int) + (if c < x then 1 else 0) = cgt c (xs.drop m) ∧ (xs.drop m).reverse = (xs.drop (m + 1)).reverse ++ [x]) := fun x hx => by
            rw [drop_pred xs m (by omega), ← hx, cge_cons, cgt_cons]
            refine ⟨?_, ?_, by simp⟩
            · split <;> omega
            · split <;> omega
          have hex : Hid (∃ x, x = xs.getD m 0) := ⟨_, rfl⟩
          obtain ⟨x, hxe⟩ := hex.out
          rw [← hxe] at cx
          have HX := Lib.hid hxe
          have hm0 : (0 : Int) ≤ (m : Int) := by omega
          have hm1' : (m : Int) < (xs.length : Int) := by omega
          clear hxe hex rr kr dr hrow
          have hfin : ∀ (v' : Value) (w' : World) (D' : List Nat) (o : Obj), Row w' 3 1 v' ((xs.drop (m + 1)).reverse.length + 1) (intsV (xs.drop (m + 1)).reverse ++ [.int .i64 x]) D' → Keeps D (wr.alloc o) w' → (∀ d, d ∈ D' → d ∈ D ∨ (wr.alloc o).heap.size ≤ d) →
              Ints w' v' (xs.drop m).reverse D' ∧ Keeps [] w w' ∧ ∀ x, x ∈ D' → w.heap.size ≤ x := fun v' w' D' o q1 q2 q3 => by
            have e := (hnew.out x HX.out).2.2
            have hsz := KR.out.size
            refine ⟨?_, (KR.out.alloc o).trans q2 (fun y hy hlt => by have := DR.out y hy; omega), fun y hy => ?_⟩
            · unfold Ints
              rw [e]
              simpa [intsV] using q1
            · rcases q3 y hy with h | h
              · exact DR.out y h
              · simp at h; omega
          replace hfin := Lib.hid hfin
          by_cases hcx : c ≤ x
          · by_cases hcy : c < x
            · go_wp2_with (first | (at_builtin; refine wpList_append_row rfl (.tmp 70) (.tmp 75) 22 rfl (Row.alloc R.out _) i0 (.int .i64 0) 8 Try.underlying22 hinf hz0 hz1 hz2 rfl (by decide) rfl _ 1 1 [.int .i64 x] rfl rfl ?a1 ?b1 ?c1 ?d1 ?K1; case' K1 => (intro v3 w3 D3 r3 k3 d3; have hF := Lib.hid (hfin.out _ _ _ _ r3 k3 d3); clear r3 k3 d3)))
              try (case a1 => exact cell_one_new _ _ _)
              case b1 => simp [Value.oneCell']
              case c1 => simp [maxLen]; omega
              case d1 => first | omega | (simp; omega)
              go_roundw
              case rel => exact ⟨m, h + 1, a + 1, D3, (m : Int) - 1, by omega, Lib.hid rfl, by go_num, rfl, rfl, by have e := hnew.out x HX.out; have f := hcnt.out; exact ⟨by rw [f.1, ← e.1]; simp [hcx], by rw [f.2, ← e.2.1]; simp [hcy]⟩, by omega, by omega, by omega, by omega, hF.out⟩
              case measure => first | (simp [intOf]; done) | (simp [intOf]; omega)
            · go_wp2_with (first | (at_builtin; refine wpList_append_row rfl (.tmp 70) (.tmp 75) 22 rfl (Row.alloc R.out _) i0 (.int .i64 0) 8 Try.underlying22 hinf hz0 hz1 hz2 rfl (by decide) rfl _ 1 1 [.int .i64 x] rfl rfl ?a2 ?b2 ?c2 ?d2 ?K2; case' K2 => (intro v3 w3 D3 r3 k3 d3; have hF := Lib.hid (hfin.out _ _ _ _ r3 k3 d3); clear r3 k3 d3)))
              try (case a2 => exact cell_one_new _ _ _)
              case b2 => simp [Value.oneCell']
              case c2 => simp [maxLen]; omega
              case d2 => first | omega | (simp; omega)
              go_roundw
              case rel => exact ⟨m, h + 1, a, D3, (m : Int) - 1, by omega, Lib.hid rfl, by go_num, rfl, rfl, by have e := hnew.out x HX.out; have f := hcnt.out; exact ⟨by rw [f.1, ← e.1]; simp [hcx], by rw [f.2, ← e.2.1]; simp [hcy]⟩, by omega, by omega, by omega, by omega, hF.out⟩
              case measure => first | (simp [intOf]; done) | (simp [intOf]; omega)
          · have hcy : ¬ c < x := by omega
            go_wp2_with (first | (at_builtin; refine wpList_append_row rfl (.tmp 70) (.tmp 75) 22 rfl (Row.alloc R.out _) i0 (.int .i64 0) 8 Try.underlying22 hinf hz0 hz1 hz2 rfl (by decide) rfl _ 1 1 [.int .i64 x] rfl rfl ?a3 ?b3 ?c3 ?d3 ?K3; case' K3 => (intro v3 w3 D3 r3 k3 d3; have hF := Lib.hid (hfin.out _ _ _ _ r3 k3 d3); clear r3 k3 d3)))
            try (case a3 => exact cell_one_new _ _ _)
            case b3 => simp [Value.oneCell']
            case c3 => simp [maxLen]; omega
            case d3 => first | omega | (simp; omega)
            go_roundw
            case rel => exact ⟨m, h, a, D3, (m : Int) - 1, by omega, Lib.hid rfl, by go_num, rfl, rfl, by have e := hnew.out x HX.out; have f := hcnt.out; exact ⟨by rw [f.1, ← e.1]; simp [hcx], by rw [f.2, ← e.2.1]; simp [hcy]⟩, by omega, by omega, by omega, by omega, hF.out⟩
            case measure => first | (simp [intOf]; done) | (simp [intOf]; omega)

theorem TrackHas_walk (w : World) (v : Value) (xs : List Int) (more at' : Int) (h : RInts w v xs) (_ok : IntsOk xs) (hm : -9223372036854775808 ≤ more ∧ more ≤ 9223372036854775807) (ha : -9223372036854775808 ≤ at' ∧ at' ≤ 9223372036854775807) :
    Calls Try.prog 4 #[v, .int .i64 more, .int .i64 at'] w fun e w' => e = .returned (.bool true) ∧ Keeps [] w w' := by
  have h' := h
  obtain ⟨a, cap, rfl, -, -, -, hc⟩ := h
  by_cases hl : xs.length = 0 ∨ 7 < xs.length
  · exact TrackHas_out w more at' a _ cap hl
  · rcases hc with hx | ⟨b, off, rfl, hc⟩
    · rw [hx] at hl; simp at hl
    · exact TrackHas_in w more at' xs b off cap (by omega) (by omega) h' hc hm ha

end Go.Proofs.Ytniceappkpiekaa
