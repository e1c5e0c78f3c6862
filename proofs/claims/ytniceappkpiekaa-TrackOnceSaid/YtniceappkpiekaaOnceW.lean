/-
  synodlaw9.TrackOnce, walked. (Printed by gen_once.py.)
-/
import Derived.Test.YtniceappkpiekaaSeen
namespace Go.Proofs.Ytniceappkpiekaa
open Go.RowKit

set_option maxRecDepth 100000 in
set_option maxHeartbeats 8000000 in
theorem TrackOnce_walk (w : World) (n0 : Int) (v : Value) (ds : List (Int × Bool)) (_hn : -9223372036854775808 ≤ n0 ∧ n0 ≤ 9223372036854775807) (hd : BallotsAt w v ds) :
    Calls Try.prog 10 #[.int .i64 n0, v] w fun e w' => e = .returned (.bool true) ∧ Keeps [] w w' := by
  obtain ⟨a, cap, rfl, hlen, hin, hd⟩ := hd
  have HA : Hid (0 < ds.length → ∃ b off, a = some ⟨b, off, none⟩ ∧ ∀ i, i < ds.length → w.cell? ⟨b, off + i * 2, none⟩ = some (.int .i64 (ds.getD i (0, false)).1) ∧ w.cell? ⟨b, off + i * 2 + 1, none⟩ = some (.bool (ds.getD i (0, false)).2)) := by
    rcases hd with rfl | ⟨b, off, rfl, hc⟩
    · exact fun h => by simp at h
    · exact fun _ => ⟨b, off, rfl, hc⟩
  obtain ⟨i0, hinf, hz0, hz1, hz2⟩ := info_parts infoInt
  obtain ⟨mo, hmo, hmo1, hmo2⟩ := mod_form n0 7 (by decide)
  obtain ⟨m, ht⟩ : ∃ m : Nat, mo % 7 = (m : Int) - 1 := ⟨(mo % 7 + 1).toNat, by have := Int.emod_nonneg mo (b := 7) (by decide); omega⟩
  have h1 : 1 ≤ m := by have := Int.emod_nonneg mo (b := 7) (by decide); omega
  have h7 : m ≤ 7 := by have := Int.emod_lt_of_pos mo (b := 7) (by decide); omega
  have ht' : (mo + 7) % 7 = (m : Int) - 1 := by rw [Int.add_emod_right]; exact ht
  have hq : quorum m ≠ 0 := by unfold quorum; rw [if_neg (by omega)]; omega
  have HI := Lib.hid hin
  clear hin hd
  go_enter Try.func10, Try.ntmps10
  go_wp2_with (go_at_call 11; refine (first_any _).mono ?_; rintro e w1 ⟨rfl, k1⟩)
  refine (NewVotes_yes m w1 hq).mono ?_
  rintro e w2 ⟨rfl, a1, a2⟩
  have hs1 := k1.size
  have H2 := Lib.hid (show VOwn w w2 (w1.heap.size + 1) w1.heap.size m [] from ⟨a1, k1.trans a2 (by simp), hs1⟩)
  generalize w1.heap.size + 1 = vb at *
  generalize w1.heap.size = vm at *
  clear a1 a2 k1 hs1 hmo ht ht' hmo1 hmo2 hq
  by_cases hl : (300 : Int) < ds.length
  · go_wp2_with fail
    go_ret
    exact ⟨rfl, H2.out.keeps⟩
  go_wp2_with (at_make; refine wpList_make_full w2 rfl (.tmp 42) (.tmp 42) 22 rfl w2.heap.size 3 i0 (.int .i64 0) 1 Try.underlying22 hinf hz0 hz1 .i64 .i64 _ _ (m + 1) rfl rfl (by omega) (by omega) (by rw [hz2]; omega) (by simp [maxLen]; omega) (Nat.le_refl _) ?_; intro w3 ho hg)
  have H3 := Lib.hid (show SOwn w w3 vb vm w2.heap.size m [] (List.replicate m 0) from by
    have hk := (Keeps.refl [] w2).grown hg (by simp)
    have hv := H2.out.keep hk
    have e1 := H2.out.v.blk.lt
    have e2 := H2.out.v.own.lt
    have r := Ints.made ho
    refine ⟨hv, ?_, H2.out.keeps.size, by omega, by omega⟩
    rw [List.length_replicate]
    exact r)
  generalize w2.heap.size = sd at *
  clear ho hg H2
  go_loopw [8, 9, 10, 11, 12] (fun e i _ _ _ wr => ∃ (k : Nat) (z : Int) (vs : List (Int × Bool)) (ts : List Int), k ≤ ds.length ∧ i = .int .i64 (k : Int) ∧ e = .int .i64 z ∧ Hid (SOwn w wr vb vm sd m vs ts ∧ Seen vs ts ∧ ts.length = m ∧ VResult m vs = z)) (fun _ i _ _ _ _ => ds.length - (intOf i).toNat)
  case atStart => exact ⟨0, 0, [], List.replicate m 0, by omega, rfl, rfl, H3.out, Seen.start m, by simp, says_start m h1 h7⟩
  case round =>
    obtain ⟨k, z, vs, ts, hk, rfl, rfl, HO⟩ := hrel
    clear H3
    by_cases hlt : k < ds.length
    · obtain ⟨b, off, rfl, HC0⟩ := HA.out (by omega)
      have hcell : ∀ w', Keeps [] w w' → w'.cell? ⟨b, off + k * 2, none⟩ = some (.int .i64 (ds.getD k (0, false)).1) ∧ w'.cell? ⟨b, off + k * 2 + 1, none⟩ = some (.bool (ds.getD k (0, false)).2) := fun w' kw => by
        obtain ⟨c0, c1⟩ := HC0 k hlt
        exact ⟨kw.cell c0 (by simp), kw.cell c1 (by simp)⟩
      have hid : -9223372036854775808 ≤ (ds.getD k (0, false)).1 ∧ (ds.getD k (0, false)).1 ≤ 9223372036854775807 := by
        rw [List.getD_eq_getElem?_getD, List.getElem?_eq_getElem hlt]
        exact HI.out _ (List.getElem_mem hlt)
      generalize (ds.getD k (0, false)).1 = id at *
      generalize (ds.getD k (0, false)).2 = g at *
      clear HC0
      replace hcell := Lib.hid hcell
      have hidH := Lib.hid hid
      obtain ⟨c0, c1⟩ := hcell.out _ HO.out.1.o.keeps
      have hvl : Hid (vs.length ≤ 1000) := by have := HO.out.2.1.len; have := HO.out.2.2.1; exact Lib.hid (by omega)
      have k0 : (0 : Int) ≤ k := by omega
      have k1 : (k : Int) < ds.length := by omega
      have hno : Hid (rCounts ts id = false → countsB m vs id = false ∧ putV m vs id g = vs) := by
        have e := HO.out.2.2.1
        exact fun hf => ⟨by rw [← e, HO.out.2.1.counts]; exact hf, by rw [← e]; exact HO.out.2.1.not id hf g⟩
      by_cases hi1 : id < 1
      · have hrf : rCounts ts id = false := by simp [rCounts]; omega
        have hi1' : ¬ (1 : Int) ≤ id := by omega
        have hN := Lib.hid (hno.out hrf)
        clear hrf
        by_cases hz0 : z = 0
        · obtain rfl : z = 0 := hz0
          go_wp2_with (first | (go_at_call 37; refine (SOwn.Put HO.out.1 _ g false hN.out.1 hvl.out hidH.out).mono ?_; rintro e w4 ⟨rfl, O4⟩; rw [hN.out.2] at O4; have H4 := Lib.hid O4; clear O4) | (go_at_call 41; refine (SOwn.Result H4.out hvl.out (by omega) 0 HO.out.2.2.2).mono ?_; rintro e w5 ⟨rfl, O5⟩; have H5 := Lib.hid O5; clear O5))
          go_roundw
          case rel => exact ⟨k + 1, 0, vs, ts, by omega, by go_num, rfl, H5.out, HO.out.2⟩
          case measure => simp [intOf]; omega
        · have hzb : (z == 0) = false := by simpa using hz0
          go_wp2_with (first | (go_at_call 37; refine (SOwn.Put HO.out.1 _ g false hN.out.1 hvl.out hidH.out).mono ?_; rintro e w4 ⟨rfl, O4⟩; rw [hN.out.2] at O4; have H4 := Lib.hid O4; clear O4) | (go_at_call 41; refine (SOwn.Result H4.out hvl.out (by omega) z HO.out.2.2.2).mono ?_; rintro e w5 ⟨rfl, O5⟩; have H5 := Lib.hid O5; clear O5))
          go_roundw
          case rel => exact ⟨k + 1, z, vs, ts, by omega, by go_num, rfl, H5.out, HO.out.2⟩
          case measure => simp [intOf]; omega
      by_cases hi2 : (m : Int) < id
      · have hrf : rCounts ts id = false := by have := HO.out.2.2.1; simp [rCounts]; omega
        have hi2' : ¬ id ≤ (m : Int) := by omega
        have hi1' : (1 : Int) ≤ id := by omega
        have hN := Lib.hid (hno.out hrf)
        clear hrf
        by_cases hz0 : z = 0
        · obtain rfl : z = 0 := hz0
          go_wp2_with (first | (go_at_call 37; refine (SOwn.Put HO.out.1 _ g false hN.out.1 hvl.out hidH.out).mono ?_; rintro e w4 ⟨rfl, O4⟩; rw [hN.out.2] at O4; have H4 := Lib.hid O4; clear O4) | (go_at_call 41; refine (SOwn.Result H4.out hvl.out (by omega) 0 HO.out.2.2.2).mono ?_; rintro e w5 ⟨rfl, O5⟩; have H5 := Lib.hid O5; clear O5))
          go_roundw
          case rel => exact ⟨k + 1, 0, vs, ts, by omega, by go_num, rfl, H5.out, HO.out.2⟩
          case measure => simp [intOf]; omega
        · have hzb : (z == 0) = false := by simpa using hz0
          go_wp2_with (first | (go_at_call 37; refine (SOwn.Put HO.out.1 _ g false hN.out.1 hvl.out hidH.out).mono ?_; rintro e w4 ⟨rfl, O4⟩; rw [hN.out.2] at O4; have H4 := Lib.hid O4; clear O4) | (go_at_call 41; refine (SOwn.Result H4.out hvl.out (by omega) z HO.out.2.2.2).mono ?_; rintro e w5 ⟨rfl, O5⟩; have H5 := Lib.hid O5; clear O5))
          go_roundw
          case rel => exact ⟨k + 1, z, vs, ts, by omega, by go_num, rfl, H5.out, HO.out.2⟩
          case measure => simp [intOf]; omega
      obtain ⟨i, rfl⟩ : ∃ i : Nat, id = (i : Int) + 1 := ⟨(id - 1).toNat, by omega⟩
      have hi : i < ts.length := by have := HO.out.2.2.1; omega
      have him : i < m := by have := HO.out.2.2.1; omega
      obtain ⟨cx, fx⟩ := HO.out.1.read i hi
      have hxx : Hid (∃ x, x = ts.getD i 0) := ⟨_, rfl⟩
      obtain ⟨x, hxe⟩ := hxx.out
      rw [← hxe] at cx
      have HX := Lib.hid hxe
      have hmin : min ((i : Int) + 1) m = (i : Int) + 1 := by omega
      have hmax : max ((i : Int) + 1) 0 = (i : Int) + 1 := by omega
      have hii : ((i : Int) + 1).toNat = i + 1 := by omega
      have a1 : (1 : Int) ≤ (i : Int) + 1 := by omega
      have a2 : (i : Int) + 1 ≤ m := by omega
      have a3 : (0 : Int) ≤ (i : Int) + 1 := by omega
      have a4 : (i : Int) + 1 < (ts.length : Int) + 1 := by omega
      have hlm := HO.out.2.2.1
      clear hxe hxx
      cases hx : (x == 0)
      · have hrf : rCounts ts ((i : Int) + 1) = false := by
          have e : ((i : Int) + 1 - 1).toNat = i := by omega
          simp only [rCounts, e, ← HX.out, hx, Bool.and_false]
        have hN := Lib.hid (hno.out hrf)
        clear hrf
        by_cases hz0 : z = 0
        · obtain rfl : z = 0 := hz0
          go_wp2_with (first | (go_at_call 37; refine (SOwn.Put HO.out.1 _ g false hN.out.1 hvl.out hidH.out).mono ?_; rintro e w4 ⟨rfl, O4⟩; rw [hN.out.2] at O4; have H4 := Lib.hid O4; clear O4) | (go_at_call 41; refine (SOwn.Result H4.out hvl.out (by omega) 0 HO.out.2.2.2).mono ?_; rintro e w5 ⟨rfl, O5⟩; have H5 := Lib.hid O5; clear O5))
          go_roundw
          case rel => exact ⟨k + 1, 0, vs, ts, by omega, by go_num, rfl, H5.out, HO.out.2⟩
          case measure => simp [intOf]; omega
        · have hzb : (z == 0) = false := by simpa using hz0
          go_wp2_with (first | (go_at_call 37; refine (SOwn.Put HO.out.1 _ g false hN.out.1 hvl.out hidH.out).mono ?_; rintro e w4 ⟨rfl, O4⟩; rw [hN.out.2] at O4; have H4 := Lib.hid O4; clear O4) | (go_at_call 41; refine (SOwn.Result H4.out hvl.out (by omega) z HO.out.2.2.2).mono ?_; rintro e w5 ⟨rfl, O5⟩; have H5 := Lib.hid O5; clear O5))
          go_roundw
          case rel => exact ⟨k + 1, z, vs, ts, by omega, by go_num, rfl, H5.out, HO.out.2⟩
          case measure => simp [intOf]; omega
      · have hx0 : ts.getD i 0 = 0 := by rw [← HX.out]; simpa using hx
        have hp := HO.out.2.1.put i hi hx0 g
        rw [hlm] at hp
        have hc : countsB m vs ((i : Int) + 1) = true := by
          have e : ((i : Int) + 1 - 1).toNat = i := by omega
          rw [← hlm, HO.out.2.1.counts]
          simp only [rCounts, e, hx0, Bool.and_eq_true, decide_eq_true_eq]
          exact ⟨⟨by omega, by omega⟩, rfl⟩
        have hN := Lib.hid (And.intro hc hp.1)
        have hS := Lib.hid (And.intro hp.2 (show (ts.set i 1).length = m by rw [List.length_set]; exact hlm))
        have hvl2 : Hid ((((i : Int) + 1, g) :: vs).length ≤ 1000) := by have := hS.out.1.len; have := hS.out.2; exact Lib.hid (by omega)
        obtain ⟨z2, hz2'⟩ : ∃ z2, VResult m (((i : Int) + 1, g) :: vs) = z2 := ⟨_, rfl⟩
        have hst : z ≠ 0 → z2 = z := fun hz => by
          have := says_stays m vs ((i : Int) + 1) g (by rw [hp.1]; have := hS.out.1.len; have := hS.out.2; omega) (by rw [HO.out.2.2.2]; exact hz)
          rw [hp.1, hz2', HO.out.2.2.2] at this
          exact this
        have hz2 := Lib.hid hz2'
        have hx1 : x = 0 := by simpa using hx
        subst hx1
        clear hp hc hz2' hx hx0
        by_cases hz0 : z = 0
        · obtain rfl : z = 0 := hz0
          clear hst
          go_wp2_with (first | (go_at_call 37; refine (SOwn.Put HO.out.1 _ g true hN.out.1 hvl.out hidH.out).mono ?_; rintro e w4 ⟨rfl, O4⟩; rw [hN.out.2] at O4; obtain ⟨c4, f4⟩ := O4.read i hi; have H4 := Lib.hid (O4.mark i hi); clear O4) | (go_at_call 41; refine (SOwn.Result H4.out hvl2.out (by omega) z2 hz2.out).mono ?_; rintro e w5 ⟨rfl, O5⟩; have H5 := Lib.hid O5; clear O5))
          go_roundw
          case rel => exact ⟨k + 1, z2, _, _, by omega, by go_num, rfl, H5.out, hS.out.1, hS.out.2, hz2.out⟩
          case measure => simp [intOf]; omega
        · have hzb : (z == 0) = false := by simpa using hz0
          obtain rfl : z2 = z := hst hz0
          clear hst
          go_wp2_with (first | (go_at_call 37; refine (SOwn.Put HO.out.1 _ g true hN.out.1 hvl.out hidH.out).mono ?_; rintro e w4 ⟨rfl, O4⟩; rw [hN.out.2] at O4; obtain ⟨c4, f4⟩ := O4.read i hi; have H4 := Lib.hid (O4.mark i hi); clear O4) | (go_at_call 41; refine (SOwn.Result H4.out hvl2.out (by omega) z2 hz2.out).mono ?_; rintro e w5 ⟨rfl, O5⟩; have H5 := Lib.hid O5; clear O5))
          go_roundw
          case rel => exact ⟨k + 1, z2, _, _, by omega, by go_num, rfl, H5.out, hS.out.1, hS.out.2, hz2.out⟩
          case measure => simp [intOf]; omega
    · obtain rfl : k = ds.length := by omega
      have hvl : Hid (vs.length ≤ 1000) := by have := HO.out.2.1.len; have := HO.out.2.2.1; exact Lib.hid (by omega)
      have hyl : yesL vs ≤ vs.length := List.length_filter_le _ _
      have hv7 : vs.length ≤ 7 := by have := HO.out.2.1.len; have := HO.out.2.2.1; omega
      obtain ⟨x, hx⟩ : ∃ x : Int, (yesL vs : Int) = x := ⟨_, rfl⟩
      obtain ⟨y, hy⟩ : ∃ y : Int, (vs.length : Int) - yesL vs = y := ⟨_, rfl⟩
      have hxb : 0 ≤ x ∧ x ≤ 7 := by omega
      have hyb : 0 ≤ y ∧ y ≤ 7 := by omega
      have hsum : Hid (x + y = (cnt 1 ts : Int)) := by have := HO.out.2.1.all; exact Lib.hid (by omega)
      have HX := Lib.hid hx
      have HY := Lib.hid hy
      clear hx hy hyl hv7
      obtain ⟨hx1, hx2⟩ := hxb
      obtain ⟨hy1, hy2⟩ := hyb
      go_wp2_with (go_at_call 39; refine (SOwn.Counts HO.out.1 hvl.out x y HX.out HY.out).mono ?_; rintro e w5 ⟨rfl, O5⟩; have H5 := Lib.hid O5; clear O5)
      go_loop [15, 16] (fun kk i => ∃ (j c : Nat), j ≤ m ∧ i = .int .i64 ((j : Int) + 1) ∧ kk = .int .i64 (c : Int) ∧ Hid (c = cnt 1 (ts.take j)) ∧ c ≤ j) (fun _ i => m + 1 - (intOf i).toNat)
      case atStart => exact ⟨0, 0, by omega, rfl, rfl, rfl, by omega⟩
      case round =>
        obtain ⟨j, c, hj, rfl, rfl, hc, hcj⟩ := hrel
        by_cases hjl : j < m
        · have hjt : j < ts.length := by have := HO.out.2.2.1; omega
          obtain ⟨cx, -⟩ := H5.out.read j hjt
          have hb := HO.out.2.1.bit j hjt
          have ec := cnt_take 1 ts j hjt
          rw [← hc.out] at ec
          generalize ts.getD j 0 = u at *
          have EC := Lib.hid ec
          have hii : ((j : Int) + 1).toNat = j + 1 := by omega
          have a1 : (j : Int) + 1 ≤ m := by omega
          have a3 : (0 : Int) ≤ (j : Int) + 1 := by omega
          have a4 : (j : Int) + 1 < (m : Int) + 1 := by omega
          clear ec hc hjt
          rcases hb with rfl | rfl
          · go_wp2
            go_round
            case rel => exact ⟨j + 1, c, by omega, by go_num, by go_num, EC.out.symm, by omega⟩
            case measure => simp [intOf]; omega
          · go_wp2
            go_round
            case rel => exact ⟨j + 1, c + 1, by omega, by go_num, by go_num, EC.out.symm, by omega⟩
            case measure => simp [intOf]; omega
        · obtain rfl : j = m := by omega
          have hce : Hid (x + y = (c : Int)) := by
            have e := hc.out
            rw [List.take_of_length_le (by have := HO.out.2.2.1; omega)] at e
            rw [e]
            exact hsum
          clear hc hsum
          go_wp2
          go_ret
          exact ⟨ret_b (by simpa using hce.out), H5.out.o.keeps⟩

end Go.Proofs.Ytniceappkpiekaa
