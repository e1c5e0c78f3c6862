/-
  synodlaw9.TrackVotes, walked.
-/
import Derived.Test.YtniceappkpiekaaVTwo
namespace Go.Proofs.Ytniceappkpiekaa
open Go.RowKit

set_option maxRecDepth 100000 in
set_option maxHeartbeats 1600000 in
theorem TrackVotes_no (w : World) (n : Int) (a : Option Addr) (k cap : Nat) (h : quorum n = 0) :
    Calls Try.prog 8 #[.int .i64 n, .slice a k cap] w fun e w' => e = .returned (.bool true) ∧ Keeps [] w w' := by
  go_enter Try.func8, Try.ntmps8
  go_wp2_with (first | (go_at_call 11; refine (first_any _).mono ?_; rintro e w1 ⟨rfl, k1⟩) | (go_at_call 35; refine (NewVotes_no _ _ h).mono ?_; rintro e w' ⟨rfl, rfl⟩) | (go_at_call 36; refine (RNewVotes_no _ _ h).mono ?_; rintro e w' ⟨rfl, rfl⟩))
  go_ret
  exact ⟨rfl, k1⟩

set_option maxRecDepth 100000 in
set_option maxHeartbeats 1600000 in
theorem TrackVotes_none (w : World) (n : Nat) (a : Option Addr) (cap : Nat) (h1 : 1 ≤ n) (h7 : n ≤ 7) :
    Calls Try.prog 8 #[.int .i64 n, .slice a 0 cap] w fun e w' => e = .returned (.bool true) ∧ Keeps [] w w' := by
  have hq : quorum n ≠ 0 := by unfold quorum; rw [if_neg (by omega)]; omega
  go_enter Try.func8, Try.ntmps8
  go_wp2_with (go_at_call 11; refine (first_any _).mono ?_; rintro e w1 ⟨rfl, k1⟩)
  refine (NewVotes_yes n w1 hq).mono ?_
  rintro e w2 ⟨rfl, a1, a2⟩
  go_wp2_with fail
  refine (RNewVotes_yes n w2 h1 h7).mono ?_
  rintro e w3 ⟨rb, rd, rfl, b1, b2, b3, b4⟩
  have kk := Lib.hid ((k1.trans a2 (by simp)).trans b2 (by simp))
  clear k1 a1 a2 b1 b2
  go_wp2_with fail
  refine wp_loop_once ?_
  go_wp2_with fail
  go_ret
  exact ⟨rfl, kk.out⟩

set_option maxRecDepth 100000 in
set_option maxHeartbeats 8000000 in
theorem TrackVotes_some (w : World) (n : Nat) (ds : List (Int × Bool)) (b off cap : Nat) (h1 : 1 ≤ n) (h7 : n ≤ 7) (hlen : ds.length ≤ 9223372036854775807) (hin : ∀ d, d ∈ ds → -9223372036854775808 ≤ d.1 ∧ d.1 ≤ 9223372036854775807)
    (hcells : ∀ i, i < ds.length → w.cell? ⟨b, off + i * 2, none⟩ = some (.int .i64 (ds.getD i (0, false)).1) ∧ w.cell? ⟨b, off + i * 2 + 1, none⟩ = some (.bool (ds.getD i (0, false)).2)) :
    Calls Try.prog 8 #[.int .i64 n, .slice (some ⟨b, off, none⟩) ds.length cap] w fun e w' => e = .returned (.bool true) ∧ Keeps [] w w' := by
  have hq : quorum n ≠ 0 := by unfold quorum; rw [if_neg (by omega)]; omega
  have HI := Lib.hid hin
  have HC := Lib.hid hcells
  clear hin hcells
  go_enter Try.func8, Try.ntmps8
  go_wp2_with (go_at_call 11; refine (first_any _).mono ?_; rintro e w1 ⟨rfl, k1⟩)
  refine (NewVotes_yes n w1 hq).mono ?_
  rintro e w2 ⟨rfl, a1, a2⟩
  go_wp2_with fail
  refine (RNewVotes_yes n w2 h1 h7).mono ?_
  rintro e w3 ⟨rb, rd, rfl, b1, b2, b3, b4⟩
  have hs1 := k1.size
  have hs2 := a2.size
  have hm := a1.own.lt
  have hb := a1.blk.lt
  have H2 := Lib.hid (show VTwo w w3 (w1.heap.size + 1) w1.heap.size rb rd n [] (List.replicate n 0) from
    ⟨⟨a1.keep b2 (by simp) (by simp), (k1.trans a2 (by simp)).trans b2 (by simp), hs1⟩, b1, by omega, by omega, by omega, by omega⟩)
  generalize w1.heap.size + 1 = vb at *
  generalize w1.heap.size = vm at *
  have KK := Lib.hid ((k1.trans a2 (by simp)).trans b2 (by simp))
  clear k1 a1 a2 b1 b2 b3 b4 hs1 hs2 hm hb hq
  by_cases hl : (300 : Int) < ds.length
  · go_wp2_with fail
    go_ret
    exact ⟨rfl, KK.out⟩
  go_wp2_with fail
  go_loopw [8] (fun i wr => ∃ (k : Nat) (vs : List (Int × Bool)) (cs : List Int), k ≤ ds.length ∧ i = .int .i64 (k : Int) ∧ Hid (VTwo w wr vb vm rb rd n vs cs ∧ Agree vs cs ∧ cs.length = n)) (fun i _ => ds.length - (intOf i).toNat)
  case atStart => exact ⟨0, [], List.replicate n 0, by omega, rfl, H2.out, Agree.start n, by simp⟩
  case round =>
    obtain ⟨k, vs, cs, hk, rfl, HO⟩ := hrel
    by_cases hlt : k < ds.length
    · have hcell : ∀ w', Keeps [] w w' → w'.cell? ⟨b, off + k * 2, none⟩ = some (.int .i64 (ds.getD k (0, false)).1) ∧ w'.cell? ⟨b, off + k * 2 + 1, none⟩ = some (.bool (ds.getD k (0, false)).2) := fun w' kw => by
        obtain ⟨c0, c1⟩ := HC.out k hlt
        exact ⟨kw.cell c0 (by simp), kw.cell c1 (by simp)⟩
      have hid : -9223372036854775808 ≤ (ds.getD k (0, false)).1 ∧ (ds.getD k (0, false)).1 ≤ 9223372036854775807 := by
        rw [List.getD_eq_getElem?_getD, List.getElem?_eq_getElem hlt]
        exact HI.out _ (List.getElem_mem hlt)
      generalize (ds.getD k (0, false)).1 = id at *
      generalize (ds.getD k (0, false)).2 = g at *
      replace hcell := Lib.hid hcell
      replace hid := Lib.hid hid
      obtain ⟨c0, c1⟩ := hcell.out _ HO.out.1.o.keeps
      have hvl : Hid (vs.length ≤ 1000) := by have := HO.out.2.1.len; have := HO.out.2.2; exact Lib.hid (by omega)
      have hA : Hid (Agree (putV n vs id g) (rPut cs id g)) := by have := HO.out.2.1.put id g; rw [HO.out.2.2] at this; exact Lib.hid this
      have hL : Hid ((rPut cs id g).length = n) := Lib.hid ((rPut_length cs id g).trans HO.out.2.2)
      have hvl2 : Hid ((putV n vs id g).length ≤ 1000) := by have := hA.out.len; have := hL.out; exact Lib.hid (by omega)
      obtain ⟨c, hc⟩ : ∃ c, rCounts cs id = c := ⟨_, rfl⟩
      have hc2 : countsB n vs id = c := by have := HO.out.2.1.counts id; rw [HO.out.2.2] at this; rw [this]; exact hc
      have HCN := Lib.hid (And.intro hc hc2)
      obtain ⟨x, hx⟩ : ∃ x : Int, (cnt 1 (rPut cs id g) : Int) = x := ⟨_, rfl⟩
      obtain ⟨y, hy⟩ : ∃ y : Int, (cnt 2 (rPut cs id g) : Int) = y := ⟨_, rfl⟩
      obtain ⟨z, hz⟩ : ∃ z : Int, RResult (rPut cs id g) = z := ⟨_, rfl⟩
      have HX := Lib.hid (And.intro hx (show (yesL (putV n vs id g) : Int) = x by rw [← hx, hA.out.yes]))
      have HY := Lib.hid (And.intro hy (show ((putV n vs id g).length : Int) - yesL (putV n vs id g) = y by rw [← hy, hA.out.yes, hA.out.all]; omega))
      have HZ := Lib.hid (And.intro hz (show VResult n (putV n vs id g) = z by rw [← hz, ← hA.out.result, hL.out]))
      have k0 : (0 : Int) ≤ k := by omega
      have k1 : (k : Int) < ds.length := by omega
      have tok1 : True := trivial
      clear hc hc2 hx hy hz
      go_wp2_with fail
      go_region_held3 (fun w' => w'.cell? ⟨b, off + k * 2, none⟩ = some (.int .i64 id) ∧ w'.cell? ⟨b, off + k * 2 + 1, none⟩ = some (.bool g)) (simp [go_sem, *]) (first
        | (go_at_call 37; refine (VTwo.Put HO.out.1.drew id g c HCN.out.2 hvl.out hid.out).mono ?_; rintro e w4 ⟨rfl, O4⟩; obtain ⟨d0, d1⟩ := hcell.out _ O4.o.keeps; have H4 := Lib.hid O4; clear O4)
        | (go_at_call 38; refine (VTwo.RPut H4.out id g c HCN.out.1 hid.out).mono ?_; rintro e w5 ⟨rfl, O5⟩; obtain ⟨d2, d3⟩ := hcell.out _ O5.o.keeps; have H5 := Lib.hid O5; clear O5))
      go_wp2_with (first
        | (go_at_call 39; refine (VTwo.Counts H5.out hvl2.out x y HX.out.2 HY.out.2).mono ?_; rintro e w6 ⟨rfl, O6⟩; have H6 := Lib.hid O6; clear O6)
        | (go_at_call 40; refine (VTwo.RCounts H6.out x y HX.out.1 HY.out.1).mono ?_; rintro e w7 ⟨rfl, rfl⟩)
        | (go_at_call 41; refine (VTwo.Result H6.out hvl2.out (by omega) z HZ.out.2).mono ?_; rintro e w8 ⟨rfl, O8⟩; have H8 := Lib.hid O8; clear O8)
        | (go_at_call 42; refine (VTwo.RResult H8.out z HZ.out.1).mono ?_; rintro e w9 ⟨rfl, rfl⟩))
      go_roundw
      case rel => exact ⟨k + 1, _, _, by omega, by go_num, H8.out, hA.out, hL.out⟩
      case measure => simp [intOf]; omega
    · obtain rfl : k = ds.length := by omega
      have hKr := Lib.hid HO.out.1.o.keeps
      go_wp2_with fail
      go_ret
      exact ⟨rfl, hKr.out⟩

theorem TrackVotes_walk (w : World) (n : Int) (v : Value) (ds : List (Int × Bool)) (_hn : -9223372036854775808 ≤ n ∧ n ≤ 9223372036854775807) (hd : BallotsAt w v ds) :
    Calls Try.prog 8 #[.int .i64 n, v] w fun e w' => e = .returned (.bool true) ∧ Keeps [] w w' := by
  obtain ⟨a, cap, rfl, hlen, hin, hd⟩ := hd
  by_cases hq : quorum n = 0
  · exact TrackVotes_no w n a _ cap hq
  · have h17 : 1 ≤ n ∧ n ≤ 7 := by
      unfold quorum at hq
      split at hq
      · exact absurd rfl hq
      · omega
    obtain ⟨m, rfl⟩ : ∃ m : Nat, n = m := ⟨n.toNat, by omega⟩
    rcases hd with rfl | ⟨b, off, rfl, hc⟩
    · exact TrackVotes_none w m a cap (by omega) (by omega)
    · exact TrackVotes_some w m ds b off cap (by omega) (by omega) hlen hin hc

end Go.Proofs.Ytniceappkpiekaa
