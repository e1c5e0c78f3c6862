/-
  synodlaw9.TrackPlays, walked. (Printed by gen_plays.py.)
-/
import Derived.Test.YtniceappkpiekaaTwo
namespace Go.Proofs.Ytniceappkpiekaa
open Go.RowKit

set_option maxRecDepth 100000 in
set_option maxHeartbeats 1600000 in
theorem TrackPlays_no (w : World) (next room : Int) (a : Option Addr) (n cap : Nat) (h : holdsB room = false) :
    Calls Try.prog 5 #[.int .i64 next, .int .i64 room, .slice a n cap] w fun e w' => e = .returned (.bool true) ∧ Keeps [] w w' := by
  go_enter Try.func5, Try.ntmps5
  go_wp2_with (first | (go_at_call 11; refine (first_any _).mono ?_; rintro e w1 ⟨rfl, k1⟩) | (go_at_call 18; refine (NewProgress_no _ _ _ h).mono ?_; rintro e w' ⟨rfl, rfl⟩) | (go_at_call 19; refine (RefNew_no _ _ _ h).mono ?_; rintro e w' ⟨rfl, rfl⟩))
  go_ret
  exact ⟨rfl, k1⟩

set_option maxRecDepth 100000 in
set_option maxHeartbeats 8000000 in
theorem TrackPlays_some (w : World) (next R : Int) (ds : List Dd) (b off cap : Nat) (hlen : ds.length ≤ 9223372036854775807)
    (hcells : ∀ i, i < ds.length → w.cell? ⟨b, off + i * 3, none⟩ = some (.int .i64 (ds.getD i ⟨0, 0, 0⟩).kind) ∧
      w.cell? ⟨b, off + i * 3 + 1, none⟩ = some (.int .i64 (ds.getD i ⟨0, 0, 0⟩).n) ∧ w.cell? ⟨b, off + i * 3 + 2, none⟩ = some (.int .i64 (ds.getD i ⟨0, 0, 0⟩).m)) (hR0 : holdsB R = true) :
    Calls Try.prog 5 #[.int .i64 next, .int .i64 R, .slice (some ⟨b, off, none⟩) ds.length cap] w fun e w' => e = .returned (.bool true) ∧ Keeps [] w w' := by
  have hR : 1 ≤ R ∧ R ≤ 64 := by simpa [holdsB] using hR0
  obtain ⟨hR1, hR2⟩ := hR
  go_enter Try.func5, Try.ntmps5
  go_wp2_with (go_at_call 11; refine (first_any _).mono ?_; rintro e w1 ⟨rfl, k1⟩)
  refine (NewProgress_yes next R w1 hR0).mono ?_
  rintro e w2 ⟨p, rfl, F, a1, a2, a3⟩
  go_wp2_with fail
  refine (RefNew_yes next R w2 hR0).mono ?_
  rintro e w3 ⟨r, rfl, G, b1, b2, b3⟩
  have kk := (k1.trans a2 (by simp)).trans b2 (by simp)
  have hs1 := k1.size
  have hs2 := a2.size
  have H2 := Lib.hid (show Two w w3 p r (Pg.new next R) (Pg.new next R) from ⟨F, G, a1.keep b2 (by simp), b1, fun x hx hg => by have := a1.lt x hx; have := b3 x hg; omega, kk, fun x hx => by have := a3 x hx; omega, fun x hx => by have := b3 x hx; omega⟩)
  have KK := Lib.hid kk
  have HC := Lib.hid hcells
  clear a1 a2 a3 b1 b2 b3 kk k1 hs1 hs2 hR0 hcells
  by_cases hl : (400 : Int) < ds.length
  · go_wp2_with fail
    go_ret
    exact ⟨rfl, KK.out⟩
  by_cases hn : 4611686018427387904 < next
  · go_wp2_with fail
    go_ret
    exact ⟨rfl, KK.out⟩
  go_wp2_with fail
  go_loopw [10] (fun i wr => ∃ (k : Nat) (s : Pg), k ≤ ds.length ∧ i = .int .i64 k ∧ Hid (Two w wr p r s s ∧ s.Fine R)) (fun i _ => ds.length - (intOf i).toNat)
  case atStart => exact ⟨0, Pg.new next R, by omega, rfl, H2.out, Pg.Ok.new hR1 hR2 (by omega), Pg.Rise.new hR1⟩
  case round =>
    obtain ⟨k, s, hk, rfl, HO⟩ := hrel
    by_cases hlt : k < ds.length
    · have hcell : ∀ w', Keeps [] w w' → w'.cell? ⟨b, off + k * 3, none⟩ = some (.int .i64 (ds.getD k ⟨0, 0, 0⟩).kind) ∧
          w'.cell? ⟨b, off + k * 3 + 1, none⟩ = some (.int .i64 (ds.getD k ⟨0, 0, 0⟩).n) ∧ w'.cell? ⟨b, off + k * 3 + 2, none⟩ = some (.int .i64 (ds.getD k ⟨0, 0, 0⟩).m) := fun w' kw => by
        obtain ⟨c0, c1, c2⟩ := HC.out k hlt
        exact ⟨kw.cell c0 (by simp), kw.cell c1 (by simp), kw.cell c2 (by simp)⟩
      generalize (ds.getD k ⟨0, 0, 0⟩).kind = kd at *
      generalize (ds.getD k ⟨0, 0, 0⟩).n = n at *
      generalize (ds.getD k ⟨0, 0, 0⟩).m = mm at *
      replace hcell := Lib.hid hcell
      obtain ⟨c0, c1, c2⟩ := hcell.out _ HO.out.1.keeps
      have hKr := Lib.hid HO.out.1.keeps
      by_cases hn1 : numB n = true
      case neg =>
        have hn1' : numB n = false := by simpa using hn1
        clear hn1
        go_wp2_with (first | (go_at_call 17; refine (number_any _ _).mono ?_; rintro e w' ⟨rfl, rfl⟩))
        go_ret
        exact ⟨rfl, hKr.out⟩
      by_cases hm1 : numB mm = true
      case neg =>
        have hm1' : numB mm = false := by simpa using hm1
        clear hm1
        go_wp2_with (first | (go_at_call 17; refine (number_any _ _).mono ?_; rintro e w' ⟨rfl, rfl⟩))
        go_ret
        exact ⟨rfl, hKr.out⟩
      have hnN := Lib.hid (isNum_of hn1)
      have hmN := Lib.hid (isNum_of hm1)
      by_cases h0 : kd = 0
      · subst h0
        go_wp2_with (first | (go_at_call 17; refine (number_any _ _).mono ?_; rintro e w' ⟨rfl, rfl⟩) | (go_at_call 20; refine (Two.Sent HO.out.1 HO.out.2 hnN.out).mono ?_; rintro e w3 ⟨rfl, O3⟩; have H3 := Lib.hid O3; clear O3) | (go_at_call 21; refine (Two.RefSent H3.out HO.out.2 hnN.out).mono ?_; rintro e w4 ⟨rfl, O4⟩; obtain ⟨e0, e1, e2⟩ := O4.cells; have H4 := Lib.hid O4; clear O4))
        go_quiet (first | (go_at_call 30; exact quiet_left ((H4.out.drewN _).Match)) | (go_at_call 31; exact quiet_left ((H4.out.drewN _).Next)) | (go_at_call 32; exact quiet_left ((H4.out.drewN _).State)) | (go_at_call 33; exact Calls.quiet_of ((H4.out.drewN _).May)) | (go_at_call 34; exact Calls.quiet_of ((H4.out.drewN _).RefMay)))
        go_wp2_with fail
        go_roundw
        case rel => exact ⟨k + 1, s.sent n, by omega, by go_num, H4.out.drewN _, ⟨HO.out.2.ok.sent hnN.out, HO.out.2.rise.sent n⟩⟩
        case measure => simp [intOf]; omega
      by_cases h1 : kd = 1
      · subst h1
        go_wp2_with (first | (go_at_call 17; refine (number_any _ _).mono ?_; rintro e w' ⟨rfl, rfl⟩) | (go_at_call 22; refine (Two.Acked HO.out.1 HO.out.2 hnN.out).mono ?_; rintro e w3 ⟨rfl, O3⟩; have H3 := Lib.hid O3; clear O3) | (go_at_call 23; refine (Two.RefAcked H3.out HO.out.2 hnN.out).mono ?_; rintro e w4 ⟨rfl, O4⟩; obtain ⟨e0, e1, e2⟩ := O4.cells; have H4 := Lib.hid O4; clear O4))
        go_quiet (first | (go_at_call 30; exact quiet_left ((H4.out.drewN _).Match)) | (go_at_call 31; exact quiet_left ((H4.out.drewN _).Next)) | (go_at_call 32; exact quiet_left ((H4.out.drewN _).State)) | (go_at_call 33; exact Calls.quiet_of ((H4.out.drewN _).May)) | (go_at_call 34; exact Calls.quiet_of ((H4.out.drewN _).RefMay)))
        go_wp2_with fail
        go_roundw
        case rel => exact ⟨k + 1, s.acked n, by omega, by go_num, H4.out.drewN _, ⟨HO.out.2.ok.acked hnN.out, HO.out.2.rise.acked HO.out.2.room0 n⟩⟩
        case measure => simp [intOf]; omega
      by_cases h2 : kd = 2
      · subst h2
        go_wp2_with (first | (go_at_call 17; refine (number_any _ _).mono ?_; rintro e w' ⟨rfl, rfl⟩))
        go_region_held3 (fun w' => w'.cell? ⟨b, off + k * 3 + 2, none⟩ = some (.int .i64 mm)) (simp [go_sem, *]) (first | (go_at_call 24; refine (Two.Rejected HO.out.1.drew HO.out.2 (x := n) hmN.out).mono ?_; rintro e w3 ⟨rfl, O3⟩; obtain ⟨d0, d1, d2⟩ := hcell.out _ O3.keeps; have H3 := Lib.hid O3; clear O3) | (go_at_call 25; refine (Two.RefRejected H3.out HO.out.2 (x := n) hmN.out).mono ?_; rintro e w4 ⟨rfl, O4⟩; obtain ⟨e0, e1, e2⟩ := O4.cells; obtain ⟨d0, d1, d2⟩ := hcell.out _ O4.keeps; have H4 := Lib.hid O4; clear O4))
        go_wp2_with fail
        go_quiet (first | (go_at_call 30; exact quiet_left ((H4.out.drewN _).Match)) | (go_at_call 31; exact quiet_left ((H4.out.drewN _).Next)) | (go_at_call 32; exact quiet_left ((H4.out.drewN _).State)) | (go_at_call 33; exact Calls.quiet_of ((H4.out.drewN _).May)) | (go_at_call 34; exact Calls.quiet_of ((H4.out.drewN _).RefMay)))
        go_wp2_with fail
        go_roundw
        case rel => exact ⟨k + 1, s.rejected n mm, by omega, by go_num, H4.out.drewN _, ⟨HO.out.2.ok.rejected hnN.out hmN.out, HO.out.2.rise.rejected HO.out.2.room0 n mm⟩⟩
        case measure => simp [intOf]; omega
      by_cases h3 : kd = 3
      · subst h3
        go_wp2_with (first | (go_at_call 17; refine (number_any _ _).mono ?_; rintro e w' ⟨rfl, rfl⟩) | (go_at_call 26; refine (Two.Beat HO.out.1 HO.out.2).mono ?_; rintro e w3 ⟨rfl, O3⟩; have H3 := Lib.hid O3; clear O3) | (go_at_call 27; refine (Two.RefBeat H3.out HO.out.2).mono ?_; rintro e w4 ⟨rfl, O4⟩; obtain ⟨e0, e1, e2⟩ := O4.cells; have H4 := Lib.hid O4; clear O4))
        go_quiet (first | (go_at_call 30; exact quiet_left ((H4.out.drewN _).Match)) | (go_at_call 31; exact quiet_left ((H4.out.drewN _).Next)) | (go_at_call 32; exact quiet_left ((H4.out.drewN _).State)) | (go_at_call 33; exact Calls.quiet_of ((H4.out.drewN _).May)) | (go_at_call 34; exact Calls.quiet_of ((H4.out.drewN _).RefMay)))
        go_wp2_with fail
        go_roundw
        case rel => exact ⟨k + 1, s.beat, by omega, by go_num, H4.out.drewN _, ⟨HO.out.2.ok.beat, HO.out.2.rise.beat HO.out.2.room0⟩⟩
        case measure => simp [intOf]; omega
      by_cases h4 : kd = 4
      · subst h4
        go_wp2_with (first | (go_at_call 17; refine (number_any _ _).mono ?_; rintro e w' ⟨rfl, rfl⟩) | (go_at_call 28; refine (Two.Snap HO.out.1 n).mono ?_; rintro e w3 ⟨rfl, O3⟩; have H3 := Lib.hid O3; clear O3) | (go_at_call 29; refine (Two.RefSnap H3.out n).mono ?_; rintro e w4 ⟨rfl, O4⟩; obtain ⟨e0, e1, e2⟩ := O4.cells; have H4 := Lib.hid O4; clear O4))
        go_quiet (first | (go_at_call 30; exact quiet_left ((H4.out.drewN _).Match)) | (go_at_call 31; exact quiet_left ((H4.out.drewN _).Next)) | (go_at_call 32; exact quiet_left ((H4.out.drewN _).State)) | (go_at_call 33; exact Calls.quiet_of ((H4.out.drewN _).May)) | (go_at_call 34; exact Calls.quiet_of ((H4.out.drewN _).RefMay)))
        go_wp2_with fail
        go_roundw
        case rel => exact ⟨k + 1, s.snapped n, by omega, by go_num, H4.out.drewN _, ⟨HO.out.2.ok.snapped n, Pg.Rise.snapped HO.out.2.room0 n⟩⟩
        case measure => simp [intOf]; omega
      have hb0 : (kd == 0) = false := by simpa using h0
      have hb1 : (kd == 1) = false := by simpa using h1
      have hb2 : (kd == 2) = false := by simpa using h2
      have hb3 : (kd == 3) = false := by simpa using h3
      have hb4 : (kd == 4) = false := by simpa using h4
      clear h0 h1 h2 h3 h4
      obtain ⟨e0, e1, e2⟩ := HO.out.1.cells
      have H4 := Lib.hid HO.out.1
      go_wp2_with (first | (go_at_call 17; refine (number_any _ _).mono ?_; rintro e w' ⟨rfl, rfl⟩))
      go_quiet (first | (go_at_call 30; exact quiet_left ((H4.out.drewN _).Match)) | (go_at_call 31; exact quiet_left ((H4.out.drewN _).Next)) | (go_at_call 32; exact quiet_left ((H4.out.drewN _).State)) | (go_at_call 33; exact Calls.quiet_of ((H4.out.drewN _).May)) | (go_at_call 34; exact Calls.quiet_of ((H4.out.drewN _).RefMay)))
      go_wp2_with fail
      go_roundw
      case rel => exact ⟨k + 1, s, by omega, by go_num, H4.out.drewN _, HO.out.2⟩
      case measure => simp [intOf]; omega
    · obtain rfl : k = ds.length := by omega
      have hKr := Lib.hid HO.out.1.keeps
      go_wp2_with fail
      go_ret
      exact ⟨rfl, hKr.out⟩

set_option maxRecDepth 100000 in
set_option maxHeartbeats 8000000 in
theorem TrackPlays_none (w : World) (next R : Int) (a : Option Addr) (cap : Nat) (hR0 : holdsB R = true) :
    Calls Try.prog 5 #[.int .i64 next, .int .i64 R, .slice a 0 cap] w fun e w' => e = .returned (.bool true) ∧ Keeps [] w w' := by
  have hR : 1 ≤ R ∧ R ≤ 64 := by simpa [holdsB] using hR0
  obtain ⟨hR1, hR2⟩ := hR
  go_enter Try.func5, Try.ntmps5
  go_wp2_with (go_at_call 11; refine (first_any _).mono ?_; rintro e w1 ⟨rfl, k1⟩)
  refine (NewProgress_yes next R w1 hR0).mono ?_
  rintro e w2 ⟨p, rfl, F, a1, a2, a3⟩
  go_wp2_with fail
  refine (RefNew_yes next R w2 hR0).mono ?_
  rintro e w3 ⟨r, rfl, G, b1, b2, b3⟩
  have kk := (k1.trans a2 (by simp)).trans b2 (by simp)
  have hs1 := k1.size
  have hs2 := a2.size
  have H2 := Lib.hid (show Two w w3 p r (Pg.new next R) (Pg.new next R) from ⟨F, G, a1.keep b2 (by simp), b1, fun x hx hg => by have := a1.lt x hx; have := b3 x hg; omega, kk, fun x hx => by have := a3 x hx; omega, fun x hx => by have := b3 x hx; omega⟩)
  have KK := Lib.hid kk
  clear a1 a2 a3 b1 b2 b3 kk k1 hs1 hs2 hR0
  by_cases hn : 4611686018427387904 < next
  · go_wp2_with fail
    go_ret
    exact ⟨rfl, KK.out⟩
  go_wp2_with fail
  refine wp_loop_once ?_
  go_wp2_with fail
  go_ret
  exact ⟨rfl, KK.out⟩

theorem TrackPlays_walk (w : World) (next room : Int) (v : Value) (ds : List Dd) (_hn : -9223372036854775808 ≤ next ∧ next ≤ 9223372036854775807) (_hr : -9223372036854775808 ≤ room ∧ room ≤ 9223372036854775807) (hd : DeedsAt w v ds) :
    Calls Try.prog 5 #[.int .i64 next, .int .i64 room, v] w fun e w' => e = .returned (.bool true) ∧ Keeps [] w w' := by
  obtain ⟨a, cap, rfl, hlen, hd⟩ := hd
  by_cases hR : holdsB room = true
  · rcases hd with rfl | ⟨b, off, rfl, hc⟩
    · exact TrackPlays_none w next room a cap hR
    · exact TrackPlays_some w next room ds b off cap hlen hc hR
  · exact TrackPlays_no w next room a _ cap (by simpa using hR)

end Go.Proofs.Ytniceappkpiekaa
