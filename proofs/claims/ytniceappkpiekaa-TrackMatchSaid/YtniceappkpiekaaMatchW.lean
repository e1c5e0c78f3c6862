/-
  synodlaw9.TrackMatch, walked.
-/
import Derived.Test.YtniceappkpiekaaLawKit
namespace Go.Proofs.Ytniceappkpiekaa
open Go.RowKit

set_option maxRecDepth 100000 in
set_option maxHeartbeats 6000000 in
theorem TrackMatch_some (w : World) (next room : Int) (ds : List Dd) (b off cap : Nat) (hlen : ds.length ≤ 9223372036854775807)
    (hcells : ∀ i, i < ds.length → w.cell? ⟨b, off + i * 3, none⟩ = some (.int .i64 (ds.getD i ⟨0, 0, 0⟩).kind) ∧
      w.cell? ⟨b, off + i * 3 + 1, none⟩ = some (.int .i64 (ds.getD i ⟨0, 0, 0⟩).n) ∧ w.cell? ⟨b, off + i * 3 + 2, none⟩ = some (.int .i64 (ds.getD i ⟨0, 0, 0⟩).m)) (hr : -9223372036854775808 ≤ room ∧ room ≤ 9223372036854775807) :
    Calls Try.prog 7 #[.int .i64 next, .int .i64 room, .slice (some ⟨b, off, none⟩) ds.length cap] w fun e w' => e = .returned (.bool true) ∧ Keeps [] w w' := by
  obtain ⟨m, hm, hm1, hm2⟩ := mod_form room 64 (by omega)
  obtain ⟨hr1, hr2⟩ := hr
  have hR : holdsB (m % 64 + 1) = true ∧ 1 ≤ m % 64 + 1 ∧ m % 64 + 1 ≤ 64 := ⟨by simp [holdsB]; omega, by omega, by omega⟩
  go_enter Try.func7, Try.ntmps7
  go_wp2_with (go_at_call 11; refine (first_any _).mono ?_; rintro e w1 ⟨rfl, k1⟩)
  generalize m % 64 + 1 = R at *
  obtain ⟨hR0, hR1, hR2⟩ := hR
  refine (NewProgress_yes next R w1 hR0).mono ?_
  rintro e w2 ⟨p, rfl, F, a1, a2, a3⟩
  have kk := k1.trans a2 (by simp)
  have O2 : Own w w2 p (Pg.new next R) := ⟨F, a1, kk, fun x hx => by have := k1.size; have := a3 x hx; omega⟩
  clear a1 a2 a3 hm hm1 hm2 hR0
  have KK := Lib.hid kk
  have H2 := Lib.hid O2
  have HC := Lib.hid hcells
  clear kk O2 hcells k1
  by_cases hl : (400 : Int) < ds.length
  · go_wp2_with fail
    go_ret
    exact ⟨rfl, KK.out⟩
  by_cases hn : 4611686018427387904 < next
  · go_wp2_with fail
    go_ret
    exact ⟨rfl, KK.out⟩
  go_wp2_with fail
  go_loopw [9, 10] (fun top i wr => ∃ (k : Nat) (s : Pg), k ≤ ds.length ∧ i = .int .i64 k ∧ top = .int .i64 s.mt ∧ Hid (Own w wr p s ∧ s.Ok R)) (fun _ i _ => ds.length - (intOf i).toNat)
  case atStart => exact ⟨0, Pg.new next R, by omega, rfl, rfl, H2.out, Pg.Ok.new hR1 hR2 (by omega)⟩
  case round =>
    obtain ⟨k, s, hk, rfl, rfl, HO⟩ := hrel
    by_cases hlt : k < ds.length
    · have hcell : ∀ w', Keeps [] w w' → w'.cell? ⟨b, off + k * 3, none⟩ = some (.int .i64 (ds.getD k ⟨0, 0, 0⟩).kind) ∧
          w'.cell? ⟨b, off + k * 3 + 1, none⟩ = some (.int .i64 (ds.getD k ⟨0, 0, 0⟩).n) ∧ w'.cell? ⟨b, off + k * 3 + 2, none⟩ = some (.int .i64 (ds.getD k ⟨0, 0, 0⟩).m) := fun w' kw => by
        obtain ⟨c0, c1, c2⟩ := HC.out k hlt
        exact ⟨kw.cell c0 (by simp), kw.cell c1 (by simp), kw.cell c2 (by simp)⟩
      generalize (ds.getD k ⟨0, 0, 0⟩).kind = kd at *
      generalize (ds.getD k ⟨0, 0, 0⟩).n = n at *
      generalize (ds.getD k ⟨0, 0, 0⟩).m = mm at *
      replace hcell := Lib.hid hcell
      obtain ⟨c0, c1, c2⟩ := hcell.out _ HO.out.1.keeps
      have hKr := Lib.hid HO.out.1.keeps
      by_cases hn1 : numB n = true
      case neg =>
        have hn1' : numB n = false := by simpa using hn1
        clear hn1
        go_wp2_with (first | (go_at_call 17; refine (number_any _ _).mono ?_; rintro e w' ⟨rfl, rfl⟩) | (go_at_call 31; refine HO.out.1.Next.mono ?_; rintro e w' ⟨rfl, rfl⟩))
        go_ret
        exact ⟨rfl, hKr.out⟩
      by_cases hm1 : numB mm = true
      case neg =>
        have hm1' : numB mm = false := by simpa using hm1
        clear hm1
        go_wp2_with (first | (go_at_call 17; refine (number_any _ _).mono ?_; rintro e w' ⟨rfl, rfl⟩) | (go_at_call 31; refine HO.out.1.Next.mono ?_; rintro e w' ⟨rfl, rfl⟩))
        go_ret
        exact ⟨rfl, hKr.out⟩
      by_cases hx1 : numB s.nx = true
      case neg =>
        have hx1' : numB s.nx = false := by simpa using hx1
        clear hx1
        go_wp2_with (first | (go_at_call 17; refine (number_any _ _).mono ?_; rintro e w' ⟨rfl, rfl⟩) | (go_at_call 31; refine HO.out.1.Next.mono ?_; rintro e w' ⟨rfl, rfl⟩))
        go_ret
        exact ⟨rfl, hKr.out⟩
      have hnN := Lib.hid (isNum_of hn1)
      have hmN := Lib.hid (isNum_of hm1)
      by_cases h0 : kd = 0
      · subst h0
        go_wp2_with (first | (go_at_call 17; refine (number_any _ _).mono ?_; rintro e w' ⟨rfl, rfl⟩) | (go_at_call 31; refine HO.out.1.Next.mono ?_; rintro e w' ⟨rfl, rfl⟩) | (go_at_call 20; refine (Own.Sent HO.out hnN.out).mono ?_; rintro e w3 ⟨rfl, O3⟩; have hmt := sent_mt s n; obtain ⟨d0, d1, d2⟩ := hcell.out _ O3.keeps; have H3 := Lib.hid O3; clear O3) | (go_at_call 30; refine H3.out.Match.mono ?_; rintro e w' ⟨rfl, rfl⟩))
        go_roundw
        case rel => exact ⟨k + 1, s.sent n, by omega, by go_num, by rw [sent_mt], ⟨H3.out, HO.out.2.sent hnN.out⟩⟩
        case measure => simp [intOf]; omega
      by_cases h1 : kd = 1
      · subst h1
        go_wp2_with (first | (go_at_call 17; refine (number_any _ _).mono ?_; rintro e w' ⟨rfl, rfl⟩) | (go_at_call 31; refine HO.out.1.Next.mono ?_; rintro e w' ⟨rfl, rfl⟩))
        go_region_held3 (fun w' => w'.cell? ⟨b, off + k * 3 + 1, none⟩ = some (.int .i64 n)) (simp [go_sem, *]) (first | (go_at_call 22; refine (Own.Acked (HO.out.imp_left Own.drew) hnN.out).mono ?_; rintro e w3 ⟨rfl, O3⟩; have hmt := acked_mt_eq s n; obtain ⟨d0, d1, d2⟩ := hcell.out _ O3.keeps; have H3 := Lib.hid O3; clear O3))
        go_wp2_with (first | (go_at_call 30; refine H3.out.Match.mono ?_; rintro e w' ⟨rfl, rfl⟩))
        go_roundw
        case rel => exact ⟨k + 1, s.acked n, by omega, by go_num, by rw [acked_mt_eq], ⟨H3.out, HO.out.2.acked hnN.out⟩⟩
        case measure => simp [intOf]; omega
      by_cases h2 : kd = 2
      · subst h2
        go_wp2_with (first | (go_at_call 17; refine (number_any _ _).mono ?_; rintro e w' ⟨rfl, rfl⟩) | (go_at_call 31; refine HO.out.1.Next.mono ?_; rintro e w' ⟨rfl, rfl⟩))
        go_region_held3 (fun w' => w'.cell? ⟨b, off + k * 3 + 1, none⟩ = some (.int .i64 n) ∧ w'.cell? ⟨b, off + k * 3 + 2, none⟩ = some (.int .i64 mm)) (simp [go_sem, *]) (first | (go_at_call 24; refine (Own.Rejected (x := n) (HO.out.imp_left Own.drew) hmN.out).mono ?_; rintro e w3 ⟨rfl, O3⟩; have hmt := rejected_mt s n mm; obtain ⟨d0, d1, d2⟩ := hcell.out _ O3.keeps; have H3 := Lib.hid O3; clear O3))
        go_wp2_with (first | (go_at_call 30; refine H3.out.Match.mono ?_; rintro e w' ⟨rfl, rfl⟩))
        go_roundw
        case rel => exact ⟨k + 1, s.rejected n mm, by omega, by go_num, by rw [rejected_mt], ⟨H3.out, HO.out.2.rejected hnN.out hmN.out⟩⟩
        case measure => simp [intOf]; omega
      by_cases h3 : kd = 3
      · subst h3
        go_wp2_with (first | (go_at_call 17; refine (number_any _ _).mono ?_; rintro e w' ⟨rfl, rfl⟩) | (go_at_call 31; refine HO.out.1.Next.mono ?_; rintro e w' ⟨rfl, rfl⟩) | (go_at_call 26; refine (Own.Beat HO.out).mono ?_; rintro e w3 ⟨rfl, O3⟩; have hmt := beat_mt s; obtain ⟨d0, d1, d2⟩ := hcell.out _ O3.keeps; have H3 := Lib.hid O3; clear O3) | (go_at_call 30; refine H3.out.Match.mono ?_; rintro e w' ⟨rfl, rfl⟩))
        go_roundw
        case rel => exact ⟨k + 1, s.beat, by omega, by go_num, by rw [beat_mt], ⟨H3.out, HO.out.2.beat⟩⟩
        case measure => simp [intOf]; omega
      have hb0 : (kd == 0) = false := by simpa using h0
      have hb1 : (kd == 1) = false := by simpa using h1
      have hb2 : (kd == 2) = false := by simpa using h2
      have hb3 : (kd == 3) = false := by simpa using h3
      clear h0 h1 h2 h3
      go_wp2_with (first | (go_at_call 17; refine (number_any _ _).mono ?_; rintro e w' ⟨rfl, rfl⟩) | (go_at_call 31; refine HO.out.1.Next.mono ?_; rintro e w' ⟨rfl, rfl⟩) | (go_at_call 28; refine (Own.Snap HO.out n).mono ?_; rintro e w3 ⟨rfl, O3⟩; have hmt := snapped_mt s n; obtain ⟨d0, d1, d2⟩ := hcell.out _ O3.keeps; have H3 := Lib.hid O3; clear O3) | (go_at_call 30; refine H3.out.Match.mono ?_; rintro e w' ⟨rfl, rfl⟩))
      go_roundw
      case rel => exact ⟨k + 1, s.snapped n, by omega, by go_num, by rw [snapped_mt], ⟨H3.out, HO.out.2.snapped n⟩⟩
      case measure => simp [intOf]; omega
    · obtain rfl : k = ds.length := by omega
      have hKr := Lib.hid HO.out.1.keeps
      go_wp2_with fail
      go_ret
      exact ⟨rfl, hKr.out⟩

set_option maxRecDepth 100000 in
set_option maxHeartbeats 6000000 in
theorem TrackMatch_none (w : World) (next room : Int) (a : Option Addr) (cap : Nat)
    (hr : -9223372036854775808 ≤ room ∧ room ≤ 9223372036854775807) :
    Calls Try.prog 7 #[.int .i64 next, .int .i64 room, .slice a 0 cap] w fun e w' => e = .returned (.bool true) ∧ Keeps [] w w' := by
  obtain ⟨m, hm, hm1, hm2⟩ := mod_form room 64 (by omega)
  obtain ⟨hr1, hr2⟩ := hr
  have hR : holdsB (m % 64 + 1) = true ∧ 1 ≤ m % 64 + 1 ∧ m % 64 + 1 ≤ 64 := ⟨by simp [holdsB]; omega, by omega, by omega⟩
  go_enter Try.func7, Try.ntmps7
  go_wp2_with (go_at_call 11; refine (first_any _).mono ?_; rintro e w1 ⟨rfl, k1⟩)
  generalize m % 64 + 1 = R at *
  obtain ⟨hR0, hR1, hR2⟩ := hR
  refine (NewProgress_yes next R w1 hR0).mono ?_
  rintro e w2 ⟨p, rfl, F, a1, a2, a3⟩
  have kk := k1.trans a2 (by simp)
  have O2 : Own w w2 p (Pg.new next R) := ⟨F, a1, kk, fun x hx => by have := k1.size; have := a3 x hx; omega⟩
  clear a1 a2 a3 hm hm1 hm2 hR0
  have KK := Lib.hid kk
  have H2 := Lib.hid O2
  clear kk O2 k1
  by_cases hn : 4611686018427387904 < next
  · go_wp2_with fail
    go_ret
    exact ⟨rfl, KK.out⟩
  go_wp2_with fail
  refine wp_loop_once ?_
  go_wp2_with fail
  go_ret
  exact ⟨rfl, KK.out⟩

theorem TrackMatch_walk (w : World) (next room : Int) (v : Value) (ds : List Dd) (_hn : -9223372036854775808 ≤ next ∧ next ≤ 9223372036854775807) (hr : -9223372036854775808 ≤ room ∧ room ≤ 9223372036854775807) (hd : DeedsAt w v ds) :
    Calls Try.prog 7 #[.int .i64 next, .int .i64 room, v] w fun e w' => e = .returned (.bool true) ∧ Keeps [] w w' := by
  obtain ⟨a, cap, rfl, hlen, rfl | ⟨b, off, rfl, hc⟩⟩ := hd
  · exact TrackMatch_none w next room a cap hr
  · exact TrackMatch_some w next room ds b off cap hlen hc hr

end Go.Proofs.Ytniceappkpiekaa
