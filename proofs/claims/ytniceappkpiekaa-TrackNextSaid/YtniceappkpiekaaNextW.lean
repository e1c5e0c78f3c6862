/-
  synodlaw9.TrackNext, walked. (Printed by gen_next.py.)
-/
import Derived.Test.YtniceappkpiekaaLawKit
namespace Go.Proofs.Ytniceappkpiekaa
open Go.RowKit

/-- What TrackNext's count of messages knows. -/
structure Pg.Inv (s : Pg) (c : Int) : Prop where
  up : s.mt < s.nx
  low : ∀ x, x ∈ s.xs → x < s.nx
  c0 : 0 ≤ c
  probe : s.st = 0 → c ≤ 1 ∧ (1 ≤ c → s.pz = true)
  repl : s.st = 1 → c ≤ s.xs.length
  snap : s.st = 2 → c = 0
  empty : s.st ≠ 1 → s.xs = []

theorem getD_mem (xs : List Int) (h : xs ≠ []) : xs.getD (xs.length - 1) 0 ∈ xs := by
  have h0 : 0 < xs.length := List.length_pos_iff.2 h
  have hi : xs.length - 1 < xs.length := by omega
  rw [List.getD_eq_getElem?_getD, List.getElem?_eq_getElem hi]
  exact List.getElem_mem hi
theorem Pg.Inv.entered {s : Pg} (st : Int) : (s.entered st).Inv 0 :=
  ⟨by simp only [Pg.entered]; omega, by simp [Pg.entered], by omega, by simp, by simp [Pg.entered], by simp, by simp [Pg.entered]⟩
theorem Pg.Inv.sent0 {s : Pg} {c : Int} (h : s.Inv c) (hm : s.may = true) (h0 : s.st = 0) (x : Int) : (s.sent x).Inv (c + 1) := by
  have hp : s.pz = false := by simpa [Pg.may, h0] using hm
  have e : s.sent x = { s with pz := true } := by rw [Pg.sent, if_pos h0]
  rw [e]
  have := h.probe h0
  have := h.c0
  refine ⟨h.up, h.low, by omega, fun _ => ⟨?_, fun _ => rfl⟩, fun h1 => ?_, fun h2 => ?_, h.empty⟩
  · have h3 := (h.probe h0).2
    rw [hp] at h3
    have : ¬ 1 ≤ c := fun hh => by cases h3 hh
    omega
  · simp only at h1; omega
  · simp only at h2; omega
theorem Pg.Inv.sent1 {s : Pg} {c : Int} (h : s.Inv c) (hm : s.may = true) (h1 : s.st = 1) : (s.sent s.nx).Inv (c + 1) := by
  have hr : decide (s.room ≤ (s.xs.length : Int)) = false := by simpa [Pg.may, h1] using hm
  have ha : mayAdd s.room s.xs s.nx = true := by
    simp only [mayAdd, hr, Bool.not_false, Bool.true_and, Bool.or_eq_true, List.isEmpty_iff, decide_eq_true_eq]
    by_cases he : s.xs = []
    · exact .inl he
    · exact .inr (h.low _ (getD_mem _ he))
  have e : s.sent s.nx = { s with xs := s.xs ++ [s.nx], nx := s.nx + 1 } := by
    rw [Pg.sent, if_neg (by omega), if_pos h1, if_pos ⟨by omega, ha⟩]
  rw [e]
  have h5 := h.up
  have h6 := h.c0
  have h7 := h.repl h1
  refine ⟨by simp only; omega, fun x hx => ?_, by omega, fun h0 => ?_, fun _ => by (simp; omega), fun h2 => ?_, fun hh => absurd h1 hh⟩
  · simp only [List.mem_append, List.mem_cons, List.not_mem_nil, or_false] at hx
    rcases hx with hx | hx
    · have := h.low x hx; simp only; omega
    · simp only; omega
  · simp only at h0; omega
  · simp only at h2; omega
theorem low_drop {xs : List Int} {n : Int} (h : ∀ x, x ∈ xs → x < n) (k : Nat) : ∀ x, x ∈ xs.drop k → x < n := fun x hx => h x (List.mem_of_mem_drop hx)
theorem Pg.Inv.ackedFirst {s : Pg} {c : Int} (h : s.Inv c) (x : Int) : (s.ackedFirst x).Inv 0 := by
  have h1 := h.up
  refine ⟨?_, ?_, by omega, fun _ => by omega, fun _ => by simp, fun _ => rfl, fun hh => by simp [Pg.ackedFirst, h.empty hh]⟩
  · simp only [Pg.ackedFirst]; split <;> omega
  · intro y hy
    have := low_drop h.low _ y hy
    simp only [Pg.ackedFirst]; split <;> omega
theorem Pg.Inv.acked {s : Pg} {c : Int} (h : s.Inv c) (x : Int) : (s.acked x).Inv 0 := by
  have h' := h.ackedFirst x
  unfold Pg.acked
  simp only
  split
  · split
    · exact Pg.Inv.entered 1
    · exact h'
  · split
    · exact h'
    · split
      · exact Pg.Inv.entered 0
      · exact h'
theorem Pg.Inv.zero {s : Pg} {c : Int} (h : s.Inv c) : s.Inv 0 := ⟨h.up, h.low, by omega, fun _ => by omega, fun _ => by omega, fun _ => rfl, h.empty⟩
theorem Pg.Inv.rejected {s : Pg} {c : Int} (h : s.Inv c) (x y : Int) : (s.rejected x y).Inv 0 := by
  unfold Pg.rejected
  split
  · rename_i h0
    split
    · exact ⟨by simp only; omega, by simp [h.empty (by omega)], by omega, fun _ => by omega, fun _ => by simp, fun _ => rfl, h.empty⟩
    · exact h.zero
  · split
    · split
      · exact ⟨by simp only; omega, by simp, by omega, fun _ => by omega, fun _ => by simp, fun _ => rfl, fun _ => rfl⟩
      · exact h.zero
    · exact h.zero
theorem Pg.Inv.beat {s : Pg} {c : Int} (h : s.Inv c) : s.beat.Inv 0 := by
  have h' : Pg.Inv { s with pz := false } 0 := ⟨h.up, h.low, by omega, fun _ => by omega, fun _ => by simp, fun _ => rfl, h.empty⟩
  unfold Pg.beat
  simp only
  split
  · exact h'
  · split
    · unfold Pg.beaten
      split
      · exact ⟨h.up, low_drop h.low _, by omega, fun _ => by omega, fun _ => by simp, fun _ => rfl, fun hh => by simp [h.empty hh]⟩
      · exact h'
    · exact Pg.Inv.entered 0
theorem Pg.Inv.snapped {s : Pg} {c : Int} (h : s.Inv c) (x : Int) : (s.snapped x).Inv 0 :=
  ⟨h.up, by simp [Pg.snapped], by omega, fun h0 => by simp [Pg.snapped] at h0, fun h1 => by simp [Pg.snapped] at h1, fun _ => rfl, fun _ => rfl⟩
theorem Pg.Inv.new {next R : Int} : (Pg.new next R).Inv 0 :=
  ⟨by simp only [Pg.new]; omega, by simp [Pg.new], by omega, fun _ => by omega, fun _ => by simp [Pg.new], fun _ => rfl, fun _ => rfl⟩

/-- what the walk asks behind a deed. -/
structure Pg.Tail (s' : Pg) (was c R : Int) : Prop where
  a : decide (s'.mt < was) = false
  b : decide (s'.nx ≤ s'.mt) = false
  c : decide (R < c) = false
theorem Pg.Inv.tail {s' : Pg} {was c R : Int} (h : s'.Inv c) (ok : s'.Ok R) (hm : was ≤ s'.mt) : s'.Tail was c R := by
  have h1 := h.up
  have h2 := ok.r1
  have h3 := ok.len
  refine ⟨by simp; omega, by simp; omega, ?_⟩
  simp only [decide_eq_false_iff_not]
  rcases ok.st with h0 | h0 | h0
  · have := (h.probe h0).1; omega
  · have := h.repl h0; omega
  · have := h.snap h0; omega
theorem Pg.Inv.le {s' : Pg} {c R : Int} (h : s'.Inv c) (ok : s'.Ok R) : c ≤ 64 := by
  have h2 := ok.r64
  have h3 := ok.len
  rcases ok.st with h0 | h0 | h0
  · have := (h.probe h0).1; omega
  · have := h.repl h0; omega
  · have := h.snap h0; omega
theorem may2 {s : Pg} (h : s.st = 2) : s.may = false := by simp [Pg.may, h]
theorem st_of_may {s : Pg} {R : Int} (ok : s.Ok R) (h : s.may = true) : s.st = 0 ∨ s.st = 1 := by
  rcases ok.st with h0 | h0 | h0
  · exact .inl h0
  · exact .inr h0
  · rw [may2 h0] at h; cases h

set_option maxRecDepth 100000 in
set_option maxHeartbeats 6000000 in
theorem TrackNext_some (w : World) (next room : Int) (ds : List Dd) (b off cap : Nat) (hlen : ds.length ≤ 9223372036854775807)
    (hcells : ∀ i, i < ds.length → w.cell? ⟨b, off + i * 3, none⟩ = some (.int .i64 (ds.getD i ⟨0, 0, 0⟩).kind) ∧
      w.cell? ⟨b, off + i * 3 + 1, none⟩ = some (.int .i64 (ds.getD i ⟨0, 0, 0⟩).n) ∧ w.cell? ⟨b, off + i * 3 + 2, none⟩ = some (.int .i64 (ds.getD i ⟨0, 0, 0⟩).m)) (hr : -9223372036854775808 ≤ room ∧ room ≤ 9223372036854775807) :
    Calls Try.prog 6 #[.int .i64 next, .int .i64 room, .slice (some ⟨b, off, none⟩) ds.length cap] w fun e w' => e = .returned (.bool true) ∧ Keeps [] w w' := by
  obtain ⟨m, hm, hm1, hm2⟩ := mod_form room 64 (by omega)
  obtain ⟨hr1, hr2⟩ := hr
  have hR : holdsB (m % 64 + 1) = true ∧ 1 ≤ m % 64 + 1 ∧ m % 64 + 1 ≤ 64 := ⟨by simp [holdsB]; omega, by omega, by omega⟩
  go_enter Try.func6, Try.ntmps6
  go_wp2_with (go_at_call 11; refine (first_any _).mono ?_; rintro e w1 ⟨rfl, k1⟩)
  generalize m % 64 + 1 = R at *
  obtain ⟨hR0, hR1, hR2⟩ := hR
  refine (NewProgress_yes next R w1 hR0).mono ?_
  rintro e w2 ⟨p, rfl, F, a1, a2, a3⟩
  have kk := k1.trans a2 (by simp)
  have O2 : Own w w2 p (Pg.new next R) := ⟨F, a1, kk, fun x hx => by have := k1.size; have := a3 x hx; omega⟩
  clear a1 a2 a3 hm hm1 hm2 hR0
  have KK := Lib.hid kk
  have H2 := Lib.hid O2
  have HC := Lib.hid hcells
  clear kk O2 hcells k1
  by_cases hl : (400 : Int) < ds.length
  · go_wp2_with fail
    go_ret
    exact ⟨rfl, KK.out⟩
  by_cases hn : 4611686018427387904 < next
  · go_wp2_with fail
    go_ret
    exact ⟨rfl, KK.out⟩
  go_wp2_with fail
  go_loopw [9, 10] (fun sent i wr => ∃ (k : Nat) (s : Pg) (c : Int), k ≤ ds.length ∧ i = .int .i64 k ∧ sent = .int .i64 c ∧ Hid (Own w wr p s ∧ s.Ok R) ∧ Hid (s.Inv c)) (fun _ i _ => ds.length - (intOf i).toNat)
  case atStart => exact ⟨0, Pg.new next R, 0, by omega, rfl, rfl, ⟨H2.out, Pg.Ok.new hR1 hR2 (by omega)⟩, Pg.Inv.new⟩
  case round =>
    obtain ⟨k, s, c, hk, rfl, rfl, HO, HI⟩ := hrel
    have hc64 : c ≤ 64 := HI.out.le HO.out.2
    have hc0 : 0 ≤ c := HI.out.c0
    by_cases hlt : k < ds.length
    · have hcell : ∀ w', Keeps [] w w' → w'.cell? ⟨b, off + k * 3, none⟩ = some (.int .i64 (ds.getD k ⟨0, 0, 0⟩).kind) ∧
          w'.cell? ⟨b, off + k * 3 + 1, none⟩ = some (.int .i64 (ds.getD k ⟨0, 0, 0⟩).n) ∧ w'.cell? ⟨b, off + k * 3 + 2, none⟩ = some (.int .i64 (ds.getD k ⟨0, 0, 0⟩).m) := fun w' kw => by
        obtain ⟨c0, c1, c2⟩ := HC.out k hlt
        exact ⟨kw.cell c0 (by simp), kw.cell c1 (by simp), kw.cell c2 (by simp)⟩
      generalize (ds.getD k ⟨0, 0, 0⟩).kind = kd at *
      generalize (ds.getD k ⟨0, 0, 0⟩).n = n at *
      generalize (ds.getD k ⟨0, 0, 0⟩).m = mm at *
      replace hcell := Lib.hid hcell
      obtain ⟨c0, c1, c2⟩ := hcell.out _ HO.out.1.keeps
      have hKr := Lib.hid HO.out.1.keeps
      by_cases hn1 : numB n = true
      case neg =>
        have hn1' : numB n = false := by simpa using hn1
        clear hn1
        go_wp2_with (first | (go_at_call 30; refine HO.out.1.Match.mono ?_; rintro e w' ⟨rfl, rfl⟩) | (go_at_call 17; refine (number_any _ _).mono ?_; rintro e w' ⟨rfl, rfl⟩) | (go_at_call 31; refine HO.out.1.Next.mono ?_; rintro e w' ⟨rfl, rfl⟩))
        go_ret
        exact ⟨rfl, hKr.out⟩
      by_cases hm1 : numB mm = true
      case neg =>
        have hm1' : numB mm = false := by simpa using hm1
        clear hm1
        go_wp2_with (first | (go_at_call 30; refine HO.out.1.Match.mono ?_; rintro e w' ⟨rfl, rfl⟩) | (go_at_call 17; refine (number_any _ _).mono ?_; rintro e w' ⟨rfl, rfl⟩) | (go_at_call 31; refine HO.out.1.Next.mono ?_; rintro e w' ⟨rfl, rfl⟩))
        go_ret
        exact ⟨rfl, hKr.out⟩
      by_cases hx1 : numB s.nx = true
      case neg =>
        have hx1' : numB s.nx = false := by simpa using hx1
        clear hx1
        go_wp2_with (first | (go_at_call 30; refine HO.out.1.Match.mono ?_; rintro e w' ⟨rfl, rfl⟩) | (go_at_call 17; refine (number_any _ _).mono ?_; rintro e w' ⟨rfl, rfl⟩) | (go_at_call 31; refine HO.out.1.Next.mono ?_; rintro e w' ⟨rfl, rfl⟩))
        go_ret
        exact ⟨rfl, hKr.out⟩
      have hnN := Lib.hid (isNum_of hn1)
      have hmN := Lib.hid (isNum_of hm1)
      by_cases h0 : kd = 0
      · subst h0
        by_cases hmay : s.may = true
        · rcases st_of_may HO.out.2 hmay with hst | hst
          · have hI3 : Pg.Inv (s.sent n) (c + 1) := HI.out.sent0 hmay hst n
            have hO3 : Pg.Ok (s.sent n) R := HO.out.2.sent hnN.out
            obtain ⟨ta, tb, tc⟩ := hI3.tail (was := s.mt) hO3 (by rw [sent_mt]; omega)
            have HC3 := Lib.hid (fun (w4 : World) (h4 : Own w w4 p s ∧ s.Ok R) => Own.Sent h4 hnN.out)
            generalize s.sent n = s3 at *
            have HI3 := Lib.hid hI3
            have HO3 := Lib.hid hO3
            rcases hO3.st with t3 | t3 | t3
            · have e2 : decide (1 < c + 1) = false := by have := (hI3.probe t3).1; simp; omega
              clear hI3 hO3
              go_wp2_with (first | (go_at_call 30; refine H3.out.Match.mono ?_; rintro e w' ⟨rfl, rfl⟩) | (go_at_call 31; refine H3.out.Next.mono ?_; rintro e w' ⟨rfl, rfl⟩) | (go_at_call 32; refine H3.out.State.mono ?_; rintro e w' ⟨rfl, rfl⟩) | (go_at_call 33; refine H3.out.May.mono ?_; rintro e w4 ⟨rfl, O4⟩; replace H3 := Lib.hid O4; clear O4) | (go_at_call 32; refine H4.out.1.State.mono ?_; rintro e w' ⟨rfl, rfl⟩) | (go_at_call 31; refine H4.out.1.Next.mono ?_; rintro e w' ⟨rfl, rfl⟩) | (go_at_call 20; refine (HC3.out _ H4.out).mono ?_; rintro e w3 ⟨rfl, O3⟩; have H3 := Lib.hid O3; clear O3) | (go_at_call 33; refine HO.out.1.May.mono ?_; rintro e w4 ⟨rfl, O4⟩; obtain ⟨m0, m1, m2⟩ := hcell.out _ O4.keeps; have H4 := Lib.hid (And.intro O4 HO.out.2); clear O4) | (go_at_call 30; refine HO.out.1.Match.mono ?_; rintro e w' ⟨rfl, rfl⟩) | (go_at_call 17; refine (number_any _ _).mono ?_; rintro e w' ⟨rfl, rfl⟩) | (go_at_call 31; refine HO.out.1.Next.mono ?_; rintro e w' ⟨rfl, rfl⟩))
              go_roundw
              case rel => exact ⟨k + 1, s3, _, by omega, by go_num, rfl, ⟨H3.out, HO3.out⟩, HI3.out⟩
              case measure => simp [intOf]; omega
            · skip
              clear hI3 hO3
              go_wp2_with (first | (go_at_call 30; refine H3.out.Match.mono ?_; rintro e w' ⟨rfl, rfl⟩) | (go_at_call 31; refine H3.out.Next.mono ?_; rintro e w' ⟨rfl, rfl⟩) | (go_at_call 32; refine H3.out.State.mono ?_; rintro e w' ⟨rfl, rfl⟩) | (go_at_call 33; refine H3.out.May.mono ?_; rintro e w4 ⟨rfl, O4⟩; replace H3 := Lib.hid O4; clear O4) | (go_at_call 32; refine H4.out.1.State.mono ?_; rintro e w' ⟨rfl, rfl⟩) | (go_at_call 31; refine H4.out.1.Next.mono ?_; rintro e w' ⟨rfl, rfl⟩) | (go_at_call 20; refine (HC3.out _ H4.out).mono ?_; rintro e w3 ⟨rfl, O3⟩; have H3 := Lib.hid O3; clear O3) | (go_at_call 33; refine HO.out.1.May.mono ?_; rintro e w4 ⟨rfl, O4⟩; obtain ⟨m0, m1, m2⟩ := hcell.out _ O4.keeps; have H4 := Lib.hid (And.intro O4 HO.out.2); clear O4) | (go_at_call 30; refine HO.out.1.Match.mono ?_; rintro e w' ⟨rfl, rfl⟩) | (go_at_call 17; refine (number_any _ _).mono ?_; rintro e w' ⟨rfl, rfl⟩) | (go_at_call 31; refine HO.out.1.Next.mono ?_; rintro e w' ⟨rfl, rfl⟩))
              go_roundw
              case rel => exact ⟨k + 1, s3, _, by omega, by go_num, rfl, ⟨H3.out, HO3.out⟩, HI3.out⟩
              case measure => simp [intOf]; omega
            · have e2 := may2 t3
              clear hI3 hO3
              go_wp2_with (first | (go_at_call 30; refine H3.out.Match.mono ?_; rintro e w' ⟨rfl, rfl⟩) | (go_at_call 31; refine H3.out.Next.mono ?_; rintro e w' ⟨rfl, rfl⟩) | (go_at_call 32; refine H3.out.State.mono ?_; rintro e w' ⟨rfl, rfl⟩) | (go_at_call 33; refine H3.out.May.mono ?_; rintro e w4 ⟨rfl, O4⟩; replace H3 := Lib.hid O4; clear O4) | (go_at_call 32; refine H4.out.1.State.mono ?_; rintro e w' ⟨rfl, rfl⟩) | (go_at_call 31; refine H4.out.1.Next.mono ?_; rintro e w' ⟨rfl, rfl⟩) | (go_at_call 20; refine (HC3.out _ H4.out).mono ?_; rintro e w3 ⟨rfl, O3⟩; have H3 := Lib.hid O3; clear O3) | (go_at_call 33; refine HO.out.1.May.mono ?_; rintro e w4 ⟨rfl, O4⟩; obtain ⟨m0, m1, m2⟩ := hcell.out _ O4.keeps; have H4 := Lib.hid (And.intro O4 HO.out.2); clear O4) | (go_at_call 30; refine HO.out.1.Match.mono ?_; rintro e w' ⟨rfl, rfl⟩) | (go_at_call 17; refine (number_any _ _).mono ?_; rintro e w' ⟨rfl, rfl⟩) | (go_at_call 31; refine HO.out.1.Next.mono ?_; rintro e w' ⟨rfl, rfl⟩))
              go_roundw
              case rel => exact ⟨k + 1, s3, _, by omega, by go_num, rfl, ⟨H3.out, HO3.out⟩, HI3.out⟩
              case measure => simp [intOf]; omega
          · have hI3 : Pg.Inv (s.sent s.nx) (c + 1) := HI.out.sent1 hmay hst
            have hO3 : Pg.Ok (s.sent s.nx) R := HO.out.2.sent (isNum_of hx1)
            obtain ⟨ta, tb, tc⟩ := hI3.tail (was := s.mt) hO3 (by rw [sent_mt]; omega)
            have HC3 := Lib.hid (fun (w4 : World) (h4 : Own w w4 p s ∧ s.Ok R) => Own.Sent h4 (isNum_of hx1))
            generalize s.sent s.nx = s3 at *
            have HI3 := Lib.hid hI3
            have HO3 := Lib.hid hO3
            rcases hO3.st with t3 | t3 | t3
            · have e2 : decide (1 < c + 1) = false := by have := (hI3.probe t3).1; simp; omega
              clear hI3 hO3
              go_wp2_with (first | (go_at_call 30; refine H3.out.Match.mono ?_; rintro e w' ⟨rfl, rfl⟩) | (go_at_call 31; refine H3.out.Next.mono ?_; rintro e w' ⟨rfl, rfl⟩) | (go_at_call 32; refine H3.out.State.mono ?_; rintro e w' ⟨rfl, rfl⟩) | (go_at_call 33; refine H3.out.May.mono ?_; rintro e w4 ⟨rfl, O4⟩; replace H3 := Lib.hid O4; clear O4) | (go_at_call 32; refine H4.out.1.State.mono ?_; rintro e w' ⟨rfl, rfl⟩) | (go_at_call 31; refine H4.out.1.Next.mono ?_; rintro e w' ⟨rfl, rfl⟩) | (go_at_call 20; refine (HC3.out _ H4.out).mono ?_; rintro e w3 ⟨rfl, O3⟩; have H3 := Lib.hid O3; clear O3) | (go_at_call 33; refine HO.out.1.May.mono ?_; rintro e w4 ⟨rfl, O4⟩; obtain ⟨m0, m1, m2⟩ := hcell.out _ O4.keeps; have H4 := Lib.hid (And.intro O4 HO.out.2); clear O4) | (go_at_call 30; refine HO.out.1.Match.mono ?_; rintro e w' ⟨rfl, rfl⟩) | (go_at_call 17; refine (number_any _ _).mono ?_; rintro e w' ⟨rfl, rfl⟩) | (go_at_call 31; refine HO.out.1.Next.mono ?_; rintro e w' ⟨rfl, rfl⟩))
              go_roundw
              case rel => exact ⟨k + 1, s3, _, by omega, by go_num, rfl, ⟨H3.out, HO3.out⟩, HI3.out⟩
              case measure => simp [intOf]; omega
            · skip
              clear hI3 hO3
              go_wp2_with (first | (go_at_call 30; refine H3.out.Match.mono ?_; rintro e w' ⟨rfl, rfl⟩) | (go_at_call 31; refine H3.out.Next.mono ?_; rintro e w' ⟨rfl, rfl⟩) | (go_at_call 32; refine H3.out.State.mono ?_; rintro e w' ⟨rfl, rfl⟩) | (go_at_call 33; refine H3.out.May.mono ?_; rintro e w4 ⟨rfl, O4⟩; replace H3 := Lib.hid O4; clear O4) | (go_at_call 32; refine H4.out.1.State.mono ?_; rintro e w' ⟨rfl, rfl⟩) | (go_at_call 31; refine H4.out.1.Next.mono ?_; rintro e w' ⟨rfl, rfl⟩) | (go_at_call 20; refine (HC3.out _ H4.out).mono ?_; rintro e w3 ⟨rfl, O3⟩; have H3 := Lib.hid O3; clear O3) | (go_at_call 33; refine HO.out.1.May.mono ?_; rintro e w4 ⟨rfl, O4⟩; obtain ⟨m0, m1, m2⟩ := hcell.out _ O4.keeps; have H4 := Lib.hid (And.intro O4 HO.out.2); clear O4) | (go_at_call 30; refine HO.out.1.Match.mono ?_; rintro e w' ⟨rfl, rfl⟩) | (go_at_call 17; refine (number_any _ _).mono ?_; rintro e w' ⟨rfl, rfl⟩) | (go_at_call 31; refine HO.out.1.Next.mono ?_; rintro e w' ⟨rfl, rfl⟩))
              go_roundw
              case rel => exact ⟨k + 1, s3, _, by omega, by go_num, rfl, ⟨H3.out, HO3.out⟩, HI3.out⟩
              case measure => simp [intOf]; omega
            · have e2 := may2 t3
              clear hI3 hO3
              go_wp2_with (first | (go_at_call 30; refine H3.out.Match.mono ?_; rintro e w' ⟨rfl, rfl⟩) | (go_at_call 31; refine H3.out.Next.mono ?_; rintro e w' ⟨rfl, rfl⟩) | (go_at_call 32; refine H3.out.State.mono ?_; rintro e w' ⟨rfl, rfl⟩) | (go_at_call 33; refine H3.out.May.mono ?_; rintro e w4 ⟨rfl, O4⟩; replace H3 := Lib.hid O4; clear O4) | (go_at_call 32; refine H4.out.1.State.mono ?_; rintro e w' ⟨rfl, rfl⟩) | (go_at_call 31; refine H4.out.1.Next.mono ?_; rintro e w' ⟨rfl, rfl⟩) | (go_at_call 20; refine (HC3.out _ H4.out).mono ?_; rintro e w3 ⟨rfl, O3⟩; have H3 := Lib.hid O3; clear O3) | (go_at_call 33; refine HO.out.1.May.mono ?_; rintro e w4 ⟨rfl, O4⟩; obtain ⟨m0, m1, m2⟩ := hcell.out _ O4.keeps; have H4 := Lib.hid (And.intro O4 HO.out.2); clear O4) | (go_at_call 30; refine HO.out.1.Match.mono ?_; rintro e w' ⟨rfl, rfl⟩) | (go_at_call 17; refine (number_any _ _).mono ?_; rintro e w' ⟨rfl, rfl⟩) | (go_at_call 31; refine HO.out.1.Next.mono ?_; rintro e w' ⟨rfl, rfl⟩))
              go_roundw
              case rel => exact ⟨k + 1, s3, _, by omega, by go_num, rfl, ⟨H3.out, HO3.out⟩, HI3.out⟩
              case measure => simp [intOf]; omega
        · have hmay' : s.may = false := by simpa using hmay
          clear hmay
          obtain ⟨ta, tb, tc⟩ := HI.out.tail (was := s.mt) HO.out.2 (by omega)
          rcases HO.out.2.st with t3 | t3 | t3
          · have e2 : decide (1 < c) = false := by have := (HI.out.probe t3).1; simp; omega
            go_wp2_with (first | (go_at_call 30; refine H4.out.1.Match.mono ?_; rintro e w' ⟨rfl, rfl⟩) | (go_at_call 31; refine H4.out.1.Next.mono ?_; rintro e w' ⟨rfl, rfl⟩) | (go_at_call 32; refine H4.out.1.State.mono ?_; rintro e w' ⟨rfl, rfl⟩) | (go_at_call 33; refine H4.out.1.May.mono ?_; rintro e w4 ⟨rfl, O4⟩; replace H4 := Lib.hid (And.intro O4 HO.out.2); clear O4) | (go_at_call 33; refine HO.out.1.May.mono ?_; rintro e w4 ⟨rfl, O4⟩; have H4 := Lib.hid (And.intro O4 HO.out.2); clear O4) | (go_at_call 30; refine HO.out.1.Match.mono ?_; rintro e w' ⟨rfl, rfl⟩) | (go_at_call 17; refine (number_any _ _).mono ?_; rintro e w' ⟨rfl, rfl⟩) | (go_at_call 31; refine HO.out.1.Next.mono ?_; rintro e w' ⟨rfl, rfl⟩))
            go_roundw
            case rel => exact ⟨k + 1, s, _, by omega, by go_num, rfl, H4.out, HI.out⟩
            case measure => simp [intOf]; omega
          · skip
            go_wp2_with (first | (go_at_call 30; refine H4.out.1.Match.mono ?_; rintro e w' ⟨rfl, rfl⟩) | (go_at_call 31; refine H4.out.1.Next.mono ?_; rintro e w' ⟨rfl, rfl⟩) | (go_at_call 32; refine H4.out.1.State.mono ?_; rintro e w' ⟨rfl, rfl⟩) | (go_at_call 33; refine H4.out.1.May.mono ?_; rintro e w4 ⟨rfl, O4⟩; replace H4 := Lib.hid (And.intro O4 HO.out.2); clear O4) | (go_at_call 33; refine HO.out.1.May.mono ?_; rintro e w4 ⟨rfl, O4⟩; have H4 := Lib.hid (And.intro O4 HO.out.2); clear O4) | (go_at_call 30; refine HO.out.1.Match.mono ?_; rintro e w' ⟨rfl, rfl⟩) | (go_at_call 17; refine (number_any _ _).mono ?_; rintro e w' ⟨rfl, rfl⟩) | (go_at_call 31; refine HO.out.1.Next.mono ?_; rintro e w' ⟨rfl, rfl⟩))
            go_roundw
            case rel => exact ⟨k + 1, s, _, by omega, by go_num, rfl, H4.out, HI.out⟩
            case measure => simp [intOf]; omega
          · skip
            go_wp2_with (first | (go_at_call 30; refine H4.out.1.Match.mono ?_; rintro e w' ⟨rfl, rfl⟩) | (go_at_call 31; refine H4.out.1.Next.mono ?_; rintro e w' ⟨rfl, rfl⟩) | (go_at_call 32; refine H4.out.1.State.mono ?_; rintro e w' ⟨rfl, rfl⟩) | (go_at_call 33; refine H4.out.1.May.mono ?_; rintro e w4 ⟨rfl, O4⟩; replace H4 := Lib.hid (And.intro O4 HO.out.2); clear O4) | (go_at_call 33; refine HO.out.1.May.mono ?_; rintro e w4 ⟨rfl, O4⟩; have H4 := Lib.hid (And.intro O4 HO.out.2); clear O4) | (go_at_call 30; refine HO.out.1.Match.mono ?_; rintro e w' ⟨rfl, rfl⟩) | (go_at_call 17; refine (number_any _ _).mono ?_; rintro e w' ⟨rfl, rfl⟩) | (go_at_call 31; refine HO.out.1.Next.mono ?_; rintro e w' ⟨rfl, rfl⟩))
            go_roundw
            case rel => exact ⟨k + 1, s, _, by omega, by go_num, rfl, H4.out, HI.out⟩
            case measure => simp [intOf]; omega
      by_cases h1 : kd = 1
      · subst h1
        have hI3 : Pg.Inv (s.acked n) (0) := HI.out.acked n
        have hO3 : Pg.Ok (s.acked n) R := HO.out.2.acked hnN.out
        obtain ⟨ta, tb, tc⟩ := hI3.tail (was := s.mt) hO3 (by rw [acked_mt_eq]; omega)
        have hcall := fun (w0 : Unit) => Own.Acked HO.out hnN.out
        generalize s.acked n = s3 at *
        have HI3 := Lib.hid hI3
        have HO3 := Lib.hid hO3
        have HC3 := Lib.hid hcall
        clear hcall
        rcases hO3.st with t3 | t3 | t3
        · skip
          clear hI3 hO3
          go_wp2_with (first | (go_at_call 30; refine HO.out.1.Match.mono ?_; rintro e w' ⟨rfl, rfl⟩) | (go_at_call 17; refine (number_any _ _).mono ?_; rintro e w' ⟨rfl, rfl⟩) | (go_at_call 17; refine (number_any _ _).mono ?_; rintro e w' ⟨rfl, rfl⟩) | (go_at_call 31; refine HO.out.1.Next.mono ?_; rintro e w' ⟨rfl, rfl⟩) | (go_at_call 22; refine (HC3.out ()).mono ?_; rintro e w3 ⟨rfl, O3⟩; obtain ⟨d0, d1, d2⟩ := hcell.out _ O3.keeps; have H3 := Lib.hid O3; clear O3) | (go_at_call 30; refine H3.out.Match.mono ?_; rintro e w' ⟨rfl, rfl⟩) | (go_at_call 31; refine H3.out.Next.mono ?_; rintro e w' ⟨rfl, rfl⟩) | (go_at_call 32; refine H3.out.State.mono ?_; rintro e w' ⟨rfl, rfl⟩) | (go_at_call 33; refine H3.out.May.mono ?_; rintro e w4 ⟨rfl, O4⟩; replace H3 := Lib.hid O4; clear O4))
          go_roundw
          case rel => exact ⟨k + 1, s3, _, by omega, by go_num, rfl, ⟨H3.out, HO3.out⟩, HI3.out⟩
          case measure => simp [intOf]; omega
        · skip
          clear hI3 hO3
          go_wp2_with (first | (go_at_call 30; refine HO.out.1.Match.mono ?_; rintro e w' ⟨rfl, rfl⟩) | (go_at_call 17; refine (number_any _ _).mono ?_; rintro e w' ⟨rfl, rfl⟩) | (go_at_call 17; refine (number_any _ _).mono ?_; rintro e w' ⟨rfl, rfl⟩) | (go_at_call 31; refine HO.out.1.Next.mono ?_; rintro e w' ⟨rfl, rfl⟩) | (go_at_call 22; refine (HC3.out ()).mono ?_; rintro e w3 ⟨rfl, O3⟩; obtain ⟨d0, d1, d2⟩ := hcell.out _ O3.keeps; have H3 := Lib.hid O3; clear O3) | (go_at_call 30; refine H3.out.Match.mono ?_; rintro e w' ⟨rfl, rfl⟩) | (go_at_call 31; refine H3.out.Next.mono ?_; rintro e w' ⟨rfl, rfl⟩) | (go_at_call 32; refine H3.out.State.mono ?_; rintro e w' ⟨rfl, rfl⟩) | (go_at_call 33; refine H3.out.May.mono ?_; rintro e w4 ⟨rfl, O4⟩; replace H3 := Lib.hid O4; clear O4))
          go_roundw
          case rel => exact ⟨k + 1, s3, _, by omega, by go_num, rfl, ⟨H3.out, HO3.out⟩, HI3.out⟩
          case measure => simp [intOf]; omega
        · have e2 := may2 t3
          clear hI3 hO3
          go_wp2_with (first | (go_at_call 30; refine HO.out.1.Match.mono ?_; rintro e w' ⟨rfl, rfl⟩) | (go_at_call 17; refine (number_any _ _).mono ?_; rintro e w' ⟨rfl, rfl⟩) | (go_at_call 17; refine (number_any _ _).mono ?_; rintro e w' ⟨rfl, rfl⟩) | (go_at_call 31; refine HO.out.1.Next.mono ?_; rintro e w' ⟨rfl, rfl⟩) | (go_at_call 22; refine (HC3.out ()).mono ?_; rintro e w3 ⟨rfl, O3⟩; obtain ⟨d0, d1, d2⟩ := hcell.out _ O3.keeps; have H3 := Lib.hid O3; clear O3) | (go_at_call 30; refine H3.out.Match.mono ?_; rintro e w' ⟨rfl, rfl⟩) | (go_at_call 31; refine H3.out.Next.mono ?_; rintro e w' ⟨rfl, rfl⟩) | (go_at_call 32; refine H3.out.State.mono ?_; rintro e w' ⟨rfl, rfl⟩) | (go_at_call 33; refine H3.out.May.mono ?_; rintro e w4 ⟨rfl, O4⟩; replace H3 := Lib.hid O4; clear O4))
          go_roundw
          case rel => exact ⟨k + 1, s3, _, by omega, by go_num, rfl, ⟨H3.out, HO3.out⟩, HI3.out⟩
          case measure => simp [intOf]; omega
      by_cases h2 : kd = 2
      · subst h2
        have hI3 : Pg.Inv (s.rejected n mm) (0) := HI.out.rejected n mm
        have hO3 : Pg.Ok (s.rejected n mm) R := HO.out.2.rejected hnN.out hmN.out
        obtain ⟨ta, tb, tc⟩ := hI3.tail (was := s.mt) hO3 (by rw [rejected_mt]; omega)
        have hcall := fun (w0 : World) (h0 : Own w w0 p s ∧ s.Ok R) => Own.Rejected (x := n) h0 hmN.out
        generalize s.rejected n mm = s3 at *
        have HI3 := Lib.hid hI3
        have HO3 := Lib.hid hO3
        have HC3 := Lib.hid hcall
        clear hcall
        rcases hO3.st with t3 | t3 | t3
        · skip
          clear hI3 hO3
          go_wp2_with (first | (go_at_call 30; refine HO.out.1.Match.mono ?_; rintro e w' ⟨rfl, rfl⟩) | (go_at_call 17; refine (number_any _ _).mono ?_; rintro e w' ⟨rfl, rfl⟩) | (go_at_call 31; refine HO.out.1.Next.mono ?_; rintro e w' ⟨rfl, rfl⟩))
          go_region_held3 (fun w' => w'.cell? ⟨b, off + k * 3 + 1, none⟩ = some (.int .i64 n) ∧ w'.cell? ⟨b, off + k * 3 + 2, none⟩ = some (.int .i64 mm)) (simp [go_sem, *]) (first | (go_at_call 24; refine (HC3.out _ (HO.out.imp_left Own.drew)).mono ?_; rintro e w3 ⟨rfl, O3⟩; obtain ⟨d0, d1, d2⟩ := hcell.out _ O3.keeps; have H3 := Lib.hid O3; clear O3))
          go_wp2_with (first | (go_at_call 30; refine H3.out.Match.mono ?_; rintro e w' ⟨rfl, rfl⟩) | (go_at_call 31; refine H3.out.Next.mono ?_; rintro e w' ⟨rfl, rfl⟩) | (go_at_call 32; refine H3.out.State.mono ?_; rintro e w' ⟨rfl, rfl⟩) | (go_at_call 33; refine H3.out.May.mono ?_; rintro e w4 ⟨rfl, O4⟩; replace H3 := Lib.hid O4; clear O4))
          go_roundw
          case rel => exact ⟨k + 1, s3, _, by omega, by go_num, rfl, ⟨H3.out, HO3.out⟩, HI3.out⟩
          case measure => simp [intOf]; omega
        · skip
          clear hI3 hO3
          go_wp2_with (first | (go_at_call 30; refine HO.out.1.Match.mono ?_; rintro e w' ⟨rfl, rfl⟩) | (go_at_call 17; refine (number_any _ _).mono ?_; rintro e w' ⟨rfl, rfl⟩) | (go_at_call 31; refine HO.out.1.Next.mono ?_; rintro e w' ⟨rfl, rfl⟩))
          go_region_held3 (fun w' => w'.cell? ⟨b, off + k * 3 + 1, none⟩ = some (.int .i64 n) ∧ w'.cell? ⟨b, off + k * 3 + 2, none⟩ = some (.int .i64 mm)) (simp [go_sem, *]) (first | (go_at_call 24; refine (HC3.out _ (HO.out.imp_left Own.drew)).mono ?_; rintro e w3 ⟨rfl, O3⟩; obtain ⟨d0, d1, d2⟩ := hcell.out _ O3.keeps; have H3 := Lib.hid O3; clear O3))
          go_wp2_with (first | (go_at_call 30; refine H3.out.Match.mono ?_; rintro e w' ⟨rfl, rfl⟩) | (go_at_call 31; refine H3.out.Next.mono ?_; rintro e w' ⟨rfl, rfl⟩) | (go_at_call 32; refine H3.out.State.mono ?_; rintro e w' ⟨rfl, rfl⟩) | (go_at_call 33; refine H3.out.May.mono ?_; rintro e w4 ⟨rfl, O4⟩; replace H3 := Lib.hid O4; clear O4))
          go_roundw
          case rel => exact ⟨k + 1, s3, _, by omega, by go_num, rfl, ⟨H3.out, HO3.out⟩, HI3.out⟩
          case measure => simp [intOf]; omega
        · have e2 := may2 t3
          clear hI3 hO3
          go_wp2_with (first | (go_at_call 30; refine HO.out.1.Match.mono ?_; rintro e w' ⟨rfl, rfl⟩) | (go_at_call 17; refine (number_any _ _).mono ?_; rintro e w' ⟨rfl, rfl⟩) | (go_at_call 31; refine HO.out.1.Next.mono ?_; rintro e w' ⟨rfl, rfl⟩))
          go_region_held3 (fun w' => w'.cell? ⟨b, off + k * 3 + 1, none⟩ = some (.int .i64 n) ∧ w'.cell? ⟨b, off + k * 3 + 2, none⟩ = some (.int .i64 mm)) (simp [go_sem, *]) (first | (go_at_call 24; refine (HC3.out _ (HO.out.imp_left Own.drew)).mono ?_; rintro e w3 ⟨rfl, O3⟩; obtain ⟨d0, d1, d2⟩ := hcell.out _ O3.keeps; have H3 := Lib.hid O3; clear O3))
          go_wp2_with (first | (go_at_call 30; refine H3.out.Match.mono ?_; rintro e w' ⟨rfl, rfl⟩) | (go_at_call 31; refine H3.out.Next.mono ?_; rintro e w' ⟨rfl, rfl⟩) | (go_at_call 32; refine H3.out.State.mono ?_; rintro e w' ⟨rfl, rfl⟩) | (go_at_call 33; refine H3.out.May.mono ?_; rintro e w4 ⟨rfl, O4⟩; replace H3 := Lib.hid O4; clear O4))
          go_roundw
          case rel => exact ⟨k + 1, s3, _, by omega, by go_num, rfl, ⟨H3.out, HO3.out⟩, HI3.out⟩
          case measure => simp [intOf]; omega
      by_cases h3 : kd = 3
      · subst h3
        have hI3 : Pg.Inv (s.beat) (0) := HI.out.beat
        have hO3 : Pg.Ok (s.beat) R := HO.out.2.beat
        obtain ⟨ta, tb, tc⟩ := hI3.tail (was := s.mt) hO3 (by rw [beat_mt]; omega)
        have hcall := fun (w0 : Unit) => Own.Beat HO.out
        generalize s.beat = s3 at *
        have HI3 := Lib.hid hI3
        have HO3 := Lib.hid hO3
        have HC3 := Lib.hid hcall
        clear hcall
        rcases hO3.st with t3 | t3 | t3
        · skip
          clear hI3 hO3
          go_wp2_with (first | (go_at_call 30; refine HO.out.1.Match.mono ?_; rintro e w' ⟨rfl, rfl⟩) | (go_at_call 17; refine (number_any _ _).mono ?_; rintro e w' ⟨rfl, rfl⟩) | (go_at_call 17; refine (number_any _ _).mono ?_; rintro e w' ⟨rfl, rfl⟩) | (go_at_call 31; refine HO.out.1.Next.mono ?_; rintro e w' ⟨rfl, rfl⟩) | (go_at_call 26; refine (HC3.out ()).mono ?_; rintro e w3 ⟨rfl, O3⟩; obtain ⟨d0, d1, d2⟩ := hcell.out _ O3.keeps; have H3 := Lib.hid O3; clear O3) | (go_at_call 30; refine H3.out.Match.mono ?_; rintro e w' ⟨rfl, rfl⟩) | (go_at_call 31; refine H3.out.Next.mono ?_; rintro e w' ⟨rfl, rfl⟩) | (go_at_call 32; refine H3.out.State.mono ?_; rintro e w' ⟨rfl, rfl⟩) | (go_at_call 33; refine H3.out.May.mono ?_; rintro e w4 ⟨rfl, O4⟩; replace H3 := Lib.hid O4; clear O4))
          go_roundw
          case rel => exact ⟨k + 1, s3, _, by omega, by go_num, rfl, ⟨H3.out, HO3.out⟩, HI3.out⟩
          case measure => simp [intOf]; omega
        · skip
          clear hI3 hO3
          go_wp2_with (first | (go_at_call 30; refine HO.out.1.Match.mono ?_; rintro e w' ⟨rfl, rfl⟩) | (go_at_call 17; refine (number_any _ _).mono ?_; rintro e w' ⟨rfl, rfl⟩) | (go_at_call 17; refine (number_any _ _).mono ?_; rintro e w' ⟨rfl, rfl⟩) | (go_at_call 31; refine HO.out.1.Next.mono ?_; rintro e w' ⟨rfl, rfl⟩) | (go_at_call 26; refine (HC3.out ()).mono ?_; rintro e w3 ⟨rfl, O3⟩; obtain ⟨d0, d1, d2⟩ := hcell.out _ O3.keeps; have H3 := Lib.hid O3; clear O3) | (go_at_call 30; refine H3.out.Match.mono ?_; rintro e w' ⟨rfl, rfl⟩) | (go_at_call 31; refine H3.out.Next.mono ?_; rintro e w' ⟨rfl, rfl⟩) | (go_at_call 32; refine H3.out.State.mono ?_; rintro e w' ⟨rfl, rfl⟩) | (go_at_call 33; refine H3.out.May.mono ?_; rintro e w4 ⟨rfl, O4⟩; replace H3 := Lib.hid O4; clear O4))
          go_roundw
          case rel => exact ⟨k + 1, s3, _, by omega, by go_num, rfl, ⟨H3.out, HO3.out⟩, HI3.out⟩
          case measure => simp [intOf]; omega
        · have e2 := may2 t3
          clear hI3 hO3
          go_wp2_with (first | (go_at_call 30; refine HO.out.1.Match.mono ?_; rintro e w' ⟨rfl, rfl⟩) | (go_at_call 17; refine (number_any _ _).mono ?_; rintro e w' ⟨rfl, rfl⟩) | (go_at_call 17; refine (number_any _ _).mono ?_; rintro e w' ⟨rfl, rfl⟩) | (go_at_call 31; refine HO.out.1.Next.mono ?_; rintro e w' ⟨rfl, rfl⟩) | (go_at_call 26; refine (HC3.out ()).mono ?_; rintro e w3 ⟨rfl, O3⟩; obtain ⟨d0, d1, d2⟩ := hcell.out _ O3.keeps; have H3 := Lib.hid O3; clear O3) | (go_at_call 30; refine H3.out.Match.mono ?_; rintro e w' ⟨rfl, rfl⟩) | (go_at_call 31; refine H3.out.Next.mono ?_; rintro e w' ⟨rfl, rfl⟩) | (go_at_call 32; refine H3.out.State.mono ?_; rintro e w' ⟨rfl, rfl⟩) | (go_at_call 33; refine H3.out.May.mono ?_; rintro e w4 ⟨rfl, O4⟩; replace H3 := Lib.hid O4; clear O4))
          go_roundw
          case rel => exact ⟨k + 1, s3, _, by omega, by go_num, rfl, ⟨H3.out, HO3.out⟩, HI3.out⟩
          case measure => simp [intOf]; omega
      have hb0 : (kd == 0) = false := by simpa using h0
      have hb1 : (kd == 1) = false := by simpa using h1
      have hb2 : (kd == 2) = false := by simpa using h2
      have hb3 : (kd == 3) = false := by simpa using h3
      clear h0 h1 h2 h3
      have hI3 : Pg.Inv (s.snapped n) (0) := HI.out.snapped n
      have hO3 : Pg.Ok (s.snapped n) R := HO.out.2.snapped n
      obtain ⟨ta, tb, tc⟩ := hI3.tail (was := s.mt) hO3 (by rw [snapped_mt]; omega)
      have hcall := fun (w0 : Unit) => Own.Snap HO.out n
      generalize s.snapped n = s3 at *
      have HI3 := Lib.hid hI3
      have HO3 := Lib.hid hO3
      have HC3 := Lib.hid hcall
      clear hcall
      rcases hO3.st with t3 | t3 | t3
      · skip
        clear hI3 hO3
        go_wp2_with (first | (go_at_call 30; refine HO.out.1.Match.mono ?_; rintro e w' ⟨rfl, rfl⟩) | (go_at_call 17; refine (number_any _ _).mono ?_; rintro e w' ⟨rfl, rfl⟩) | (go_at_call 17; refine (number_any _ _).mono ?_; rintro e w' ⟨rfl, rfl⟩) | (go_at_call 31; refine HO.out.1.Next.mono ?_; rintro e w' ⟨rfl, rfl⟩) | (go_at_call 28; refine (HC3.out ()).mono ?_; rintro e w3 ⟨rfl, O3⟩; obtain ⟨d0, d1, d2⟩ := hcell.out _ O3.keeps; have H3 := Lib.hid O3; clear O3) | (go_at_call 30; refine H3.out.Match.mono ?_; rintro e w' ⟨rfl, rfl⟩) | (go_at_call 31; refine H3.out.Next.mono ?_; rintro e w' ⟨rfl, rfl⟩) | (go_at_call 32; refine H3.out.State.mono ?_; rintro e w' ⟨rfl, rfl⟩) | (go_at_call 33; refine H3.out.May.mono ?_; rintro e w4 ⟨rfl, O4⟩; replace H3 := Lib.hid O4; clear O4))
        go_roundw
        case rel => exact ⟨k + 1, s3, _, by omega, by go_num, rfl, ⟨H3.out, HO3.out⟩, HI3.out⟩
        case measure => simp [intOf]; omega
      · skip
        clear hI3 hO3
        go_wp2_with (first | (go_at_call 30; refine HO.out.1.Match.mono ?_; rintro e w' ⟨rfl, rfl⟩) | (go_at_call 17; refine (number_any _ _).mono ?_; rintro e w' ⟨rfl, rfl⟩) | (go_at_call 17; refine (number_any _ _).mono ?_; rintro e w' ⟨rfl, rfl⟩) | (go_at_call 31; refine HO.out.1.Next.mono ?_; rintro e w' ⟨rfl, rfl⟩) | (go_at_call 28; refine (HC3.out ()).mono ?_; rintro e w3 ⟨rfl, O3⟩; obtain ⟨d0, d1, d2⟩ := hcell.out _ O3.keeps; have H3 := Lib.hid O3; clear O3) | (go_at_call 30; refine H3.out.Match.mono ?_; rintro e w' ⟨rfl, rfl⟩) | (go_at_call 31; refine H3.out.Next.mono ?_; rintro e w' ⟨rfl, rfl⟩) | (go_at_call 32; refine H3.out.State.mono ?_; rintro e w' ⟨rfl, rfl⟩) | (go_at_call 33; refine H3.out.May.mono ?_; rintro e w4 ⟨rfl, O4⟩; replace H3 := Lib.hid O4; clear O4))
        go_roundw
        case rel => exact ⟨k + 1, s3, _, by omega, by go_num, rfl, ⟨H3.out, HO3.out⟩, HI3.out⟩
        case measure => simp [intOf]; omega
      · have e2 := may2 t3
        clear hI3 hO3
        go_wp2_with (first | (go_at_call 30; refine HO.out.1.Match.mono ?_; rintro e w' ⟨rfl, rfl⟩) | (go_at_call 17; refine (number_any _ _).mono ?_; rintro e w' ⟨rfl, rfl⟩) | (go_at_call 17; refine (number_any _ _).mono ?_; rintro e w' ⟨rfl, rfl⟩) | (go_at_call 31; refine HO.out.1.Next.mono ?_; rintro e w' ⟨rfl, rfl⟩) | (go_at_call 28; refine (HC3.out ()).mono ?_; rintro e w3 ⟨rfl, O3⟩; obtain ⟨d0, d1, d2⟩ := hcell.out _ O3.keeps; have H3 := Lib.hid O3; clear O3) | (go_at_call 30; refine H3.out.Match.mono ?_; rintro e w' ⟨rfl, rfl⟩) | (go_at_call 31; refine H3.out.Next.mono ?_; rintro e w' ⟨rfl, rfl⟩) | (go_at_call 32; refine H3.out.State.mono ?_; rintro e w' ⟨rfl, rfl⟩) | (go_at_call 33; refine H3.out.May.mono ?_; rintro e w4 ⟨rfl, O4⟩; replace H3 := Lib.hid O4; clear O4))
        go_roundw
        case rel => exact ⟨k + 1, s3, _, by omega, by go_num, rfl, ⟨H3.out, HO3.out⟩, HI3.out⟩
        case measure => simp [intOf]; omega
    · obtain rfl : k = ds.length := by omega
      have hKr := Lib.hid HO.out.1.keeps
      go_wp2_with fail
      go_ret
      exact ⟨rfl, hKr.out⟩

set_option maxRecDepth 100000 in
set_option maxHeartbeats 6000000 in
theorem TrackNext_none (w : World) (next room : Int) (a : Option Addr) (cap : Nat)
    (hr : -9223372036854775808 ≤ room ∧ room ≤ 9223372036854775807) :
    Calls Try.prog 6 #[.int .i64 next, .int .i64 room, .slice a 0 cap] w fun e w' => e = .returned (.bool true) ∧ Keeps [] w w' := by
  obtain ⟨m, hm, hm1, hm2⟩ := mod_form room 64 (by omega)
  obtain ⟨hr1, hr2⟩ := hr
  have hR : holdsB (m % 64 + 1) = true ∧ 1 ≤ m % 64 + 1 ∧ m % 64 + 1 ≤ 64 := ⟨by simp [holdsB]; omega, by omega, by omega⟩
  go_enter Try.func6, Try.ntmps6
  go_wp2_with (go_at_call 11; refine (first_any _).mono ?_; rintro e w1 ⟨rfl, k1⟩)
  generalize m % 64 + 1 = R at *
  obtain ⟨hR0, hR1, hR2⟩ := hR
  refine (NewProgress_yes next R w1 hR0).mono ?_
  rintro e w2 ⟨p, rfl, F, a1, a2, a3⟩
  have kk := k1.trans a2 (by simp)
  have O2 : Own w w2 p (Pg.new next R) := ⟨F, a1, kk, fun x hx => by have := k1.size; have := a3 x hx; omega⟩
  clear a1 a2 a3 hm hm1 hm2 hR0
  have KK := Lib.hid kk
  have H2 := Lib.hid O2
  clear kk O2 k1
  by_cases hn : 4611686018427387904 < next
  · go_wp2_with fail
    go_ret
    exact ⟨rfl, KK.out⟩
  go_wp2_with fail
  refine wp_loop_once ?_
  go_wp2_with fail
  go_ret
  exact ⟨rfl, KK.out⟩

theorem TrackNext_walk (w : World) (next room : Int) (v : Value) (ds : List Dd) (_hn : -9223372036854775808 ≤ next ∧ next ≤ 9223372036854775807) (hr : -9223372036854775808 ≤ room ∧ room ≤ 9223372036854775807) (hd : DeedsAt w v ds) :
    Calls Try.prog 6 #[.int .i64 next, .int .i64 room, v] w fun e w' => e = .returned (.bool true) ∧ Keeps [] w w' := by
  obtain ⟨a, cap, rfl, hlen, rfl | ⟨b, off, rfl, hc⟩⟩ := hd
  · exact TrackNext_none w next room a cap hr
  · exact TrackNext_some w next room ds b off cap hlen hc hr

end Go.Proofs.Ytniceappkpiekaa
