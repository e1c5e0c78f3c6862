/-
  track.Progress: Sent, Snap.
-/
import Derived.Test.YtniceappkpiekaaDeeds
namespace Go.Proofs.Ytniceappkpiekaa
open Go.RowKit

def Pg.sent (s : Pg) (last : Int) : Pg :=
  if s.st = 0 then { s with pz := true }
  else if s.st = 1 then (if s.nx ≤ last ∧ mayAdd s.room s.xs last = true then { s with xs := s.xs ++ [last], nx := last + 1 } else s)
  else s
def Pg.snapped (s : Pg) (index : Int) : Pg := { s with st := 2, sn := index, xs := [] }

theorem PgTo.added {w w' : World} {p q : Nat} {D : List Nat} {s : Pg} {xs' : List Int} (h : PgAt w p s (p :: q :: D)) (hf : Added w q s.room xs' D w') : PgTo w p (p :: q :: D) { s with xs := xs' } w' := by
  have hlt := h.lt
  obtain ⟨q', D0, hF, hb, hw, h1, h2⟩ := h
  obtain ⟨-, rfl, rfl⟩ : p = p ∧ q = q' ∧ D = D0 := by simpa using hF
  obtain ⟨D', f1, f2, f3⟩ := hf
  refine ⟨_, ⟨q, D', rfl, f2.blk hb (by simpa using ⟨h1, h2⟩), f1, h1, fun hx => ?_⟩, f2.mono (G := p :: q :: D) (fun x hx _ => by simp only [List.mem_cons] at hx ⊢; exact .inr hx), fun x hx => ?_⟩
  · rcases f3 p hx with h | h
    · exact h2 h
    · have := hlt p (by simp); omega
  · simp only [List.mem_cons] at hx ⊢
    rcases hx with h | h | h
    · exact .inl (.inl h)
    · exact .inl (.inr (.inl h))
    · rcases f3 x h with h | h
      · exact .inl (.inr (.inr h))
      · exact .inr h

set_option maxHeartbeats 400000 in
theorem Snap_any (w : World) (p : Nat) (s : Pg) (F : List Nat) (index : Int) (h : PgAt w p s F) :
    Calls Try.prog 28 #[.pointer (some ⟨p, 0, none⟩), .int .i64 index] w fun e w' => e = .returned (.tuple #[]) ∧ PgTo w p F (s.snapped index) w' := by
  have ht := ((PgTo.refl h).store (s' := { s with st := 2 }) 3 (.int .i64 2) (fun _ => rfl) rfl rfl).store (s' := { s with st := 2, sn := index }) 4 (.int .i64 index) (fun _ => rfl) rfl rfl
  have HT := Lib.hid ht
  obtain ⟨q, D, rfl, hb, ⟨v, hw1, hw2, hw3⟩, h1, h2⟩ := h
  have c0 : w.cell? ⟨p, 0, none⟩ = some (.pointer (some ⟨q, 0, none⟩)) := hb.c 0
  have c3 : w.cell? ⟨p, 3, none⟩ = some (.int .i64 s.st) := hb.c 3
  have c4 : w.cell? ⟨p, 4, none⟩ = some (.int .i64 s.sn) := hb.c 4
  have f3 : w.frozen? ⟨p, 3, none⟩ = false := hb.fr 3
  have f4 : w.frozen? ⟨p, 4, none⟩ = false := hb.fr 4
  have HC := Lib.hid (Clear_any ((w.setCell ⟨p, 3, none⟩ (.int .i64 2)).setCell ⟨p, 4, none⟩ (.int .i64 index)) q s.room v ((hw1.setOther _ _ h1).setOther _ _ h1))
  clear ht hb hw1
  go_enter Try.func28, Try.ntmps28
  go_wp2_with (go_at_call 52; refine HC.out.mono ?_; rintro e w' ⟨rfl, rfl⟩)
  go_end0
  refine ⟨rfl, HT.out.cleared ?_⟩
  simp [World.cell?_setCell_other, c0]

set_option maxHeartbeats 800000 in
theorem Sent_any (w : World) (p : Nat) (s : Pg) (F : List Nat) (last : Int) (h : PgAt w p s F) (hl : NumOk last) (hr : s.room ≤ 64) :
    Calls Try.prog 20 #[.pointer (some ⟨p, 0, none⟩), .int .i64 last] w fun e w' => e = .returned (.tuple #[]) ∧ PgTo w p F (s.sent last) w' := by
  obtain ⟨hl1, hl2⟩ := hl
  obtain ⟨q, p0, -, p2, p3, -, p5, fr, D, rfl, hw, hpq, hpD⟩ := h.cells
  have f5 := fr 5
  have f2 := fr 2
  clear fr
  by_cases h0 : s.st = 0
  · have hs : s.sent last = { s with pz := true } := by rw [Pg.sent, if_pos h0]
    rw [hs]
    have ht := Lib.hid ((PgTo.refl h).store (s' := { s with pz := true }) 5 (.bool true) (fun _ => rfl) rfl rfl)
    rw [h0] at p3
    clear h0 hs
    go_enter Try.func20, Try.ntmps20
    go_wp2_with fail
    go_end0
    exact ⟨rfl, ht.out⟩
  · by_cases h1 : s.st = 1
    · rw [h1] at p3
      by_cases hn : s.nx ≤ last
      · by_cases hm : mayAdd s.room s.xs last = true
        · have hs : s.sent last = { s with xs := s.xs ++ [last], nx := last + 1 } := by rw [Pg.sent, if_neg h0, if_pos h1, if_pos ⟨hn, hm⟩]
          rw [hs]
          have hfull : decide (s.room ≤ s.xs.length) = false := by
            simp only [mayAdd, Bool.and_eq_true, Bool.not_eq_true'] at hm
            exact hm.1
          have hup : s.xs = [] ∨ (0 < s.xs.length ∧ s.xs.getD (s.xs.length - 1) 0 < last) := by
            simp only [mayAdd, Bool.and_eq_true, Bool.or_eq_true, List.isEmpty_iff, decide_eq_true_eq] at hm
            rcases hm.2 with h | h
            · exact .inl h
            · by_cases he : s.xs = []
              · exact .inl he
              · exact .inr ⟨List.length_pos_iff.2 he, h⟩
          have HA := Lib.hid (Add_yes w q s.room s.xs D last hw hfull hr hup)
          have HK : ∀ w', Added w q s.room (s.xs ++ [last]) D w' → (∃ v, w'.cell? ⟨p, 2, none⟩ = some v) ∧ w'.frozen? ⟨p, 2, none⟩ = false ∧ PgTo w p (p :: q :: D) { s with xs := s.xs ++ [last], nx := last + 1 } (w'.setCell ⟨p, 2, none⟩ (.int .i64 (last + 1))) := fun w' ha => by
            have r := PgTo.added h ha
            have r' := r
            obtain ⟨F1, a1, -⟩ := r
            obtain ⟨_, -, -, a2, -, -, -, fr, -⟩ := a1.cells
            exact ⟨⟨_, a2⟩, fr 2, r'.store 2 (.int .i64 (last + 1)) (fun _ => rfl) rfl rfl⟩
          replace HK := Lib.hid HK
          clear hs hm hfull hup h0 h1
          go_enter Try.func20, Try.ntmps20
          go_wp2_with (go_at_call 48; refine HA.out.mono ?_; rintro e w' ⟨rfl, ha⟩; obtain ⟨⟨v2, k2⟩, kf, kr⟩ := HK.out _ ha; clear ha)
          go_end0
          exact ⟨rfl, kr⟩
        · have hs : s.sent last = s := by rw [Pg.sent, if_neg h0, if_pos h1, if_neg (fun hh => hm hh.2)]
          rw [hs]
          have HA : Calls Try.prog 48 #[.pointer (some ⟨q, 0, none⟩), .int .i64 last] w fun e w' => e = .returned (.bool false) ∧ ∃ n, w' = w.drewN n := by
            by_cases hfull : decide (s.room ≤ s.xs.length) = true
            · exact Add_full w q s.room s.xs D last hw hfull
            · have hfull' : decide (s.room ≤ s.xs.length) = false := by simpa using hfull
              have hm' : mayAdd s.room s.xs last = false := by simpa using hm
              simp only [mayAdd, hfull', Bool.not_false, Bool.true_and, Bool.or_eq_false_iff, List.isEmpty_eq_false_iff, decide_eq_false_iff_not] at hm'
              exact Add_low w q s.room s.xs D last hw hfull' (List.length_pos_iff.2 hm'.1) (by have := hm'.2; omega)
          replace HA := Lib.hid HA
          have HP := Lib.hid h
          clear hs hm h0 h1
          go_enter Try.func20, Try.ntmps20
          go_wp2_with (go_at_call 48; refine HA.out.mono ?_; rintro e w' ⟨rfl, k, rfl⟩)
          go_end0
          exact ⟨rfl, (PgTo.refl HP.out).drewN _⟩
      · have hs : s.sent last = s := by rw [Pg.sent, if_neg h0, if_pos h1, if_neg (fun hh => hn hh.1)]
        rw [hs]
        clear hs h0 h1
        go_enter Try.func20, Try.ntmps20
        go_wp2_with fail
        go_end0
        exact ⟨rfl, PgTo.refl h⟩
    · have hs : s.sent last = s := by rw [Pg.sent, if_neg h0, if_neg h1]
      rw [hs]
      have hb0 : (s.st == 0) = false := by simpa using h0
      have hb1 : (s.st == 1) = false := by simpa using h1
      clear hs h0 h1
      go_enter Try.func20, Try.ntmps20
      go_wp2_with fail
      go_end0
      exact ⟨rfl, PgTo.refl h⟩

end Go.Proofs.Ytniceappkpiekaa
