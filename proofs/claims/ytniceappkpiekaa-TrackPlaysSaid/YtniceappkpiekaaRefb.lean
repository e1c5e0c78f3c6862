/-
  synodref9.Progress: Rejected, Beat, free.
-/
import Derived.Test.YtniceappkpiekaaRef
namespace Go.Proofs.Ytniceappkpiekaa
open Go.RowKit

set_option maxHeartbeats 800000 in
theorem RefRejected_any (w : World) (r : Nat) (s : Pg) (G : List Nat) (index hint : Int) (h : RgAt w r s G) (hm : NumOk s.mt) (hn : NumOk s.nx) (hh : NumOk hint) :
    Calls Try.prog 25 #[.pointer (some ⟨r, 0, none⟩), .int .i64 index, .int .i64 hint] w fun e w' => e = .returned (.bool (s.rejects index)) ∧ RgTo w r G (s.rejected index hint) w' := by
  obtain ⟨hm1, hm2⟩ := hm
  obtain ⟨hn1, hn2⟩ := hn
  obtain ⟨hh1, hh2⟩ := hh
  obtain ⟨a, cap, -, c0, c1, c2, c3, c4, -, -, fr⟩ := h.cells
  have f1 := fr 1
  have f2 := fr 2
  have f3 := fr 3
  have f4 := fr 4
  clear fr
  by_cases h1 : s.st = 1
  · rw [h1] at c2
    by_cases hlt : s.mt < index
    · have e1 : s.rejects index = true := by rw [Pg.rejects, if_neg (by omega), if_pos h1, decide_eq_true hlt]
      have e2 : s.rejected index hint = { s with st := 0, nx := s.mt + 1, xs := [], pz := false } := by rw [Pg.rejected, if_neg (by omega), if_pos h1, if_pos hlt]
      have ht := ((((RgTo.refl h).store (s' := { s with st := 0 }) 2 (.int .i64 0) (fun _ => rfl) rfl).store (s' := { s with st := 0, pz := false }) 3 (.bool false) (fun _ => rfl) rfl).cleared).store (s' := s.rejected index hint) 1 (.int .i64 (s.mt + 1)) (fun _ => by rw [e2]; rfl) (by rw [e2])
      replace ht := Lib.hid ht
      rw [e1]
      clear e1 e2 h1
      go_enter Try.func25, Try.ntmps25
      go_wp2
      go_ret
      exact ⟨rfl, ht.out⟩
    · have e1 : s.rejects index = false := by rw [Pg.rejects, if_neg (by omega), if_pos h1, decide_eq_false hlt]
      have e2 : s.rejected index hint = s := by rw [Pg.rejected, if_neg (by omega), if_pos h1, if_neg hlt]
      rw [e1, e2]
      clear e1 e2 h1
      go_enter Try.func25, Try.ntmps25
      go_wp2
      go_ret
      exact ⟨rfl, RgTo.refl h⟩
  · have hb1 : (s.st == 1) = false := by simpa using h1
    by_cases h0 : s.st = 0
    · rw [h0] at c2
      by_cases hx : index = s.nx - 1
      · have e1 : s.rejects index = true := by rw [Pg.rejects, if_pos h0, decide_eq_true hx]
        have e2 : s.rejected index hint = { s with nx := max (min index (hint + 1)) (s.mt + 1), pz := false } := by rw [Pg.rejected, if_pos h0, if_pos hx]
        have ht := (((RgTo.refl h).store (s' := { s with nx := max (min index (hint + 1)) (s.mt + 1) }) 1 (.int .i64 (max (min index (hint + 1)) (s.mt + 1))) (fun _ => rfl) rfl).store (s' := s.rejected index hint) 3 (.bool false) (fun _ => by rw [e2]; rfl) (by rw [e2]))
        replace ht := Lib.hid ht
        have hbx : (index != s.nx - 1) = false := by rw [hx]; simp
        rw [e1]
        clear e1 e2 h1 h0 hx
        go_enter Try.func25, Try.ntmps25
        go_wp2
        go_ret
        exact ⟨rfl, ht.out⟩
      · have e1 : s.rejects index = false := by rw [Pg.rejects, if_pos h0, decide_eq_false hx]
        have e2 : s.rejected index hint = s := by rw [Pg.rejected, if_pos h0, if_neg hx]
        have hbx : (index != s.nx - 1) = true := by simpa using hx
        rw [e1, e2]
        clear e1 e2 h1 h0 hx
        go_enter Try.func25, Try.ntmps25
        go_wp2
        go_ret
        exact ⟨rfl, RgTo.refl h⟩
    · have hb0 : (s.st != 0) = true := by simpa using h0
      have e1 : s.rejects index = false := by rw [Pg.rejects, if_neg h0, if_neg h1]
      have e2 : s.rejected index hint = s := by rw [Pg.rejected, if_neg h0, if_neg h1]
      rw [e1, e2]
      clear e1 e2 h1 h0
      go_enter Try.func25, Try.ntmps25
      go_wp2
      go_ret
      exact ⟨rfl, RgTo.refl h⟩

/-- the first number of a row goes: as the slice [1:] of it. -/
theorem Ints.tail {w : World} {a : Option Addr} {n cap : Nat} {x : Int} {xs : List Int} {D : List Nat} (h : Ints w (.slice a n cap) (x :: xs) D) :
    ∃ d off, a = some ⟨d, off, none⟩ ∧ n = xs.length + 1 ∧ 1 ≤ cap ∧ n ≤ cap ∧ cap ≤ maxLen ∧ D = [d] ∧ w.cell? ⟨d, off, none⟩ = some (.int .i64 x) ∧
      (cap ≠ 1 → Ints w (.slice (some ⟨d, off + 1, none⟩) xs.length (cap - 1)) xs D) ∧ (cap = 1 → Ints w (.slice (some ⟨d, off, none⟩) xs.length (cap - 1)) xs D) := by
  obtain ⟨a', cap', hv, h1, h2, h3, h4⟩ := h
  simp only [Value.slice.injEq] at hv
  obtain ⟨rfl, rfl, rfl⟩ := hv
  simp only [List.length_cons] at h1
  rcases h4 with ⟨_, h4, _⟩ | ⟨d, off, arr, rfl, rfl, e3, e4, e5⟩
  · omega
  · refine ⟨d, off, rfl, rfl, by omega, h1, h2, rfl, ?_, fun _ => ?_, fun hc => ?_⟩
    · have := e5 0 (by simp)
      rw [e3.c]
      simpa [intsV] using this
    · refine ⟨_, cap - 1, rfl, by omega, by omega, by simp [intsV], .inr ⟨d, off + 1, arr, rfl, rfl, e3, by omega, fun i hi => ?_⟩⟩
      have := e5 (i + 1) (by simp at hi ⊢; omega)
      rw [show off + 1 + i = off + (i + 1) by omega, this]
      simp [intsV]
    · refine ⟨_, cap - 1, rfl, by omega, by omega, by simp [intsV], .inr ⟨d, off, arr, rfl, rfl, e3, by omega, fun i hi => ?_⟩⟩
      simp at hi
      omega

/-- The window's slice of a progress of the document loses its first number. -/
theorem RgTo.tail {w w' : World} {r : Nat} {s : Pg} {G : List Nat} {x : Int} {xs : List Int} (h : RgTo w r G s w') (hx : s.xs = x :: xs) :
    ∃ d off cap, w'.cell? ⟨r, 4, none⟩ = some (.slice (some ⟨d, off, none⟩) (xs.length + 1) cap) ∧ w'.cell? ⟨d, off, none⟩ = some (.int .i64 x) ∧ xs.length + 1 ≤ cap ∧ cap ≤ maxLen ∧ w'.frozen? ⟨r, 4, none⟩ = false ∧
      RgTo w r G { s with xs := xs } (w'.setCell ⟨r, 4, none⟩ (.slice (if cap = 1 then some ⟨d, off, none⟩ else some ⟨d, off + 1, none⟩) xs.length (cap - 1))) := by
  obtain ⟨G', ⟨v, D, rfl, hb, hw, h1⟩, k, h3⟩ := h
  have hw' := hw
  obtain ⟨a, n, cap, rfl⟩ := Row.shape' hw
  rw [hx] at hw'
  obtain ⟨d, off, rfl, rfl, h4, h5, h6, rfl, hc, t1, t2⟩ := hw'.tail
  refine ⟨d, off, cap, hb.c 4, hc, h5, h6, hb.fr 4, _, ⟨_, [d], rfl, hb.setCell 4 _, ?_, h1⟩, k.setCell (h3 r (by simp)) _, h3⟩
  by_cases h : cap = 1
  · rw [if_pos h]
    exact Row.setOther (t2 h) _ _ h1
  · rw [if_neg h]
    exact Row.setOther (t1 h) _ _ h1

end Go.Proofs.Ytniceappkpiekaa
