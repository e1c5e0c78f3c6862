/-
  track.Progress: Rejected, Beat: by the table.
-/
import Derived.Test.YtniceappkpiekaaAcked
namespace Go.Proofs.Ytniceappkpiekaa
open Go.RowKit

set_option maxHeartbeats 800000 in
theorem Rejected_any (w : World) (p : Nat) (s : Pg) (F : List Nat) (index hint : Int) (h : PgAt w p s F) (hm : NumOk s.mt) (hn : NumOk s.nx) (hh : NumOk hint) (hst : s.st = 0 ∨ s.st = 1 ∨ s.st = 2) :
    Calls Try.prog 24 #[.pointer (some ⟨p, 0, none⟩), .int .i64 index, .int .i64 hint] w fun e w' => e = .returned (.bool (s.rejects index)) ∧ PgTo w p F (s.rejected index hint) w' := by
  have p3 := (PgTo.refl h).facts3
  have HT := Lib.hid (PgTo.tabled (PgTo.refl h))
  rcases hst with h0 | h1 | h2
  · have e1 : s.rejects index = decide (index = s.nx - 1) := by rw [Pg.rejects, if_pos h0]
    have e2 : s.rejected index hint = (if index = s.nx - 1 then { s with nx := max (min index (hint + 1)) (s.mt + 1), pz := false } else s) := by rw [Pg.rejected, if_pos h0]
    rw [h0] at p3
    have HC := Lib.hid (fun o2 o3 => by
      obtain ⟨F', a, c, k⟩ := HT.out o2 o3
      exact (rejected3_any _ _ p s F' index hint a c hm hn hh).mono fun e w' ⟨h1, h2⟩ => (show e = Ending.returned (.bool (s.rejects index)) ∧ PgTo w p F (s.rejected index hint) w' from ⟨by rw [e1]; exact h1, by rw [e2]; exact k _ _ h2⟩))
    clear e1 e2 h0
    go_enter Try.func24, Try.ntmps24
    go_wp2_with (first | (go_at_call 50; refine (table_any _ _).mono ?_; rintro e w' ⟨rfl, rfl⟩) | (go_at_call 61; refine (HC.out _ _).mono ?_; rintro e w' ⟨rfl, r1⟩))
    go_ret
    exact ⟨rfl, r1⟩
  · have e1 : s.rejects index = decide (s.mt < index) := by rw [Pg.rejects, if_neg (by omega), if_pos h1]
    have e2 : s.rejected index hint = (if s.mt < index then { s with st := 0, nx := s.mt + 1, xs := [], pz := false } else s) := by rw [Pg.rejected, if_neg (by omega), if_pos h1]
    rw [h1] at p3
    have HC := Lib.hid (fun o2 o3 => by
      obtain ⟨F', a, c, k⟩ := HT.out o2 o3
      exact (rejected5_any _ _ p s F' index hint a c hm).mono fun e w' ⟨h1, h2⟩ => (show e = Ending.returned (.bool (s.rejects index)) ∧ PgTo w p F (s.rejected index hint) w' from ⟨by rw [e1]; exact h1, by rw [e2]; exact k _ _ h2⟩))
    clear e1 e2 h1
    go_enter Try.func24, Try.ntmps24
    go_wp2_with (first | (go_at_call 50; refine (table_any _ _).mono ?_; rintro e w' ⟨rfl, rfl⟩) | (go_at_call 63; refine (HC.out _ _).mono ?_; rintro e w' ⟨rfl, r1⟩))
    go_ret
    exact ⟨rfl, r1⟩
  · have e1 : s.rejects index = false := by rw [Pg.rejects, if_neg (by omega), if_neg (by omega)]
    have e2 : s.rejected index hint = s := by rw [Pg.rejected, if_neg (by omega), if_neg (by omega)]
    rw [e1, e2]
    rw [h2] at p3
    have HP := Lib.hid h
    clear e1 e2 h2
    go_enter Try.func24, Try.ntmps24
    go_wp2_with (first | (go_at_call 50; refine (table_any _ _).mono ?_; rintro e w' ⟨rfl, rfl⟩) | (go_at_call 67; refine (false8_any _ _ _).mono ?_; rintro e w' ⟨rfl, rfl⟩))
    go_ret
    exact ⟨rfl, (((PgTo.refl HP.out).alloc _).alloc _).alloc _⟩

set_option maxHeartbeats 800000 in
theorem Beat_any (w : World) (p : Nat) (s : Pg) (F : List Nat) (h : PgAt w p s F) (hm : NumOk s.mt) (hl : s.xs.length ≤ 1000000) (hr : 1 ≤ s.room) (hst : s.st = 0 ∨ s.st = 1 ∨ s.st = 2) :
    Calls Try.prog 26 #[.pointer (some ⟨p, 0, none⟩)] w fun e w' => e = .returned (.tuple #[]) ∧ PgTo w p F s.beat w' := by
  obtain ⟨q, -, -, -, -, -, p5, fr, -⟩ := h.cells
  have f5 := fr 5
  have ht : PgTo w p F { s with pz := false } (w.setCell ⟨p, 5, none⟩ (.bool false)) := (PgTo.refl h).store 5 (.bool false) (fun _ => rfl) rfl rfl
  have p3 := ht.facts3
  have HT := Lib.hid (PgTo.tabled ht)
  have HP := Lib.hid ht
  clear fr ht
  simp only at p3
  rcases hst with h0 | h1 | h2
  · have e2 : s.beat = { s with pz := false } := by simp [Pg.beat, h0]
    rw [e2]
    rw [h0] at p3
    clear e2 h0
    go_enter Try.func26, Try.ntmps26
    go_wp2_with (first | (go_at_call 50; refine (table_any _ _).mono ?_; rintro e w' ⟨rfl, rfl⟩) | (go_at_call 58; refine (nothing1_any _).mono ?_; rintro e w' ⟨rfl, rfl⟩))
    go_end0
    exact ⟨rfl, ((HP.out.alloc _).alloc _).alloc _⟩
  · have e2 : s.beat = Pg.beaten { s with pz := false } := by simp [Pg.beat, h1]
    rw [e2]
    rw [h1] at p3
    have HC := Lib.hid (fun o2 o3 => by
      obtain ⟨F', a, c, k⟩ := HT.out o2 o3
      exact (beat6_any _ _ p { s with pz := false } F' a c hl hr).mono fun e w' ⟨h1, h2⟩ => (show e = Ending.returned (.tuple #[]) ∧ PgTo w p F (Pg.beaten { s with pz := false }) w' from ⟨h1, k _ _ h2⟩))
    simp only [World.size_setCell] at HC
    clear e2 h1
    go_enter Try.func26, Try.ntmps26
    go_wp2_with (first | (go_at_call 50; refine (table_any _ _).mono ?_; rintro e w' ⟨rfl, rfl⟩) | (go_at_call 64; refine (HC.out _ _).mono ?_; rintro e w' ⟨rfl, r1⟩))
    go_end0
    exact ⟨rfl, r1⟩
  · have e2 : s.beat = Pg.entered { s with pz := false } 0 := by simp [Pg.beat, h2]
    rw [e2]
    rw [h2] at p3
    have HC := Lib.hid (fun o2 o3 => by
      obtain ⟨F', a, c, k⟩ := HT.out o2 o3
      exact (beat9_any _ _ p { s with pz := false } F' a c hm).mono fun e w' ⟨h1, h2⟩ => (show e = Ending.returned (.tuple #[]) ∧ PgTo w p F (Pg.entered { s with pz := false } 0) w' from ⟨h1, k _ _ h2⟩))
    simp only [World.size_setCell] at HC
    clear e2 h2
    go_enter Try.func26, Try.ntmps26
    go_wp2_with (first | (go_at_call 50; refine (table_any _ _).mono ?_; rintro e w' ⟨rfl, rfl⟩) | (go_at_call 68; refine (HC.out _ _).mono ?_; rintro e w' ⟨rfl, r1⟩))
    go_end0
    exact ⟨rfl, r1⟩

end Go.Proofs.Ytniceappkpiekaa
