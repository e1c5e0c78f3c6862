/-
  track.Progress.table and what its functions do.
-/
import Derived.Test.YtniceappkpiekaaPgs
import Derived.Laws.EntriesVeiled
namespace Go.Proofs.Ytniceappkpiekaa
open Go.RowKit

/-- The table's functions; n: the block that holds the progress's address. -/
abbrev tbl (n : Nat) : Array Value := #[
  .func (.func 59) #[] #[.pointer (some ⟨n, 0, none⟩)],
  .func (.func 61) #[] #[.pointer (some ⟨n, 0, none⟩)],
  .func (.func 58) #[] #[],
  .func (.func 62) #[] #[],
  .func (.func 63) #[] #[.pointer (some ⟨n, 0, none⟩)],
  .func (.func 64) #[] #[.pointer (some ⟨n, 0, none⟩)],
  .func (.func 66) #[] #[.pointer (some ⟨n, 0, none⟩)],
  .func (.func 67) #[] #[],
  .func (.func 68) #[] #[.pointer (some ⟨n, 0, none⟩)]]

set_option maxHeartbeats 400000 in
theorem table_any (w : World) (p : Nat) :
    Calls Try.prog 50 #[.pointer (some ⟨p, 0, none⟩)] w fun e w' =>
      e = .returned (.agg (tbl w.heap.size)) ∧ (w.alloc (.cells #[.pointer (some ⟨p, 0, none⟩)] 31)).alloc (.cells (tbl w.heap.size) 65) = w' := by
  go_enter Try.func50, Try.ntmps50
  go_wp2
  refine bodyPost_ret (v := .agg (tbl w.heap.size)) (by simp [results, Try.results50, go_sem]) rfl ⟨rfl, ?_⟩
  rfl

/-- Where a closure finds the progress. -/
def Cap (w : World) (n p : Nat) (F : List Nat) : Prop := w.cell? ⟨n, 0, none⟩ = some (.pointer (some ⟨p, 0, none⟩)) ∧ n ∉ F

/-- The progress's cells, one by one. -/
theorem PgAt.cells {w : World} {p : Nat} {s : Pg} {F : List Nat} (h : PgAt w p s F) : ∃ q, 
    w.cell? ⟨p, 0, none⟩ = some (.pointer (some ⟨q, 0, none⟩)) ∧ w.cell? ⟨p, 1, none⟩ = some (.int .i64 s.mt) ∧ w.cell? ⟨p, 2, none⟩ = some (.int .i64 s.nx) ∧
    w.cell? ⟨p, 3, none⟩ = some (.int .i64 s.st) ∧ w.cell? ⟨p, 4, none⟩ = some (.int .i64 s.sn) ∧ w.cell? ⟨p, 5, none⟩ = some (.bool s.pz) ∧ (∀ i, w.frozen? ⟨p, i, none⟩ = false) ∧
    ∃ D, F = p :: q :: D ∧ WinAt w q s.room s.xs D ∧ p ≠ q ∧ p ∉ D := by
  obtain ⟨q, D, rfl, hb, hw, h1, h2⟩ := h
  exact ⟨q, hb.c 0, hb.c 1, hb.c 2, hb.c 3, hb.c 4, hb.c 5, hb.fr, D, rfl, hw, h1, h2⟩

set_option maxHeartbeats 400000 in
theorem nothing1_any (w : World) : Calls Try.prog 58 #[] w fun e w' => e = .returned (.tuple #[]) ∧ w = w' := by
  go_enter Try.func58, Try.ntmps58
  go_wp2
  go_end0
  exact ⟨rfl, rfl⟩
set_option maxHeartbeats 400000 in
theorem nothing4_any (w : World) (a b : Int) : Calls Try.prog 62 #[.int .i64 a, .int .i64 b] w fun e w' => e = .returned (.tuple #[]) ∧ w = w' := by
  go_enter Try.func62, Try.ntmps62
  go_wp2
  go_end0
  exact ⟨rfl, rfl⟩
set_option maxHeartbeats 400000 in
theorem false8_any (w : World) (a b : Int) : Calls Try.prog 67 #[.int .i64 a, .int .i64 b] w fun e w' => e = .returned (.bool false) ∧ w = w' := by
  go_enter Try.func67, Try.ntmps67
  go_wp2
  go_ret
  exact ⟨rfl, rfl⟩

set_option maxHeartbeats 400000 in
theorem acked2_any (w : World) (n p : Nat) (s : Pg) (F : List Nat) (index was : Int) (h : PgAt w p s F) (hc : Cap w n p F) (hm : NumOk s.mt) :
    Calls Try.prog 59 #[.int .i64 index, .int .i64 was, .pointer (some ⟨n, 0, none⟩)] w fun e w' =>
      e = .returned (.tuple #[]) ∧ PgTo w p F (if was ≤ index then { s with st := 1, nx := s.mt + 1, xs := [] } else s) w' := by
  obtain ⟨c0, -⟩ := hc
  have HE := Lib.hid (enter_any w p s F 1 h hm)
  by_cases hlt : was ≤ index
  · rw [if_pos hlt]
    go_enter Try.func59, Try.ntmps59
    go_wp2_with (go_at_call 60; refine HE.out.mono ?_; rintro e w' ⟨rfl, r1⟩)
    go_end0
    exact ⟨rfl, r1⟩
  · rw [if_neg hlt]
    go_enter Try.func59, Try.ntmps59
    go_wp2_with fail
    go_end0
    exact ⟨rfl, PgTo.refl h⟩

set_option maxHeartbeats 400000 in
theorem acked7_any (w : World) (n p : Nat) (s : Pg) (F : List Nat) (index was : Int) (h : PgAt w p s F) (hc : Cap w n p F) (hm : NumOk s.mt) :
    Calls Try.prog 66 #[.int .i64 index, .int .i64 was, .pointer (some ⟨n, 0, none⟩)] w fun e w' =>
      e = .returned (.tuple #[]) ∧ PgTo w p F (if s.sn ≤ s.mt then { s with st := 0, nx := s.mt + 1, xs := [] } else s) w' := by
  obtain ⟨c0, hn⟩ := hc
  obtain ⟨q, -, p1, -, -, p4, -⟩ := h.cells
  have HE : ∀ k, Calls Try.prog 60 #[.pointer (some ⟨p, 0, none⟩), .int .i64 0] (w.drewN k) fun e w' =>
      e = .returned (.tuple #[]) ∧ PgTo (w.drewN k) p F { s with st := 0, nx := s.mt + 1, xs := [] } w' := fun k => enter_any (w.drewN k) p s F 0 (h.keep ((Keeps.refl [] w).drewN k) (by simp)) hm
  replace HE := Lib.hid HE
  have hto : ∀ k s' w', PgTo (w.drewN k) p F s' w' → PgTo w p F s' w' := fun k s' w' hh => by
    obtain ⟨F', a1, a2, a3⟩ := hh
    exact ⟨F', a1, ((Keeps.refl F w).drewN k).trans a2 (fun x hx _ => hx), a3⟩
  replace hto := Lib.hid hto
  by_cases hlt : s.sn ≤ s.mt
  · rw [if_pos hlt]
    go_enter Try.func66, Try.ntmps66
    go_wp2
    go_quiet (fail)
    go_wp2_with (go_at_call 60; refine (HE.out _).mono ?_; rintro e w' ⟨rfl, r1⟩)
    go_end0
    exact ⟨rfl, hto.out _ _ _ r1⟩
  · rw [if_neg hlt]
    go_enter Try.func66, Try.ntmps66
    go_wp2
    go_quiet (fail)
    go_wp2_with fail
    go_end0
    exact ⟨rfl, hto.out _ _ _ (PgTo.refl (h.keep ((Keeps.refl [] w).drewN _) (by simp)))⟩

end Go.Proofs.Ytniceappkpiekaa
