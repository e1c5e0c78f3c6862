/-
  What the table's other functions do.
-/
import Derived.Test.YtniceappkpiekaaTable
import Derived.Deep.RegionHeld3
namespace Go.Proofs.Ytniceappkpiekaa
open Go.RowKit

set_option maxHeartbeats 400000 in
theorem beat9_any (w : World) (n p : Nat) (s : Pg) (F : List Nat) (h : PgAt w p s F) (hc : Cap w n p F) (hm : NumOk s.mt) :
    Calls Try.prog 68 #[.pointer (some ⟨n, 0, none⟩)] w fun e w' =>
      e = .returned (.tuple #[]) ∧ PgTo w p F { s with st := 0, nx := s.mt + 1, xs := [] } w' := by
  obtain ⟨c0, -⟩ := hc
  have HE := Lib.hid (enter_any w p s F 0 h hm)
  go_enter Try.func68, Try.ntmps68
  go_wp2_with (go_at_call 60; refine HE.out.mono ?_; rintro e w' ⟨rfl, r1⟩)
  go_end0
  exact ⟨rfl, r1⟩

/-- a cell outside a progress's blocks, behind what became of it. -/
theorem PgTo.cap {w w' : World} {n p : Nat} {F F' : List Nat} {s : Pg} (h : PgTo w p F s w') (hc : Cap w n p F) (hF : ∀ x, x ∈ F' → x ∈ F ∨ w.heap.size ≤ x) : Cap w' n p F' := by
  obtain ⟨F1, h1, h2, h3⟩ := h
  refine ⟨h2.cell hc.1 hc.2, fun hx => ?_⟩
  have := World.block_lt_of_cell? _ _ hc.1
  rcases hF n hx with h | h
  · exact hc.2 h
  · simp at this; omega

set_option maxHeartbeats 400000 in
theorem rejected5_any (w : World) (n p : Nat) (s : Pg) (F : List Nat) (index hint : Int) (h : PgAt w p s F) (hc : Cap w n p F) (hm : NumOk s.mt) :
    Calls Try.prog 63 #[.int .i64 index, .int .i64 hint, .pointer (some ⟨n, 0, none⟩)] w fun e w' =>
      e = .returned (.bool (decide (s.mt < index))) ∧ PgTo w p F (if s.mt < index then { s with st := 0, nx := s.mt + 1, xs := [], pz := false } else s) w' := by
  have hc' := hc
  obtain ⟨c0, -⟩ := hc
  obtain ⟨q, -, p1, -⟩ := h.cells
  have HE := Lib.hid (enter_any w p s F 0 h hm)
  by_cases hlt : s.mt < index
  · rw [if_pos hlt, decide_eq_true hlt]
    have HK : ∀ w', PgTo w p F { s with st := 0, nx := s.mt + 1, xs := [] } w' → w'.cell? ⟨n, 0, none⟩ = some (.pointer (some ⟨p, 0, none⟩)) ∧ (∃ b, w'.cell? ⟨p, 5, none⟩ = some (.bool b)) ∧ w'.frozen? ⟨p, 5, none⟩ = false ∧
        PgTo w p F { s with st := 0, nx := s.mt + 1, xs := [], pz := false } (w'.setCell ⟨p, 5, none⟩ (.bool false)) := fun w' r => by
      refine ⟨(r.cap hc' (F' := []) (by simp)).1, ?_⟩
      have r' := r
      obtain ⟨F1, a1, -⟩ := r
      obtain ⟨_, -, -, -, -, -, a5, fr, -⟩ := a1.cells
      exact ⟨⟨_, a5⟩, fr 5, r'.store 5 (.bool false) (fun _ => rfl) rfl rfl⟩
    replace HK := Lib.hid HK
    go_enter Try.func63, Try.ntmps63
    go_wp2_with (go_at_call 60; refine HE.out.mono ?_; rintro e w' ⟨rfl, r1⟩; obtain ⟨k0, ⟨b, k5⟩, kf, kr⟩ := HK.out _ r1; clear r1)
    go_ret
    exact ⟨rfl, kr⟩
  · rw [if_neg hlt, decide_eq_false hlt]
    go_enter Try.func63, Try.ntmps63
    go_wp2_with fail
    go_ret
    exact ⟨rfl, PgTo.refl h⟩

set_option maxHeartbeats 400000 in
theorem rejected3_any (w : World) (n p : Nat) (s : Pg) (F : List Nat) (index hint : Int) (h : PgAt w p s F) (hc : Cap w n p F) (hm : NumOk s.mt) (hn : NumOk s.nx) (hh : NumOk hint) :
    Calls Try.prog 61 #[.int .i64 index, .int .i64 hint, .pointer (some ⟨n, 0, none⟩)] w fun e w' =>
      e = .returned (.bool (decide (index = s.nx - 1))) ∧ PgTo w p F (if index = s.nx - 1 then { s with nx := max (min index (hint + 1)) (s.mt + 1), pz := false } else s) w' := by
  obtain ⟨hm1, hm2⟩ := hm
  obtain ⟨hn1, hn2⟩ := hn
  obtain ⟨hh1, hh2⟩ := hh
  obtain ⟨c0, hnF⟩ := hc
  obtain ⟨q, -, p1, p2, -, -, p5, fr, -⟩ := h.cells
  have f2 := fr 2
  have f5 := fr 5
  clear fr
  have hnp : n ≠ p := by rintro rfl; obtain ⟨q, D, rfl, -⟩ := h; simp at hnF
  by_cases hlt : index = s.nx - 1
  · have ht := ((PgTo.refl h).store (s' := { s with nx := max (min index (hint + 1)) (s.mt + 1) }) 2 (.int .i64 (max (min index (hint + 1)) (s.mt + 1))) (fun _ => rfl) rfl rfl).store (s' := { s with nx := max (min index (hint + 1)) (s.mt + 1), pz := false }) 5 (.bool false) (fun _ => rfl) rfl rfl
    rw [if_pos hlt, decide_eq_true hlt]
    have HT := Lib.hid ht
    have hb : (index != s.nx - 1) = false := by rw [hlt]; simp
    have e1 : IntKind.i64.wrap (hint + 1) = hint + 1 := IntWalk.i64_in _ (by omega)
    have e2 : IntKind.i64.wrap (s.mt + 1) = s.mt + 1 := IntWalk.i64_in _ (by omega)
    clear hlt ht
    go_enter Try.func61, Try.ntmps61
    go_wp2
    go_region_held3 (fun w' => w'.cell? ⟨n, 0, none⟩ = some (.pointer (some ⟨p, 0, none⟩)) ∧ w'.cell? ⟨p, 1, none⟩ = some (.int .i64 s.mt) ∧ (w'.cell? ⟨p, 2, none⟩).isSome = true ∧ w'.frozen? ⟨p, 2, none⟩ = false) (simp [go_sem, *]) (fail)
    clear e1 e2
    have h52 : (⟨p, 2, none⟩ : Addr) ≠ ⟨p, 5, none⟩ := by simp
    go_wp2
    go_ret
    exact ⟨rfl, HT.out.drew⟩
  · rw [if_neg hlt, decide_eq_false hlt]
    have hb : (index != s.nx - 1) = true := by simpa using hlt
    go_enter Try.func61, Try.ntmps61
    go_wp2_with fail
    go_ret
    exact ⟨rfl, PgTo.refl h⟩

end Go.Proofs.Ytniceappkpiekaa
