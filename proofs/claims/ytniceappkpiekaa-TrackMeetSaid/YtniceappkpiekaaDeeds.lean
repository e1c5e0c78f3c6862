/-
  track.Progress: what each method answers, and how the progress stands behind it.
-/
import Derived.Test.YtniceappkpiekaaBeat
namespace Go.Proofs.Ytniceappkpiekaa
open Go.RowKit

set_option maxHeartbeats 400000 in
theorem NewProgress_no (next room : Int) (w : World) (h : holdsB room = false) :
    Calls Try.prog 18 #[.int .i64 next, .int .i64 room] w fun e w' => e = .returned (.pointer none) ∧ w = w' := by
  go_enter Try.func18, Try.ntmps18
  go_wp2_with (go_at_call 47; refine (NewWindow_no _ _ h).mono ?_; rintro e w' ⟨rfl, rfl⟩)
  go_ret
  exact ⟨rfl, rfl⟩

def Pg.new (next room : Int) : Pg := { room := room, xs := [], mt := 0, nx := max next 1, st := 0, sn := 0, pz := false }

set_option maxHeartbeats 400000 in
theorem NewProgress_yes (next room : Int) (w : World) (h : holdsB room = true) :
    Calls Try.prog 18 #[.int .i64 next, .int .i64 room] w fun e w' => ∃ p, e = .returned (.pointer (some ⟨p, 0, none⟩)) ∧ ∃ F, PgAt w' p (Pg.new next room) F ∧ Keeps [] w w' ∧ ∀ x, x ∈ F → w.heap.size ≤ x := by
  go_enter Try.func18, Try.ntmps18
  go_wp2_with (go_at_call 47; refine (NewWindow_yes _ _ h).mono ?_; rintro e w' ⟨rfl, rfl⟩)
  go_ret
  refine ⟨_, rfl, [w.heap.size + 1, w.heap.size], ⟨w.heap.size, [], rfl, ?_, ⟨_, (Blk.new _ _ _).alloc _, Row.nil _ _ _, by simp⟩, by simp, by simp⟩, ((Keeps.refl [] w).alloc _).alloc _, by simp⟩
  refine Blk.new' _ _ ?_ _ _
  simp

set_option maxHeartbeats 400000 in
theorem Match_any (w : World) (p : Nat) (s : Pg) (F : List Nat) (h : PgAt w p s F) :
    Calls Try.prog 30 #[.pointer (some ⟨p, 0, none⟩)] w fun e w' => e = .returned (.int .i64 s.mt) ∧ w = w' := by
  obtain ⟨q, -, p1, -⟩ := h.cells
  go_enter Try.func30, Try.ntmps30
  go_wp2
  go_ret
  exact ⟨rfl, rfl⟩
set_option maxHeartbeats 400000 in
theorem Next_any (w : World) (p : Nat) (s : Pg) (F : List Nat) (h : PgAt w p s F) :
    Calls Try.prog 31 #[.pointer (some ⟨p, 0, none⟩)] w fun e w' => e = .returned (.int .i64 s.nx) ∧ w = w' := by
  obtain ⟨q, -, -, p2, -⟩ := h.cells
  go_enter Try.func31, Try.ntmps31
  go_wp2
  go_ret
  exact ⟨rfl, rfl⟩
set_option maxHeartbeats 400000 in
theorem State_any (w : World) (p : Nat) (s : Pg) (F : List Nat) (h : PgAt w p s F) :
    Calls Try.prog 32 #[.pointer (some ⟨p, 0, none⟩)] w fun e w' => e = .returned (.int .i64 s.st) ∧ w = w' := by
  obtain ⟨q, -, -, -, p3, -⟩ := h.cells
  go_enter Try.func32, Try.ntmps32
  go_wp2
  go_ret
  exact ⟨rfl, rfl⟩

/-- may something be sent? -/
def Pg.may (s : Pg) : Bool := if s.st = 0 then !s.pz else if s.st = 1 then !decide (s.room ≤ s.xs.length) else false

set_option maxHeartbeats 400000 in
theorem May_any (w : World) (p : Nat) (s : Pg) (F : List Nat) (h : PgAt w p s F) :
    Calls Try.prog 33 #[.pointer (some ⟨p, 0, none⟩)] w fun e w' => e = .returned (.bool s.may) ∧ ∃ n, w' = w.drewN n := by
  obtain ⟨q, p0, -, -, p3, -, p5, -, D, -, hw, -, -⟩ := h.cells
  have HF := Lib.hid (Full_any w q s.room s.xs D hw)
  unfold Pg.may
  clear hw
  generalize s.st = st at *
  by_cases h0 : st = 0
  · subst h0
    go_enter Try.func33, Try.ntmps33
    go_wp2_with fail
    go_ret
    exact ⟨by simp, 0, rfl⟩
  · have hb0 : (st == 0) = false := by simpa using h0
    by_cases h1 : st = 1
    · subst h1
      go_enter Try.func33, Try.ntmps33
      go_wp2_with (go_at_call 53; refine HF.out.mono ?_; rintro e w' ⟨rfl, k, rfl⟩)
      go_ret
      exact ⟨by simp, _, rfl⟩
    · have hb1 : (st == 1) = false := by simpa using h1
      rw [if_neg h0, if_neg h1]
      clear h0 h1
      go_enter Try.func33, Try.ntmps33
      go_wp2_with fail
      go_ret
      exact ⟨rfl, 0, rfl⟩

end Go.Proofs.Ytniceappkpiekaa
