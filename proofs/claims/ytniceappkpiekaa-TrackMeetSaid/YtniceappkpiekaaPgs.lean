/-
  track.Progress: how it stands in memory, and its methods that ask no table.
-/
import Derived.Test.YtniceappkpiekaaFree
namespace Go.Proofs.Ytniceappkpiekaa
open Go.RowKit

/-- What a progress is. -/
structure Pg where
  room : Int
  xs : List Int
  mt : Int
  nx : Int
  st : Int
  sn : Int
  pz : Bool

abbrev Pg.cells (s : Pg) (q : Nat) : Array Value := #[.pointer (some ⟨q, 0, none⟩), .int .i64 s.mt, .int .i64 s.nx, .int .i64 s.st, .int .i64 s.sn, .bool s.pz]

/-- A progress at block p; F: all its blocks. -/
def PgAt (w : World) (p : Nat) (s : Pg) (F : List Nat) : Prop :=
  ∃ q D, F = p :: q :: D ∧ Blk w p (s.cells q) 61 ∧ WinAt w q s.room s.xs D ∧ p ≠ q ∧ p ∉ D

theorem WinAt.lt {w : World} {q : Nat} {room : Int} {xs : List Int} {D : List Nat} (h : WinAt w q room xs D) : q < w.heap.size ∧ ∀ x, x ∈ D → x < w.heap.size :=
  let ⟨_, h1, h2, _⟩ := h
  ⟨h1.lt, Row.lt h2⟩
theorem PgAt.lt {w : World} {p : Nat} {s : Pg} {F : List Nat} (h : PgAt w p s F) : ∀ x, x ∈ F → x < w.heap.size := by
  obtain ⟨q, D, rfl, hb, hw, -, -⟩ := h
  intro x hx
  simp only [List.mem_cons] at hx
  rcases hx with rfl | rfl | hx
  · exact hb.lt
  · exact hw.lt.1
  · exact hw.lt.2 x hx
theorem PgAt.keep {w w' : World} {p : Nat} {s : Pg} {F G : List Nat} (h : PgAt w p s F) (k : Keeps G w w') (hd : ∀ x, x ∈ F → x ∉ G) : PgAt w' p s F := by
  obtain ⟨q, D, rfl, hb, hw, h1, h2⟩ := h
  exact ⟨q, D, rfl, k.blk hb (hd p (by simp)), hw.keep k (hd q (by simp)) (fun x hx => hd x (by simp [hx])), h1, h2⟩

/-- What became of a progress. -/
def PgTo (w : World) (p : Nat) (F : List Nat) (s : Pg) (w' : World) : Prop :=
  ∃ F', PgAt w' p s F' ∧ Keeps F w w' ∧ ∀ x, x ∈ F' → x ∈ F ∨ w.heap.size ≤ x

theorem PgTo.refl {w : World} {p : Nat} {s : Pg} {F : List Nat} (h : PgAt w p s F) : PgTo w p F s w := ⟨F, h, Keeps.refl _ _, fun _ hx => .inl hx⟩
theorem PgTo.drewN {w w' : World} {p : Nat} {s : Pg} {F : List Nat} (h : PgTo w p F s w') (n : Nat) : PgTo w p F s (w'.drewN n) :=
  let ⟨F', h1, h2, h3⟩ := h
  ⟨F', h1.keep ((Keeps.refl [] w').drewN n) (by simp), h2.drewN n, h3⟩
theorem PgTo.drew {w w' : World} {p : Nat} {s : Pg} {F : List Nat} (h : PgTo w p F s w') : PgTo w p F s w'.drew := h.drewN 1
theorem PgTo.alloc {w w' : World} {p : Nat} {s : Pg} {F : List Nat} (h : PgTo w p F s w') (o : Obj) : PgTo w p F s (w'.alloc o) :=
  let ⟨F', h1, h2, h3⟩ := h
  ⟨F', h1.keep ((Keeps.refl [] w').alloc o) (by simp), h2.alloc o, h3⟩
theorem PgTo.trans {w w1 w2 : World} {p : Nat} {s1 s2 : Pg} {F : List Nat} (h : PgTo w p F s1 w1) (k : ∀ F1, PgAt w1 p s1 F1 → PgTo w1 p F1 s2 w2) : PgTo w p F s2 w2 := by
  obtain ⟨F1, h1, h2, h3⟩ := h
  obtain ⟨F2, k1, k2, k3⟩ := k F1 h1
  have hs := h2.size
  refine ⟨F2, k1, h2.trans k2 (fun x hx hlt => ?_), fun x hx => ?_⟩
  · rcases h3 x hx with h | h
    · exact h
    · omega
  · rcases k3 x hx with h | h
    · exact h3 x h
    · exact .inr (by omega)
/-- a store into a cell of the progress itself. -/
theorem PgTo.store {w w' : World} {p : Nat} {s s' : Pg} {F : List Nat} (h : PgTo w p F s w') (i : Nat) (v : Value)
    (hs : ∀ q, (s.cells q).setIfInBounds i v = s'.cells q) (hr : s'.room = s.room) (hx : s'.xs = s.xs) : PgTo w p F s' (w'.setCell ⟨p, i, none⟩ v) := by
  obtain ⟨F', ⟨q, D, rfl, hb, hw, h1, h2⟩, k, h3⟩ := h
  refine ⟨_, ⟨q, D, rfl, ?_, ?_, h1, h2⟩, k.setCell ?_ v, h3⟩
  · rw [← hs q]
    exact hb.setCell i v
  · rw [hr, hx]
    exact hw.keep ((Keeps.refl [p] w').setCell (by simp) v) (by simpa using fun e => h1 e.symm) (fun x hx => by simp; rintro rfl; exact h2 hx)
  · exact h3 p (by simp)

def NumOk (x : Int) : Prop := -9000000000000000000 ≤ x ∧ x ≤ 9000000000000000000

/-- The window is emptied, as its method Clear leaves it. -/
theorem PgTo.cleared {w w' : World} {p q : Nat} {s : Pg} {F : List Nat} (h : PgTo w p F s w') (hq : w'.cell? ⟨p, 0, none⟩ = some (.pointer (some ⟨q, 0, none⟩))) :
    PgTo w p F { s with xs := [] } (w'.setCell ⟨q, 1, none⟩ (.slice none 0 0)) := by
  obtain ⟨F', ⟨q', D, rfl, hb, ⟨v, hw1, hw2, hw3⟩, h1, h2⟩, k, h3⟩ := h
  obtain rfl : q' = q := by
    have := (hb.c 0).symm.trans hq
    simpa using this
  refine ⟨[p, q'], ⟨q', [], rfl, hb.setOther _ _ (fun e => h1 e.symm), ⟨_, hw1.setCell 1 _, Row.nil _ _ _, by simp⟩, h1, by simp⟩, k.setCell (h3 q' (by simp)) _, fun x hx => h3 x ?_⟩
  simp only [List.mem_cons, List.not_mem_nil, or_false] at hx
  simp only [List.mem_cons]
  rcases hx with h | h
  · exact .inl h
  · exact .inr (.inl h)

set_option maxHeartbeats 400000 in
theorem enter_any (w : World) (p : Nat) (s : Pg) (F : List Nat) (st : Int) (h : PgAt w p s F) (hm : NumOk s.mt) :
    Calls Try.prog 60 #[.pointer (some ⟨p, 0, none⟩), .int .i64 st] w fun e w' =>
      e = .returned (.tuple #[]) ∧ PgTo w p F { s with st := st, nx := s.mt + 1, xs := [] } w' := by
  obtain ⟨hm1, hm2⟩ := hm
  have ht := ((PgTo.refl h).store (s' := { s with st := st }) 3 (.int .i64 st) (fun _ => rfl) rfl rfl).store (s' := { s with st := st, nx := s.mt + 1 }) 2 (.int .i64 (s.mt + 1)) (fun _ => rfl) rfl rfl
  have HT := Lib.hid ht
  obtain ⟨q, D, rfl, hb, ⟨v, hw1, hw2, hw3⟩, h1, h2⟩ := h
  have c0 : w.cell? ⟨p, 0, none⟩ = some (.pointer (some ⟨q, 0, none⟩)) := hb.c 0
  have c1 : w.cell? ⟨p, 1, none⟩ = some (.int .i64 s.mt) := hb.c 1
  have c2 : w.cell? ⟨p, 2, none⟩ = some (.int .i64 s.nx) := hb.c 2
  have c3 : w.cell? ⟨p, 3, none⟩ = some (.int .i64 s.st) := hb.c 3
  have f2 : w.frozen? ⟨p, 2, none⟩ = false := hb.fr 2
  have f3 : w.frozen? ⟨p, 3, none⟩ = false := hb.fr 3
  have HC := Lib.hid (Clear_any ((w.setCell ⟨p, 3, none⟩ (.int .i64 st)).setCell ⟨p, 2, none⟩ (.int .i64 (s.mt + 1))) q s.room v ((hw1.setOther _ _ h1).setOther _ _ h1))
  clear ht hb hw1
  go_enter Try.func60, Try.ntmps60
  go_wp2_with (go_at_call 52; refine HC.out.mono ?_; rintro e w' ⟨rfl, rfl⟩)
  go_end0
  refine ⟨rfl, HT.out.cleared ?_⟩
  simp [World.cell?_setCell_other, c0]

end Go.Proofs.Ytniceappkpiekaa
