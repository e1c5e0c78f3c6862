/-
  track.Progress: Acked, Rejected, Beat: by the table.
-/
import Derived.Test.YtniceappkpiekaaSent
namespace Go.Proofs.Ytniceappkpiekaa
open Go.RowKit

def Pg.entered (s : Pg) (st : Int) : Pg := { s with st := st, nx := s.mt + 1, xs := [] }
/-- ahead of the table. -/
def Pg.ackedFirst (s : Pg) (index : Int) : Pg :=
  { s with mt := max s.mt index, nx := if s.mt < index then max s.nx (index + 1) else s.nx, pz := false, xs := s.xs.drop (low index s.xs) }
def Pg.acked (s : Pg) (index : Int) : Pg :=
  let t := s.ackedFirst index
  if s.st = 0 then (if s.mt ≤ index then t.entered 1 else t)
  else if s.st = 1 then t
  else (if t.sn ≤ t.mt then t.entered 0 else t)
def Pg.rejected (s : Pg) (index hint : Int) : Pg :=
  if s.st = 0 then (if index = s.nx - 1 then { s with nx := max (min index (hint + 1)) (s.mt + 1), pz := false } else s)
  else if s.st = 1 then (if s.mt < index then { s with st := 0, nx := s.mt + 1, xs := [], pz := false } else s)
  else s
def Pg.rejects (s : Pg) (index : Int) : Bool :=
  if s.st = 0 then decide (index = s.nx - 1) else if s.st = 1 then decide (s.mt < index) else false
def Pg.beat (s : Pg) : Pg :=
  let t : Pg := { s with pz := false }
  if s.st = 0 then t else if s.st = 1 then t.beaten else t.entered 0

theorem PgTo.facts {w w3 : World} {p : Nat} {F : List Nat} {s : Pg} (h : PgTo w p F s w3) : p < w3.heap.size ∧ w3.cell? ⟨p, 3, none⟩ = some (.int .i64 s.st) := by
  obtain ⟨F1, a1, -⟩ := h
  obtain ⟨q, p0, -, -, p3, -⟩ := a1.cells
  exact ⟨World.block_lt_of_cell? _ _ p3, p3⟩

theorem PgTo.facts3 {w w3 : World} {p : Nat} {F : List Nat} {s : Pg} (h : PgTo w p F s w3) (o1 o2 o3 : Obj) : (((w3.alloc o1).alloc o2).alloc o3).cell? ⟨p, 3, none⟩ = some (.int .i64 s.st) := by
  obtain ⟨h1, h2⟩ := h.facts
  rw [World.cell?_alloc_lt _ _ _ (by simp; omega), World.cell?_alloc_lt _ _ _ (by simp; omega), World.cell?_alloc_lt _ _ _ (by simpa using h1), h2]

theorem PgTo.tabled {w w3 : World} {p : Nat} {F : List Nat} {s : Pg} (h : PgTo w p F s w3) (o2 o3 : Obj) :
    ∃ F', PgAt (((w3.alloc (.cells #[.pointer (some ⟨p, 0, none⟩)] 31)).alloc o2).alloc o3) p s F' ∧ Cap (((w3.alloc (.cells #[.pointer (some ⟨p, 0, none⟩)] 31)).alloc o2).alloc o3) w3.heap.size p F' ∧
      ∀ s' w', PgTo (((w3.alloc (.cells #[.pointer (some ⟨p, 0, none⟩)] 31)).alloc o2).alloc o3) p F' s' w' → PgTo w p F s' w' := by
  obtain ⟨F1, a1, a2, a3⟩ := h
  have hlt := a1.lt
  have kk : Keeps [] w3 (((w3.alloc (.cells #[.pointer (some ⟨p, 0, none⟩)] 31)).alloc o2).alloc o3) := (((Keeps.refl [] w3).alloc _).alloc _).alloc _
  refine ⟨F1, a1.keep kk (by simp), ⟨?_, fun hx => ?_⟩, fun s' w' ⟨F2, b1, b2, b3⟩ => ⟨F2, b1, ?_, fun x hx => ?_⟩⟩
  · exact (((Blk.new w3 _ _).alloc o2).alloc o3).c 0
  · have := hlt _ hx; omega
  · exact (a2.trans kk (by simp)).trans b2 (fun x hx hlt' => by
      rcases a3 x hx with h | h
      · exact h
      · omega)
  · rcases b3 x hx with h | h
    · exact a3 x h
    · have := kk.size
      have := a2.size
      exact .inr (by omega)

theorem PgTo.win {w w' : World} {p q : Nat} {F : List Nat} {s : Pg} (h : PgTo w p F s w') (hq : w'.cell? ⟨p, 0, none⟩ = some (.pointer (some ⟨q, 0, none⟩))) :
    ∃ D, WinAt w' q s.room s.xs D ∧ PgAt w' p s (p :: q :: D) ∧ Keeps F w w' ∧ ∀ x, x ∈ p :: q :: D → x ∈ F ∨ w.heap.size ≤ x := by
  obtain ⟨F1, a1, a2, a3⟩ := h
  have a1' := a1
  obtain ⟨q', p0, -, -, -, -, -, -, D, rfl, hw, -, -⟩ := a1.cells
  obtain rfl : q' = q := by simpa using p0.symm.trans hq
  exact ⟨D, hw, a1', a2, a3⟩

/-- Free of a progress's window, in the middle of a method. -/
theorem Free_of {w w2 : World} {p q : Nat} {F : List Nat} {s : Pg} (h : PgTo w p F s w2) (hq : w2.cell? ⟨p, 0, none⟩ = some (.pointer (some ⟨q, 0, none⟩))) (u : Int) :
    Calls Try.prog 49 #[.pointer (some ⟨q, 0, none⟩), .int .i64 u] w2 fun e w' => e = .returned (.int .i64 (low u s.xs)) ∧ PgTo w p F { s with xs := s.xs.drop (low u s.xs) } w' := by
  obtain ⟨D, hw, ha, hk, hF⟩ := h.win hq
  refine (Free_any w2 q s.room s.xs D u hw).mono ?_
  rintro e w' ⟨rfl, hf⟩
  refine ⟨rfl, PgTo.trans h (fun F1 h1 => ?_)⟩
  have hF1 : F1 = p :: q :: D := by
    obtain ⟨q1, p01, -, -, -, -, -, -, D1, rfl, hw1, -, -⟩ := h1.cells
    obtain rfl : q1 = q := by simpa using p01.symm.trans hq
    obtain ⟨v, b1, r1, -⟩ := hw
    obtain ⟨v', b1', r1', -⟩ := hw1
    unfold Blk at b1 b1'
    rw [b1] at b1'
    obtain rfl : v = v' := by simpa using b1'
    obtain ⟨a, cap, rfl, -, -, -, h4⟩ := r1
    obtain ⟨a', cap', e, -, -, -, h4'⟩ := r1'
    simp only [Value.slice.injEq] at e
    obtain ⟨rfl, -, rfl⟩ := e
    rcases h4 with ⟨rfl, -, rfl⟩ | ⟨d, off, arr, rfl, rfl, -⟩
    · rcases h4' with ⟨-, -, rfl⟩ | ⟨d', off', arr', e, -⟩
      · rfl
      · cases e
    · rcases h4' with ⟨e, -, -⟩ | ⟨d', off', arr', e, rfl, -⟩
      · cases e
      · simp only [Option.some.injEq, Addr.mk.injEq] at e
        rw [e.1]
  subst hF1
  exact PgTo.freed h1 (Keeps.refl _ _) hf

end Go.Proofs.Ytniceappkpiekaa
