/-
  A slice of votes that came in: what the reading gives.
-/
import Derived.Test.YtniceappkpiekaaOpen
import Derived.Test.YtniceappkpiekaaVTwo
namespace Go.Proofs.Ytniceappkpiekaa
open Go.ChangeShapes Go.WideShapes Go.ChangeAt Go.RowKit

section
variable {H : Type} {enc : TypeId × Value → H} {w : World} {base : Nat} {spare : Nat → Bool} {held : Bool}

theorem trod_vote {fuel : Nat} {cs : List Value} {x : DataW H × List MemPlace} (h : DataW.trod enc Try.prog w base spare held fuel 50 cs = some x) :
    ∃ d : Int × Bool, cs = [.int .i64 d.1, .bool d.2] ∧ -9223372036854775808 ≤ d.1 ∧ d.1 ≤ 9223372036854775807 := by
  obtain ⟨xs, n, -, -, hl, hx, hf⟩ := DataW.trod_struct Try.underlying50 h
  rw [cellsVote] at hl
  have f0 : DataW.trod enc Try.prog w base spare held n 3 ((cs.drop 0).take (Try.prog.cellsOf 3)) = xs[0]? := hf 0 _ rfl
  have f1 : DataW.trod enc Try.prog w base spare held n 4 ((cs.drop 1).take (Try.prog.cellsOf 4)) = xs[1]? := hf 1 _ rfl
  simp only [cellsInt, cellsBool] at f0 f1
  have hx' : xs.length = 2 := hx
  match cs, hl, xs, hx' with
  | [c0, c1], _, [x0, x1], _ =>
    obtain ⟨n0, e0, -, w0⟩ := DataW.trod_int Try.underlying3 f0
    obtain ⟨n1, e1, -⟩ := DataW.trod_bool Try.underlying4 f1
    have b0 : -9223372036854775808 ≤ n0 ∧ n0 ≤ 9223372036854775807 := by simpa [Lit.wf, IntKind.min, IntKind.max, IntKind.signed, IntKind.bits] using w0
    refine ⟨⟨n0, n1⟩, ?_, b0⟩
    simp at e0 e1
    simp [e0, e1]

theorem open_votes {v : Value} {a : Option Addr} {len cap : Nat} {d : DataW H} {ps : List MemPlace} (hv : v = .slice a len cap) (h : DataW.Trod enc Try.prog w 0 (fun _ => true) true 43 v d ps) : ∃ ds, ds.length = len ∧ BallotsAt w v ds := by
  subst hv
  obtain ⟨fuel, hf⟩ := h
  rcases Deep.open_slice Try.underlying43 hf with ⟨hcs, _⟩ | ⟨x, l, c, m, n, D, Pl, hcs, -, hl, hm, hmm, -, hi⟩
  · simp [Value.cells] at hcs
    obtain ⟨rfl, rfl, rfl⟩ := hcs
    exact ⟨[], rfl, none, 0, rfl, by simp, by simp, .inl rfl⟩
  · simp [Value.cells] at hcs
    obtain ⟨rfl, rfl, rfl⟩ := hcs
    have hlm : len ≤ m := by rw [hmm]; simpa using hl
    have hall : ∀ i, i < len → ∃ d : Int × Bool, w.cell? (x.add (i * 2)) = some (.int .i64 d.1) ∧ w.cell? (x.add (i * 2 + 1)) = some (.bool d.2) ∧ -9223372036854775808 ≤ d.1 ∧ d.1 ≤ 9223372036854775807 := by
      intro i hil
      obtain ⟨cs', h1, h2⟩ := hi i (by omega)
      rw [cellsVote] at h1
      obtain ⟨d, rfl, hb⟩ := trod_vote h2
      obtain ⟨-, -, h3⟩ := World.cells?_some h1
      refine ⟨d, ?_, ?_, hb⟩
      · have := h3 0 (by omega); rw [Deep.add_add] at this; exact this
      · have := h3 1 (by omega); rw [Deep.add_add] at this; exact this
    have : Inhabited (Int × Bool) := ⟨(0, false)⟩
    obtain ⟨f, hf'⟩ := Deep.choose_lt hall
    refine ⟨(List.range len).map f, by simp, some x, cap, by simp, by simp; unfold maxLen at hm; omega, ?_, ?_⟩
    · intro d hd
      obtain ⟨i, hi', rfl⟩ := List.mem_map.1 hd
      exact (hf' i (by simpa using hi')).2.2
    · by_cases h0 : len = 0
      · left; simp [h0]
      · right
        have hsp : x.spot = none := by
          have := cell_spot (hf' 0 (by omega)).1
          simpa [Addr.add] using this
        refine ⟨x.block, x.off, by obtain ⟨b, o, s⟩ := x; simp only at hsp; subst hsp; rfl, fun i hil => ?_⟩
        have hil' : i < len := by simpa using hil
        obtain ⟨g0, g1, -⟩ := hf' i hil'
        rw [add_block _ _ hsp] at g0 g1
        have e : ((List.range len).map f).getD i (0, false) = f i := by simp [List.getD_eq_getElem?_getD, hil']
        rw [e]
        exact ⟨g0, g1⟩
end

end Go.Proofs.Ytniceappkpiekaa
