/-
  A slice of deeds, a slice of ints that came in: what the reading gives.
-/
import Derived.Test.YtniceappkpiekaaLawKit
import Derived.ProofKit
import Derived.OpenShut
import Derived.Deep.Slices
import Derived.Deep.Fields
namespace Go.Proofs.Ytniceappkpiekaa
open Go.ChangeShapes Go.WideShapes Go.ChangeAt Go.RowKit

theorem own : ownKnob Try.prog.godebug = none := by kernel_rfl
theorem laidOut : laidOutB Try.prog = true := by kernel_rfl
theorem cellsInt : Try.prog.cellsOf 3 = 1 := by kernel_rfl
theorem cellsBool : Try.prog.cellsOf 4 = 1 := by kernel_rfl
theorem cellsDeed : Try.prog.cellsOf 36 = 3 := by kernel_rfl
theorem cellsVote : Try.prog.cellsOf 50 = 2 := by kernel_rfl

section
variable {H : Type} {enc : TypeId × Value → H} {w : World} {base : Nat} {spare : Nat → Bool} {held : Bool}

theorem trod_deed {fuel : Nat} {cs : List Value} {x : DataW H × List MemPlace} (h : DataW.trod enc Try.prog w base spare held fuel 36 cs = some x) :
    ∃ d : Dd, cs = [.int .i64 d.kind, .int .i64 d.n, .int .i64 d.m] := by
  obtain ⟨xs, n, -, -, hl, hx, hf⟩ := DataW.trod_struct Try.underlying36 h
  rw [cellsDeed] at hl
  have f0 : DataW.trod enc Try.prog w base spare held n 3 ((cs.drop 0).take (Try.prog.cellsOf 3)) = xs[0]? := hf 0 _ rfl
  have f1 : DataW.trod enc Try.prog w base spare held n 3 ((cs.drop 1).take (Try.prog.cellsOf 3)) = xs[1]? := hf 1 _ rfl
  have f2 : DataW.trod enc Try.prog w base spare held n 3 ((cs.drop 2).take (Try.prog.cellsOf 3)) = xs[2]? := hf 2 _ rfl
  simp only [cellsInt] at f0 f1 f2
  have hx' : xs.length = 3 := hx
  match cs, hl, xs, hx' with
  | [c0, c1, c2], _, [x0, x1, x2], _ =>
    obtain ⟨n0, e0, -⟩ := DataW.trod_int Try.underlying3 f0
    obtain ⟨n1, e1, -⟩ := DataW.trod_int Try.underlying3 f1
    obtain ⟨n2, e2, -⟩ := DataW.trod_int Try.underlying3 f2
    refine ⟨⟨n0, n1, n2⟩, ?_⟩
    simp at e0 e1 e2
    simp [e0, e1, e2]

theorem add_block (a : Addr) (i : Nat) (h : a.spot = none) : a.add i = ⟨a.block, a.off + i, none⟩ := by
  obtain ⟨b, o, s⟩ := a
  simp only at h
  subst h
  exact Addr.add_lit _ _ _

theorem cell_spot {w : World} {a : Addr} {v : Value} (h : w.cell? a = some v) : a.spot = none := by
  obtain ⟨b, o, s⟩ := a
  cases s with
  | none => rfl
  | some s =>
    unfold World.cell? at h
    split at h
    · simp at h
    · simp at h

theorem open_deeds {v : Value} {a : Option Addr} {len cap : Nat} {d : DataW H} {ps : List MemPlace} (hv : v = .slice a len cap) (h : DataW.Trod enc Try.prog w 0 (fun _ => true) true 30 v d ps) : ∃ ds, ds.length = len ∧ DeedsAt w v ds := by
  subst hv
  obtain ⟨fuel, hf⟩ := h
  rcases Deep.open_slice Try.underlying30 hf with ⟨hcs, _⟩ | ⟨x, l, c, m, n, D, Pl, hcs, -, hl, hm, hmm, -, hi⟩
  · simp [Value.cells] at hcs
    obtain ⟨rfl, rfl, rfl⟩ := hcs
    exact ⟨[], rfl, none, 0, rfl, by simp, .inl rfl⟩
  · simp [Value.cells] at hcs
    obtain ⟨rfl, rfl, rfl⟩ := hcs
    have hlm : len ≤ m := by rw [hmm]; simpa using hl
    have hall : ∀ i, i < len → ∃ d : Dd, w.cell? (x.add (i * 3)) = some (.int .i64 d.kind) ∧ w.cell? (x.add (i * 3 + 1)) = some (.int .i64 d.n) ∧ w.cell? (x.add (i * 3 + 2)) = some (.int .i64 d.m) := by
      intro i hil
      obtain ⟨cs', h1, h2⟩ := hi i (by omega)
      rw [cellsDeed] at h1
      obtain ⟨d, rfl⟩ := trod_deed h2
      obtain ⟨-, -, h3⟩ := World.cells?_some h1
      refine ⟨d, ?_, ?_, ?_⟩
      · have := h3 0 (by omega); rw [Deep.add_add] at this; exact this
      · have := h3 1 (by omega); rw [Deep.add_add] at this; exact this
      · have := h3 2 (by omega); rw [Deep.add_add] at this; exact this
    have : Inhabited Dd := ⟨⟨0, 0, 0⟩⟩
    obtain ⟨f, hf'⟩ := Deep.choose_lt hall
    refine ⟨(List.range len).map f, by simp, some x, cap, by simp, by simp; unfold maxLen at hm; omega, ?_⟩
    by_cases h0 : len = 0
    · left; simp [h0]
    · right
      have hsp : x.spot = none := by
        have := cell_spot (hf' 0 (by omega)).1
        simpa [Addr.add] using this
      refine ⟨x.block, x.off, by obtain ⟨b, o, s⟩ := x; simp only at hsp; subst hsp; rfl, fun i hil => ?_⟩
      have hil' : i < len := by simpa using hil
      obtain ⟨g0, g1, g2⟩ := hf' i hil'
      rw [add_block _ _ hsp] at g0 g1 g2
      have e : ((List.range len).map f).getD i ⟨0, 0, 0⟩ = f i := by simp [List.getD_eq_getElem?_getD, hil']
      rw [e]
      exact ⟨g0, g1, g2⟩

/-- a slice of ints that came in. -/
theorem open_rints {v : Value} {a : Option Addr} {len cap : Nat} {d : DataW H} {ps : List MemPlace} (hv : v = .slice a len cap) (h : DataW.Trod enc Try.prog w 0 (fun _ => true) true 22 v d ps) : ∃ xs, xs.length = len ∧ RInts w v xs ∧ IntsOk xs := by
  subst hv
  obtain ⟨fuel, hf⟩ := h
  rcases open_ints Try.underlying22 Try.underlying3 (by kernel_rfl) hf with ⟨hcs, _⟩ | ⟨x, l, c, zs, hcs, _, hl, hm, hz, _, hcell, hwz⟩
  · simp [Value.cells] at hcs
    obtain ⟨rfl, rfl, rfl⟩ := hcs
    exact ⟨[], rfl, ⟨none, 0, rfl, by simp, by simp, by simp, .inl rfl⟩, fun x hx => by cases hx⟩
  · simp [Value.cells] at hcs
    obtain ⟨rfl, rfl, rfl⟩ := hcs
    have hz' : zs.length = cap := by simpa using hz
    have hlen : (zs.take len).length = len := by simp; omega
    refine ⟨zs.take len, hlen, ⟨_, cap, by rw [hlen], by omega, hm, by simp, ?_⟩, fun y hy => ?_⟩
    · by_cases h0 : len = 0
      · left; simp [h0]
      · right
        have hsp : x.spot = none := by
          have := cell_spot (hcell 0 (by omega))
          simpa [Addr.add] using this
        refine ⟨x.block, x.off, by obtain ⟨b, o, s⟩ := x; simp only at hsp; subst hsp; rfl, fun i hil => ?_⟩
        have hil' : i < len := by omega
        have := hcell i (by omega)
        rw [add_block _ _ hsp] at this
        rw [this]
        simp [List.getD_eq_getElem?_getD, hil']
    · have := hwz y (List.mem_of_mem_take hy)
      simpa [Lit.wf, IntKind.min, IntKind.max, IntKind.signed, IntKind.bits] using this
end

end Go.Proofs.Ytniceappkpiekaa
