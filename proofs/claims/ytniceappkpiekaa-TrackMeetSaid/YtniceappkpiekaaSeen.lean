/-
  Votes, and who has voted beside them: for TrackOnce.
-/
import Derived.Test.YtniceappkpiekaaVTwo
namespace Go.Proofs.Ytniceappkpiekaa
open Go.RowKit

/-- who has voted: ts (1: has), behind a cell for nobody. -/
structure SOwn (w0 w : World) (b m sd : Nat) (n : Int) (vs : List (Int × Bool)) (ts : List Int) : Prop where
  o : VOwn w0 w b m n vs
  s : Ints w (.slice (some ⟨sd, 0, none⟩) (ts.length + 1) (ts.length + 1)) (0 :: ts) [sd]
  fs : w0.heap.size ≤ sd
  n1 : sd ≠ m
  n2 : sd ≠ b

theorem SOwn.keep {w0 w w' : World} {b m sd : Nat} {n : Int} {vs : List (Int × Bool)} {ts : List Int} (h : SOwn w0 w b m sd n vs ts) (k : Keeps [] w w') : SOwn w0 w' b m sd n vs ts :=
  ⟨h.o.keep k, Row.keep h.s k (by simp), h.fs, h.n1, h.n2⟩
theorem SOwn.Put {w0 w : World} {b m sd : Nat} {n : Int} {vs : List (Int × Bool)} {ts : List Int} (h : SOwn w0 w b m sd n vs ts) (id : Int) (g : Bool) (c : Bool) (hc : countsB n vs id = c) (hl : vs.length ≤ 1000)
    (hid : -9223372036854775808 ≤ id ∧ id ≤ 9223372036854775807) :
    Calls Try.prog 37 #[.pointer (some ⟨b, 0, none⟩), .int .i64 id, .bool g] w fun e w' => e = .returned (.bool c) ∧ SOwn w0 w' b m sd n (putV n vs id g) ts := by
  refine (VPut_any w b m n vs id g h.o.v hl hid).mono ?_
  rintro e w' ⟨rfl, h1, h2⟩
  refine ⟨ret_b hc, ⟨h1, h.o.keeps.trans h2 (fun x hx hlt => ?_), h.o.fm⟩, Row.keep h.s h2 (by simpa using h.n1), h.fs, h.n1, h.n2⟩
  have := h.o.fm
  simp only [List.mem_singleton] at hx
  omega
theorem SOwn.Result {w0 w : World} {b m sd : Nat} {n : Int} {vs : List (Int × Bool)} {ts : List Int} (h : SOwn w0 w b m sd n vs ts) (hl : vs.length ≤ 1000) (hn : 0 ≤ n ∧ n ≤ 1000) (z : Int) (hz : VResult n vs = z) :
    Calls Try.prog 41 #[.pointer (some ⟨b, 0, none⟩)] w fun e w' => e = .returned (.int .i64 z) ∧ SOwn w0 w' b m sd n vs ts := by
  refine (VResult_any w b m n vs h.o.v hl hn).mono ?_
  rintro e w' ⟨rfl, k⟩
  exact ⟨ret_i hz, h.keep k⟩
theorem SOwn.Counts {w0 w : World} {b m sd : Nat} {n : Int} {vs : List (Int × Bool)} {ts : List Int} (h : SOwn w0 w b m sd n vs ts) (hl : vs.length ≤ 1000) (x y : Int) (hx : (yesL vs : Int) = x) (hy : (vs.length : Int) - yesL vs = y) :
    Calls Try.prog 39 #[.pointer (some ⟨b, 0, none⟩)] w fun e w' => e = .returned (.tuple #[.int .i64 x, .int .i64 y]) ∧ SOwn w0 w' b m sd n vs ts := by
  refine (VCounts_any w b m n vs h.o.v hl).mono ?_
  rintro e w' ⟨rfl, k⟩
  exact ⟨by subst hx; subst hy; rfl, h.keep k⟩
theorem SOwn.read {w0 w : World} {b m sd : Nat} {n : Int} {vs : List (Int × Bool)} {ts : List Int} (h : SOwn w0 w b m sd n vs ts) (i : Nat) (hi : i < ts.length) :
    w.cell? ⟨sd, i + 1, none⟩ = some (.int .i64 (ts.getD i 0)) ∧ w.frozen? ⟨sd, i + 1, none⟩ = false := by
  obtain ⟨h1, h2, -⟩ := h.s.put (i + 1) (by simpa using hi) 0
  exact ⟨by simpa using h1, h2⟩
theorem SOwn.mark {w0 w : World} {b m sd : Nat} {n : Int} {vs : List (Int × Bool)} {ts : List Int} (h : SOwn w0 w b m sd n vs ts) (i : Nat) (hi : i < ts.length) :
    SOwn w0 (w.setCell ⟨sd, i + 1, none⟩ (.int .i64 1)) b m sd n vs (ts.set i 1) := by
  obtain ⟨-, -, h3⟩ := h.s.put (i + 1) (by simpa using hi) 1
  have k : Keeps [sd] w (w.setCell ⟨sd, i + 1, none⟩ (.int .i64 1)) := (Keeps.refl [sd] w).setCell (p := ⟨sd, i + 1, none⟩) (.inl (by simp)) _
  refine ⟨⟨h.o.v.keep k (by simpa using h.n2.symm) (by simpa using h.n1.symm), h.o.keeps.trans k (fun x hx hlt => ?_), h.o.fm⟩, ?_, h.fs, h.n1, h.n2⟩
  · have := h.fs
    simp only [List.mem_singleton] at hx
    omega
  · rw [List.length_set]
    simpa using h3

structure Seen (vs : List (Int × Bool)) (ts : List Int) : Prop where
  had : ∀ i : Nat, i < ts.length → hadB vs ((i : Int) + 1) = !(ts.getD i 0 == 0)
  all : vs.length = cnt 1 ts
  bit : ∀ i : Nat, i < ts.length → ts.getD i 0 = 0 ∨ ts.getD i 0 = 1

theorem Seen.start (n : Nat) : Seen [] (List.replicate n 0) := by
  refine ⟨(Agree.start n).had, ?_, fun i hi => .inl ?_⟩
  · rw [cnt_replicate 1 (by decide)]; rfl
  · simp only [List.length_replicate] at hi
    simp [hi]
theorem Seen.counts {vs : List (Int × Bool)} {ts : List Int} (h : Seen vs ts) (id : Int) : countsB ts.length vs id = rCounts ts id := by
  unfold countsB rCounts
  by_cases h1 : 1 ≤ id ∧ id ≤ ts.length
  · obtain ⟨i, rfl⟩ : ∃ i : Nat, id = (i : Int) + 1 := ⟨(id - 1).toNat, by omega⟩
    have e : ((i : Int) + 1 - 1).toNat = i := by omega
    rw [h.had i (by omega), e, decide_eq_true h1.1, decide_eq_true h1.2]
    simp
  · have : (decide (1 ≤ id) && decide (id ≤ (ts.length : Int))) = false := by
      simp only [Bool.and_eq_false_iff, decide_eq_false_iff_not]
      omega
    rw [this]
    simp
theorem Seen.put {vs : List (Int × Bool)} {ts : List Int} (h : Seen vs ts) (i : Nat) (hi : i < ts.length) (hz : ts.getD i 0 = 0) (g : Bool) : putV ts.length vs ((i : Int) + 1) g = ((i : Int) + 1, g) :: vs ∧ Seen (((i : Int) + 1, g) :: vs) (ts.set i 1) := by
  have hc : countsB ts.length vs ((i : Int) + 1) = true := by
    rw [h.counts]
    have e : ((i : Int) + 1 - 1).toNat = i := by omega
    simp only [rCounts, e, hz, Bool.and_eq_true, decide_eq_true_eq]
    exact ⟨⟨by omega, by omega⟩, rfl⟩
  refine ⟨by rw [putV, if_pos hc], ⟨fun j hj => ?_, ?_, fun j hj => ?_⟩⟩
  · have hj' : j < ts.length := by simpa using hj
    unfold hadB
    rw [List.any_cons]
    by_cases hij : i = j
    · subst hij
      simp [List.getD_eq_getElem?_getD, hi]
    · have : (ts.set i 1).getD j 0 = ts.getD j 0 := by simp [List.getD_eq_getElem?_getD, hij]
      rw [this, ← h.had j hj']
      have : (((i : Int) + 1) == (j : Int) + 1) = false := by
        rw [beq_eq_false_iff_ne]; omega
      rw [this]
      simp [hadB]
  · rw [List.length_cons, h.all, cnt_set 1 1 (by decide) ts i hi hz]
    simp
  · have hj' : j < ts.length := by simpa using hj
    by_cases hij : i = j
    · subst hij
      right
      simp [List.getD_eq_getElem?_getD, hi]
    · have : (ts.set i 1).getD j 0 = ts.getD j 0 := by simp [List.getD_eq_getElem?_getD, hij]
      rw [this]
      exact h.bit j hj'
theorem Seen.not {vs : List (Int × Bool)} {ts : List Int} (h : Seen vs ts) (id : Int) (hn : rCounts ts id = false) (g : Bool) : putV ts.length vs id g = vs := by
  rw [putV, h.counts, hn]
  rfl
theorem Seen.len {vs : List (Int × Bool)} {ts : List Int} (h : Seen vs ts) : vs.length ≤ ts.length := by
  rw [h.all]; exact cnt_le _ _

/-- once said, it stays. -/
theorem says_stays (n : Nat) (vs : List (Int × Bool)) (id : Int) (g : Bool) (hl : (putV n vs id g).length ≤ n) (h : VResult n vs ≠ 0) : VResult n (putV n vs id g) = VResult n vs := by
  have hy : yesL vs ≤ vs.length := List.length_filter_le _ _
  unfold putV at hl ⊢
  split
  · rename_i hc
    rw [if_pos hc, List.length_cons] at hl
    have e : yesL ((id, g) :: vs) = yesL vs + if g then 1 else 0 := by
      unfold yesL
      rw [List.filter_cons]
      cases g <;> simp
    unfold VResult saysV at h ⊢
    rw [e, List.length_cons]
    have hg : (if g = true then 1 else 0) ≤ 1 := by split <;> omega
    generalize (if g = true then 1 else 0) = d at *
    by_cases a : quorum n ≤ yesL vs
    · rw [if_pos a, if_pos (by omega)]
    · rw [if_neg a] at h ⊢
      by_cases b : (n : Int) - ((vs.length : Int) - yesL vs) < quorum n
      · rw [if_pos b, if_neg (by omega), if_pos (by omega)]
      · rw [if_neg b] at h
        exact absurd rfl h
  · rfl
theorem says_start (n : Nat) (h1 : 1 ≤ n) (h7 : n ≤ 7) : VResult n [] = 0 := by
  have : quorum n = (n : Int) / 2 + 1 := by unfold quorum; rw [if_neg (by omega)]
  unfold VResult saysV
  rw [this]
  show (if (n : Int) / 2 + 1 ≤ ((0 : Nat) : Int) then 1 else if (n : Int) - (((0 : Nat) : Int) - ((0 : Nat) : Int)) < (n : Int) / 2 + 1 then 2 else 0) = (0 : Int)
  rw [if_neg (by omega), if_neg (by omega)]

end Go.Proofs.Ytniceappkpiekaa
