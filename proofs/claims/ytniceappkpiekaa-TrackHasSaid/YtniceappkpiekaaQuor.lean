/-
  What a quorum has: plain laws on lists of numbers.
-/
import Derived.Test.YtniceappkpiekaaRefCommit
namespace Go.Proofs.Ytniceappkpiekaa
open Go.RowKit

def cgt (x : Int) (xs : List Int) : Nat := (xs.filter (fun y => decide (x < y))).length

theorem sorted_perm (xs : List Int) : (sorted xs).Perm xs := List.mergeSort_perm _ _
theorem sorted_pairwise (xs : List Int) : (sorted xs).Pairwise (· ≤ ·) := by
  have h := List.pairwise_mergeSort (le := fun x y : Int => decide (x ≤ y)) (fun a b c hab hbc => by simp at *; omega) (fun a b => by simp; omega) xs
  exact h.imp (by simp)
theorem cge_perm {x : Int} {xs ys : List Int} (h : xs.Perm ys) : cge x xs = cge x ys := (h.filter _).length_eq
theorem cgt_perm {x : Int} {xs ys : List Int} (h : xs.Perm ys) : cgt x xs = cgt x ys := (h.filter _).length_eq
theorem cge_append (x : Int) (xs ys : List Int) : cge x (xs ++ ys) = cge x xs + cge x ys := by simp [cge]
theorem cgt_append (x : Int) (xs ys : List Int) : cgt x (xs ++ ys) = cgt x xs + cgt x ys := by simp [cgt]
theorem cge_all {x : Int} {xs : List Int} (h : ∀ y, y ∈ xs → x ≤ y) : cge x xs = xs.length := by
  unfold cge
  rw [List.filter_eq_self.2 (fun y hy => by simpa using h y hy)]
theorem cgt_none {x : Int} {xs : List Int} (h : ∀ y, y ∈ xs → y ≤ x) : cgt x xs = 0 := by
  unfold cgt
  rw [List.filter_eq_nil_iff.2 (fun y hy => by simpa using h y hy)]
  rfl
theorem cgt_le (x : Int) (xs : List Int) : cgt x xs ≤ xs.length := List.length_filter_le _ _
theorem cge_le_cgt {c x : Int} (h : c < x) (xs : List Int) : cge x xs ≤ cgt c xs := by
  induction xs with
  | nil => simp [cge, cgt]
  | cons y r ih =>
    have e1 : cge x (y :: r) = cge x r + if x ≤ y then 1 else 0 := by by_cases h : x ≤ y <;> simp [cge, h]
    have e2 : cgt c (y :: r) = cgt c r + if c < y then 1 else 0 := by by_cases h : c < y <;> simp [cgt, h]
    rw [e1, e2]
    by_cases h1 : x ≤ y
    · rw [if_pos h1, if_pos (by omega)]; omega
    · rw [if_neg h1]; split <;> omega

/-- a number that so many have, and that fewer are above. -/
structure IsC (xs : List Int) (q : Nat) (c : Int) : Prop where
  mem : c ∈ xs
  have_ : q ≤ cge c xs
  above : cgt c xs < q

theorem isC_sorted (xs : List Int) (q : Nat) (h1 : 1 ≤ q) (h2 : q ≤ xs.length) : IsC xs q ((sorted xs).getD (xs.length - q) 0) := by
  have hl := sorted_length xs
  have hp := sorted_perm xs
  have hw := sorted_pairwise xs
  have hi : xs.length - q < (sorted xs).length := by omega
  have hg : (sorted xs).getD (xs.length - q) 0 = (sorted xs)[xs.length - q] := by
    rw [List.getD_eq_getElem?_getD, List.getElem?_eq_getElem hi]
    rfl
  rw [hg]
  refine ⟨hp.mem_iff.1 (List.getElem_mem hi), ?_, ?_⟩
  · rw [← cge_perm hp]
    have e : cge (sorted xs)[xs.length - q] (sorted xs) = cge (sorted xs)[xs.length - q] ((sorted xs).take (xs.length - q)) + cge (sorted xs)[xs.length - q] ((sorted xs).drop (xs.length - q)) := by
      rw [← cge_append, List.take_append_drop]
    have e2 : cge (sorted xs)[xs.length - q] ((sorted xs).drop (xs.length - q)) = q := by
      rw [cge_all (fun y hy => ?_), List.length_drop]
      · omega
      · obtain ⟨j, hj, rfl⟩ := List.getElem_of_mem hy
        rw [List.getElem_drop]
        by_cases h0 : j = 0
        · subst h0; simp
        · exact List.pairwise_iff_getElem.1 hw _ _ _ _ (by omega)
    omega
  · rw [← cgt_perm hp]
    have e : cgt (sorted xs)[xs.length - q] (sorted xs) = cgt (sorted xs)[xs.length - q] ((sorted xs).take (xs.length - q + 1)) + cgt (sorted xs)[xs.length - q] ((sorted xs).drop (xs.length - q + 1)) := by
      rw [← cgt_append, List.take_append_drop]
    have e2 : cgt (sorted xs)[xs.length - q] ((sorted xs).take (xs.length - q + 1)) = 0 := cgt_none (fun y hy => by
      obtain ⟨j, hj, rfl⟩ := List.getElem_of_mem hy
      rw [List.getElem_take]
      simp only [List.length_take] at hj
      by_cases h0 : j = xs.length - q
      · subst h0; exact Int.le_refl _
      · exact List.pairwise_iff_getElem.1 hw _ _ _ _ (by omega))
    have e3 := cgt_le (sorted xs)[xs.length - q] ((sorted xs).drop (xs.length - q + 1))
    rw [List.length_drop] at e3
    omega

theorem IsC.top {xs : List Int} {q : Nat} {c x : Int} (h : IsC xs q c) (hx : q ≤ cge x xs) : x ≤ c := by
  by_cases hlt : c < x
  · have := cge_le_cgt hlt xs
    have := h.above
    omega
  · omega
theorem IsC.unique {xs : List Int} {q : Nat} {c d : Int} (h : IsC xs q c) (h' : IsC xs q d) : c = d := by
  have := h.top h'.have_
  have := h'.top h.have_
  omega

theorem foldl_better (all : List Int) (q : Nat) (hq : (q : Int) = quorum all.length) (c : Int) (h : IsC all q c) : ∀ (l : List Int) (b : Int), b ≤ c → (b = c ∨ c ∈ l) → l.foldl (better all) b = c := by
  intro l
  induction l with
  | nil => intro b hb hc; simpa using hc
  | cons x r ih =>
    intro b hb hc
    rw [List.foldl_cons]
    unfold better
    by_cases hx : quorum all.length ≤ (cge x all : Int) ∧ b < x
    · rw [if_pos hx]
      have hxc : x ≤ c := h.top (by have := hx.1; omega)
      refine ih x hxc ?_
      rcases hc with rfl | hc
      · omega
      · simp only [List.mem_cons] at hc
        rcases hc with rfl | hc
        · exact .inl rfl
        · exact .inr hc
    · rw [if_neg hx]
      refine ih b hb ?_
      rcases hc with rfl | hc
      · exact .inl rfl
      · simp only [List.mem_cons] at hc
        rcases hc with rfl | hc
        · left
          have := h.have_
          have : ¬ b < c := fun hh => hx ⟨by omega, hh⟩
          omega
        · exact .inr hc

theorem quorum_nat (n : Nat) (h1 : 1 ≤ n) (h7 : n ≤ 7) : ((n / 2 + 1 : Nat) : Int) = quorum n := by rw [quorum_ge n h1 h7]; omega

theorem commitP_isC (xs : List Int) (h1 : 1 ≤ xs.length) (h7 : xs.length ≤ 7) : IsC xs (xs.length / 2 + 1) (commitP xs) := by
  have hq := quorum_nat xs.length h1 h7
  have : commitP xs = (sorted xs).getD (xs.length - (xs.length / 2 + 1)) 0 := by
    rw [commitP, if_neg (by omega), ← hq]
    rfl
  rw [this]
  exact isC_sorted xs _ (by omega) (by omega)

theorem commit_same (xs : List Int) (h : ∀ x, x ∈ xs → 0 ≤ x) : commitP xs = refCommit xs := by
  by_cases h0 : xs.length = 0 ∨ 7 < xs.length
  · rw [refCommit, if_pos h0, commitP, if_pos (quorum_zero _ (by omega))]
  · have hc := commitP_isC xs (by omega) (by omega)
    rw [refCommit, if_neg h0]
    exact (foldl_better xs _ (quorum_nat _ (by omega) (by omega)) _ hc xs 0 (h _ hc.mem) (.inr hc.mem)).symm

end Go.Proofs.Ytniceappkpiekaa
