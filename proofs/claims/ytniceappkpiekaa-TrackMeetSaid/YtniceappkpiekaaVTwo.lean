/-
  Votes and the document's beside them; a slice of votes that came in.
-/
import Derived.Test.YtniceappkpiekaaRefCounts
import Derived.Test.YtniceappkpiekaaLawKit
namespace Go.Proofs.Ytniceappkpiekaa
open Go.RowKit

/-- A slice of votes: (who, granted). -/
def BallotsAt (w : World) (v : Value) (ds : List (Int × Bool)) : Prop :=
  ∃ a cap, v = .slice a ds.length cap ∧ ds.length ≤ 9223372036854775807 ∧ (∀ d, d ∈ ds → -9223372036854775808 ≤ d.1 ∧ d.1 ≤ 9223372036854775807) ∧
    (ds = [] ∨ ∃ b off, a = some ⟨b, off, none⟩ ∧ ∀ i, i < ds.length → w.cell? ⟨b, off + i * 2, none⟩ = some (.int .i64 (ds.getD i (0, false)).1) ∧
      w.cell? ⟨b, off + i * 2 + 1, none⟩ = some (.bool (ds.getD i (0, false)).2))

/-- Votes behind w0; nothing of w0 has turned. -/
structure VOwn (w0 w : World) (b m : Nat) (n : Int) (vs : List (Int × Bool)) : Prop where
  v : VotesAt w b m n vs
  keeps : Keeps [] w0 w
  fm : w0.heap.size ≤ m

theorem VOwn.keep {w0 w w' : World} {b m : Nat} {n : Int} {vs : List (Int × Bool)} (h : VOwn w0 w b m n vs) (k : Keeps [] w w') : VOwn w0 w' b m n vs :=
  ⟨h.v.keep k (by simp) (by simp), h.keeps.trans k (by simp), h.fm⟩
theorem VOwn.drew {w0 w : World} {b m : Nat} {n : Int} {vs : List (Int × Bool)} (h : VOwn w0 w b m n vs) : VOwn w0 w.drew b m n vs := h.keep (Keeps.refl [] w).drew

theorem VOwn.Put {w0 w : World} {b m : Nat} {n : Int} {vs : List (Int × Bool)} (h : VOwn w0 w b m n vs) (id : Int) (g : Bool) (c : Bool) (hc : countsB n vs id = c) (hl : vs.length ≤ 1000)
    (hid : -9223372036854775808 ≤ id ∧ id ≤ 9223372036854775807) :
    Calls Try.prog 37 #[.pointer (some ⟨b, 0, none⟩), .int .i64 id, .bool g] w fun e w' => e = .returned (.bool c) ∧ VOwn w0 w' b m n (putV n vs id g) := by
  refine (VPut_any w b m n vs id g h.v hl hid).mono ?_
  rintro e w' ⟨rfl, h1, h2⟩
  refine ⟨ret_b hc, h1, h.keeps.trans h2 (fun x hx hlt => ?_), h.fm⟩
  have := h.fm
  simp only [List.mem_singleton] at hx
  omega
theorem VOwn.Counts {w0 w : World} {b m : Nat} {n : Int} {vs : List (Int × Bool)} (h : VOwn w0 w b m n vs) (hl : vs.length ≤ 1000) :
    Calls Try.prog 39 #[.pointer (some ⟨b, 0, none⟩)] w fun e w' => e = .returned (.tuple #[.int .i64 (yesL vs), .int .i64 ((vs.length : Int) - yesL vs)]) ∧ VOwn w0 w' b m n vs := by
  refine (VCounts_any w b m n vs h.v hl).mono ?_
  rintro e w' ⟨rfl, k⟩
  exact ⟨rfl, h.keep k⟩
theorem VOwn.Result {w0 w : World} {b m : Nat} {n : Int} {vs : List (Int × Bool)} (h : VOwn w0 w b m n vs) (hl : vs.length ≤ 1000) (hn : 0 ≤ n ∧ n ≤ 1000) :
    Calls Try.prog 41 #[.pointer (some ⟨b, 0, none⟩)] w fun e w' => e = .returned (.int .i64 (VResult n vs)) ∧ VOwn w0 w' b m n vs := by
  refine (VResult_any w b m n vs h.v hl hn).mono ?_
  rintro e w' ⟨rfl, k⟩
  exact ⟨rfl, h.keep k⟩

/-- both. -/
structure VTwo (w0 w : World) (b m rb rd : Nat) (n : Int) (vs : List (Int × Bool)) (cs : List Int) : Prop where
  o : VOwn w0 w b m n vs
  r : RVotesAt w rb rd cs
  fd : w0.heap.size ≤ rd
  n1 : m ≠ rb
  n2 : m ≠ rd
  n3 : rd ≠ b

theorem VTwo.keep {w0 w w' : World} {b m rb rd : Nat} {n : Int} {vs : List (Int × Bool)} {cs : List Int} (h : VTwo w0 w b m rb rd n vs cs) (k : Keeps [] w w') : VTwo w0 w' b m rb rd n vs cs :=
  ⟨h.o.keep k, h.r.keep k (by simp) (by simp), h.fd, h.n1, h.n2, h.n3⟩
theorem VTwo.drew {w0 w : World} {b m rb rd : Nat} {n : Int} {vs : List (Int × Bool)} {cs : List Int} (h : VTwo w0 w b m rb rd n vs cs) : VTwo w0 w.drew b m rb rd n vs cs := h.keep (Keeps.refl [] w).drew

theorem VTwo.Put {w0 w : World} {b m rb rd : Nat} {n : Int} {vs : List (Int × Bool)} {cs : List Int} (h : VTwo w0 w b m rb rd n vs cs) (id : Int) (g : Bool) (c : Bool) (hc : countsB n vs id = c) (hl : vs.length ≤ 1000)
    (hid : -9223372036854775808 ≤ id ∧ id ≤ 9223372036854775807) :
    Calls Try.prog 37 #[.pointer (some ⟨b, 0, none⟩), .int .i64 id, .bool g] w fun e w' => e = .returned (.bool c) ∧ VTwo w0 w' b m rb rd n (putV n vs id g) cs := by
  refine (VPut_any w b m n vs id g h.o.v hl hid).mono ?_
  rintro e w' ⟨rfl, h1, h2⟩
  refine ⟨ret_b hc, ⟨h1, h.o.keeps.trans h2 (fun x hx hlt => ?_), h.o.fm⟩, h.r.keep h2 (by simpa using h.n1.symm) (by simpa using h.n2.symm), h.fd, h.n1, h.n2, h.n3⟩
  have := h.o.fm
  simp only [List.mem_singleton] at hx
  omega
theorem VTwo.RPut {w0 w : World} {b m rb rd : Nat} {n : Int} {vs : List (Int × Bool)} {cs : List Int} (h : VTwo w0 w b m rb rd n vs cs) (id : Int) (g : Bool) (c : Bool) (hc : rCounts cs id = c)
    (hid : -9223372036854775808 ≤ id ∧ id ≤ 9223372036854775807) :
    Calls Try.prog 38 #[.pointer (some ⟨rb, 0, none⟩), .int .i64 id, .bool g] w fun e w' => e = .returned (.bool c) ∧ VTwo w0 w' b m rb rd n vs (rPut cs id g) := by
  refine (RPut_any w rb rd cs id g h.r hid).mono ?_
  rintro e w' ⟨rfl, h1, h2⟩
  refine ⟨ret_b hc, ⟨h.o.v.keep h2 (by simpa using h.n3.symm) (by simpa using h.n2), h.o.keeps.trans h2 (fun x hx hlt => ?_), h.o.fm⟩, h1, h.fd, h.n1, h.n2, h.n3⟩
  have := h.fd
  simp only [List.mem_singleton] at hx
  omega
theorem VTwo.Counts {w0 w : World} {b m rb rd : Nat} {n : Int} {vs : List (Int × Bool)} {cs : List Int} (h : VTwo w0 w b m rb rd n vs cs) (hl : vs.length ≤ 1000) (x y : Int) (hx : (yesL vs : Int) = x) (hy : (vs.length : Int) - yesL vs = y) :
    Calls Try.prog 39 #[.pointer (some ⟨b, 0, none⟩)] w fun e w' => e = .returned (.tuple #[.int .i64 x, .int .i64 y]) ∧ VTwo w0 w' b m rb rd n vs cs := by
  refine (VCounts_any w b m n vs h.o.v hl).mono ?_
  rintro e w' ⟨rfl, k⟩
  exact ⟨by subst hx; subst hy; rfl, h.keep k⟩
theorem VTwo.RCounts {w0 w : World} {b m rb rd : Nat} {n : Int} {vs : List (Int × Bool)} {cs : List Int} (h : VTwo w0 w b m rb rd n vs cs) (x y : Int) (hx : (cnt 1 cs : Int) = x) (hy : (cnt 2 cs : Int) = y) :
    Calls Try.prog 40 #[.pointer (some ⟨rb, 0, none⟩)] w fun e w' => e = .returned (.tuple #[.int .i64 x, .int .i64 y]) ∧ w = w' := by
  refine (RCounts_any w rb rd cs h.r).mono ?_
  rintro e w' ⟨rfl, k⟩
  exact ⟨by rw [hx, hy], k⟩
theorem VTwo.Result {w0 w : World} {b m rb rd : Nat} {n : Int} {vs : List (Int × Bool)} {cs : List Int} (h : VTwo w0 w b m rb rd n vs cs) (hl : vs.length ≤ 1000) (hn : 0 ≤ n ∧ n ≤ 1000) (z : Int) (hz : VResult n vs = z) :
    Calls Try.prog 41 #[.pointer (some ⟨b, 0, none⟩)] w fun e w' => e = .returned (.int .i64 z) ∧ VTwo w0 w' b m rb rd n vs cs := by
  refine (VResult_any w b m n vs h.o.v hl hn).mono ?_
  rintro e w' ⟨rfl, k⟩
  exact ⟨ret_i hz, h.keep k⟩
theorem VTwo.RResult {w0 w : World} {b m rb rd : Nat} {n : Int} {vs : List (Int × Bool)} {cs : List Int} (h : VTwo w0 w b m rb rd n vs cs) (z : Int) (hz : RResult cs = z) :
    Calls Try.prog 42 #[.pointer (some ⟨rb, 0, none⟩)] w fun e w' => e = .returned (.int .i64 z) ∧ w = w' := by
  refine (RResult_any w rb rd cs h.r).mono ?_
  rintro e w' ⟨rfl, k⟩
  exact ⟨ret_i hz, k⟩

/-- they agree. -/
structure Agree (vs : List (Int × Bool)) (cs : List Int) : Prop where
  had : ∀ i : Nat, i < cs.length → hadB vs ((i : Int) + 1) = !(cs.getD i 0 == 0)
  yes : yesL vs = cnt 1 cs
  all : vs.length = cnt 1 cs + cnt 2 cs

theorem cnt_replicate (x : Int) (hx : x ≠ 0) (n : Nat) : cnt x (List.replicate n 0) = 0 := by
  unfold cnt
  rw [List.filter_eq_nil_iff.2]
  · rfl
  · intro a ha
    have := (List.mem_replicate.1 ha).2
    subst this
    simpa using fun e => hx e.symm
theorem Agree.start (n : Nat) : Agree [] (List.replicate n 0) := by
  refine ⟨fun i hi => ?_, ?_, ?_⟩
  · simp only [List.length_replicate] at hi
    simp [hadB, hi]
  · rw [cnt_replicate 1 (by decide)]; rfl
  · rw [cnt_replicate 1 (by decide), cnt_replicate 2 (by decide)]; rfl
theorem cnt_cons (x c : Int) (cs : List Int) : cnt x (c :: cs) = cnt x cs + if c == x then 1 else 0 := by
  unfold cnt
  rw [List.filter_cons]
  split <;> simp
theorem cnt_set (x y : Int) (hx : x ≠ 0) : ∀ (cs : List Int) (i : Nat), i < cs.length → cs.getD i 0 = 0 → cnt x (cs.set i y) = cnt x cs + if y == x then 1 else 0
  | [], _, h, _ => by simp at h
  | c :: r, 0, _, h => by
    simp only [List.getD_cons_zero] at h
    subst h
    have : ((0 : Int) == x) = false := by simpa using fun e => hx e.symm
    rw [List.set_cons_zero, cnt_cons, cnt_cons, this]
    simp
  | c :: r, i + 1, hi, h => by
    rw [List.set_cons_succ, cnt_cons, cnt_cons, cnt_set x y hx r i (by simpa using hi) (by simpa using h)]
    omega
theorem cnt12 : ∀ cs : List Int, cnt 1 cs + cnt 2 cs ≤ cs.length
  | [] => by simp [cnt]
  | c :: r => by
    have := cnt12 r
    rw [cnt_cons, cnt_cons, List.length_cons]
    by_cases h1 : c = 1
    · subst h1
      simp
      omega
    · have : (c == 1) = false := by simpa using h1
      rw [this]
      simp
      split <;> omega
theorem Agree.counts {vs : List (Int × Bool)} {cs : List Int} (h : Agree vs cs) (id : Int) : countsB cs.length vs id = rCounts cs id := by
  unfold countsB rCounts
  by_cases h1 : 1 ≤ id ∧ id ≤ cs.length
  · obtain ⟨i, rfl⟩ : ∃ i : Nat, id = (i : Int) + 1 := ⟨(id - 1).toNat, by omega⟩
    have e : ((i : Int) + 1 - 1).toNat = i := by omega
    rw [h.had i (by omega), e, decide_eq_true h1.1, decide_eq_true h1.2]
    simp
  · have : (decide (1 ≤ id) && decide (id ≤ (cs.length : Int))) = false := by
      simp only [Bool.and_eq_false_iff, decide_eq_false_iff_not]
      omega
    rw [this]
    simp
theorem Agree.put {vs : List (Int × Bool)} {cs : List Int} (h : Agree vs cs) (id : Int) (g : Bool) : Agree (putV cs.length vs id g) (rPut cs id g) := by
  have hc := h.counts id
  unfold putV rPut
  rw [hc]
  by_cases hr : rCounts cs id = true
  · rw [if_pos hr, if_pos hr]
    have hr' := hr
    simp only [rCounts, Bool.and_eq_true, decide_eq_true_eq, beq_iff_eq] at hr'
    obtain ⟨⟨h1, h2⟩, h3⟩ := hr'
    obtain ⟨i, rfl⟩ : ∃ i : Nat, id = (i : Int) + 1 := ⟨(id - 1).toNat, by omega⟩
    have e : ((i : Int) + 1 - 1).toNat = i := by omega
    rw [e] at h3 ⊢
    have hi : i < cs.length := by omega
    refine ⟨fun j hj => ?_, ?_, ?_⟩
    · have hj' : j < cs.length := by simpa using hj
      unfold hadB
      rw [List.any_cons]
      by_cases hij : i = j
      · subst hij
        have : (cs.set i (if g then 1 else 2)).getD i 0 = if g then 1 else 2 := by simp [List.getD_eq_getElem?_getD, hi]
        rw [this]
        cases g <;> simp
      · have : (cs.set i (if g then 1 else 2)).getD j 0 = cs.getD j 0 := by simp [List.getD_eq_getElem?_getD, hij]
        rw [this, ← h.had j hj']
        have : (((i : Int) + 1) == (j : Int) + 1) = false := by
          rw [beq_eq_false_iff_ne]; omega
        rw [this]
        simp [hadB]
    · rw [cnt_set 1 _ (by decide) cs i hi h3, ← h.yes]
      unfold yesL
      rw [List.filter_cons]
      cases g <;> simp
    · rw [List.length_cons, h.all, cnt_set 1 _ (by decide) cs i hi h3, cnt_set 2 _ (by decide) cs i hi h3]
      cases g <;> simp <;> omega
  · have hr' : rCounts cs id = false := by simpa using hr
    rw [hr']
    exact h
theorem Agree.result {vs : List (Int × Bool)} {cs : List Int} (h : Agree vs cs) : VResult cs.length vs = RResult cs := by
  unfold VResult RResult
  rw [h.yes, h.all]
  congr 1
  omega
theorem Agree.len {vs : List (Int × Bool)} {cs : List Int} (h : Agree vs cs) : vs.length ≤ cs.length := by
  rw [h.all]; exact cnt12 cs

end Go.Proofs.Ytniceappkpiekaa
