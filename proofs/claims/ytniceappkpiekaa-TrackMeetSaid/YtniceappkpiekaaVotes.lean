/-
  track.Votes: a map of votes behind a pointer: what each method answers, and what becomes of memory.
-/
import Derived.Test.YtniceappkpiekaaFirst
import Derived.Maps.OwnSet
import Derived.Maps.RangeWalk
namespace Go.Proofs.Ytniceappkpiekaa
open Go.RowKit Go.Maps

theorem lawInt : Keyed Try.prog 3 := int_keyed Try.underlying3
theorem zeroBool (w : World) : (zeroValue 4).run Try.prog w = .ok (.bool false) w := by kernel_rfl

/-- what the map reads as; the last vote first. -/
def VD : List (Int × Bool) → DataW Unit
  | [] => .map []
  | p :: r => (VD r).put (.int .i64 p.1) (.lit (.bool p.2))

abbrev Apart (vs : List (Int × Bool)) : Prop := vs.Pairwise (fun p q => p.1 ≠ q.1)
def hadB (vs : List (Int × Bool)) (id : Int) : Bool := vs.any (fun p => p.1 == id)

theorem isKey (x : Int) : WideAt.IsKeyLit (.int .i64 x) := trivial
theorem VD_isMap : ∀ vs, IsMap (VD vs)
  | [] => isMap_empty
  | _ :: r => (VD_isMap r).put _ _
theorem VD_tidy : ∀ vs, Tidy (VD vs)
  | [] => tidy_empty
  | _ :: r => (VD_tidy r).put (isKey _) _
theorem litNe {x y : Int} (h : x ≠ y) : (Lit.int .i64 x) ≠ .int .i64 y := fun e => h (by injection e)
theorem VD_has (x : Int) : ∀ vs, Maps.has (VD vs) (.int .i64 x) = hadB vs x
  | [] => rfl
  | p :: r => by
    unfold VD hadB
    rw [List.any_cons]
    by_cases h : p.1 = x
    · rw [h, has_put_same (VD_isMap r) (isKey _)]; simp
    · rw [has_put_other (litNe (fun e => h e.symm)), VD_has x r]
      simp [h, hadB]
theorem VD_size : ∀ vs, Apart vs → Maps.size (VD vs) = vs.length
  | [], _ => rfl
  | p :: r, h => by
    obtain ⟨h1, h2⟩ := List.pairwise_cons.1 h
    have hh : hadB r p.1 = false := by
      unfold hadB
      rw [List.any_eq_false]
      intro q hq
      have := h1 q hq
      simp only [beq_iff_eq]
      exact fun e => this e.symm
    unfold VD
    rw [size_put (VD_tidy r), VD_has, hh]
    simp [VD_size r h2]
theorem VD_at (x : Int) (c : Bool) : ∀ vs, (∀ zd, (VD vs).atKey (.int .i64 x) zd = .lit (.bool c)) → (x, c) ∈ vs
  | [], h => by have := h .nil; cases this
  | p :: r, h => by
    by_cases e : p.1 = x
    · have := h .nil
      unfold VD at this
      rw [e, atKey_put_same (VD_isMap r) (isKey _)] at this
      injection this with t
      injection t with t
      rw [← e, ← t]
      simp
    · refine List.mem_cons_of_mem _ (VD_at x c r fun zd => ?_)
      have := h zd
      unfold VD at this
      rwa [atKey_put_other (litNe (fun e' => e e'.symm))] at this

def yesL (vs : List (Int × Bool)) : Nat := (vs.filter (·.2)).length
def yesGone (vs : List (Int × Bool)) (left : Lit → Bool) : Nat := (vs.filter (fun p => p.2 && !left (.int .i64 p.1))).length

theorem yesGone_start (vs : List (Int × Bool)) : yesGone vs (Maps.has (VD vs)) = 0 := by
  unfold yesGone
  rw [List.filter_eq_nil_iff.2]
  · rfl
  · intro p hp
    rw [VD_has]
    have : hadB vs p.1 = true := List.any_eq_true.2 ⟨p, hp, by simp⟩
    simp [this]
theorem yesGone_end (vs : List (Int × Bool)) (left : Lit → Bool) (h : ∀ kl, left kl = false) : yesGone vs left = yesL vs := by
  unfold yesGone yesL
  congr 1
  exact List.filter_congr (fun p _ => by simp [h])
theorem same_of {x y : Int} (h : x = y) : (Lit.int .i64 x).sameKey (.int .i64 y) = true := by subst h; exact WideAt.sameKey_self (isKey x)
theorem same_not {x y : Int} (h : x ≠ y) : (Lit.int .i64 x).sameKey (.int .i64 y) = false := sameKey_ne (litNe h)
theorem yesGone_cons (p : Int × Bool) (r : List (Int × Bool)) (left : Lit → Bool) : yesGone (p :: r) left = yesGone r left + if p.2 && !left (.int .i64 p.1) then 1 else 0 := by
  unfold yesGone
  rw [List.filter_cons]
  split <;> simp
theorem yesGone_other (x : Int) (left : Lit → Bool) : ∀ vs, (∀ p ∈ vs, p.1 ≠ x) → yesGone vs (fun z => left z && !z.sameKey (.int .i64 x)) = yesGone vs left
  | [], _ => rfl
  | p :: r, h => by
    rw [yesGone_cons, yesGone_cons, yesGone_other x left r (fun q hq => h q (by simp [hq]))]
    simp [same_not (h p (by simp))]
theorem yesGone_step (x : Int) (c : Bool) (left : Lit → Bool) (hl : left (.int .i64 x) = true) : ∀ vs, Apart vs → (x, c) ∈ vs → yesGone vs (fun z => left z && !z.sameKey (.int .i64 x)) = yesGone vs left + if c then 1 else 0
  | p :: r, ha, hm => by
    obtain ⟨h1, h2⟩ := List.pairwise_cons.1 ha
    rw [yesGone_cons, yesGone_cons]
    rcases List.mem_cons.1 hm with e | hm'
    · subst e
      rw [yesGone_other x left r (fun q hq e => h1 q hq e.symm)]
      simp [hl, same_of]
    · rw [yesGone_step x c left hl r h2 hm']
      have := h1 _ hm'
      simp [same_not this]
      omega

/-- Votes in memory: the structure in block b, the map in block m. -/
structure VotesAt (w : World) (b m : Nat) (n : Int) (vs : List (Int × Bool)) : Prop where
  blk : Blk w b #[.int .i64 n, .map (some m)] 69
  own : w.ownsMap Try.prog 3 (plainElem Try.prog 4) m vs.length (VD vs)
  apart : Apart vs

theorem ownsMap_keep {w w' : World} {F : List Nat} {m n : Nat} {D : DataW Unit} (h : w.ownsMap Try.prog 3 (plainElem Try.prog 4) m n D) (k : Keeps F w w') (hm : m ∉ F) : w'.ownsMap Try.prog 3 (plainElem Try.prog 4) m n D := by
  have hlt := h.lt
  obtain ⟨es, clock, hb, F, hs, hD⟩ := h
  exact ⟨es, clock, (k.block m hlt hm).trans hb, F, hs, hD⟩
theorem VotesAt.keep {w w' : World} {F : List Nat} {b m : Nat} {n : Int} {vs : List (Int × Bool)} (h : VotesAt w b m n vs) (k : Keeps F w w') (hb : b ∉ F) (hm : m ∉ F) : VotesAt w' b m n vs :=
  ⟨k.blk h.blk hb, ownsMap_keep h.own k hm, h.apart⟩
theorem VotesAt.ne {w : World} {b m : Nat} {n : Int} {vs : List (Int × Bool)} (h : VotesAt w b m n vs) : b ≠ m := by
  obtain ⟨es, clock, hb, -⟩ := h.own
  have := h.blk
  unfold Blk at this
  rintro rfl
  rw [hb] at this
  cases this

set_option maxHeartbeats 400000 in
theorem NewVotes_no (n : Int) (w : World) (h : quorum n = 0) :
    Calls Try.prog 35 #[.int .i64 n] w fun e w' => e = .returned (.pointer none) ∧ w = w' := by
  go_enter Try.func35, Try.ntmps35
  go_wp2_with (go_at_call 14; refine (Quorum_any _ _).mono ?_; rintro e w' ⟨rfl, rfl⟩)
  go_ret
  exact ⟨rfl, rfl⟩

set_option maxHeartbeats 400000 in
theorem NewVotes_yes (n : Int) (w : World) (h : quorum n ≠ 0) :
    Calls Try.prog 35 #[.int .i64 n] w fun e w' => e = .returned (.pointer (some ⟨w.heap.size + 1, 0, none⟩)) ∧ VotesAt w' (w.heap.size + 1) w.heap.size n [] ∧ Keeps [] w w' := by
  have hmm := @run_makeMap Try.prog
  have h' : (quorum n == 0) = false := by rw [beq_eq_false_iff_ne]; exact h
  have k1 := (Keeps.refl [] w).alloc (.map #[] 0)
  clear h
  go_enter Try.func35, Try.ntmps35
  go_wp2_with (go_at_call 14; refine (Quorum_any _ _).mono ?_; rintro e w' ⟨rfl, rfl⟩)
  go_ret
  refine ⟨by simp, ⟨Blk.new' _ _ (by simp) _ _, (World.ownsMap_made w _ _ _).alloc _, List.Pairwise.nil⟩, k1.alloc _⟩

/-- does a vote count? -/
def countsB (n : Int) (vs : List (Int × Bool)) (id : Int) : Bool := !hadB vs id && (decide (1 ≤ id) && decide (id ≤ n))
def putV (n : Int) (vs : List (Int × Bool)) (id : Int) (g : Bool) : List (Int × Bool) := if countsB n vs id then (id, g) :: vs else vs

theorem putV_apart {n : Int} {vs : List (Int × Bool)} {id : Int} {g : Bool} (h : Apart vs) : Apart (putV n vs id g) := by
  unfold putV
  split
  · rename_i hc
    refine List.pairwise_cons.2 ⟨fun q hq e => ?_, h⟩
    have : hadB vs id = true := List.any_eq_true.2 ⟨q, hq, by simpa using e.symm⟩
    simp [countsB, this] at hc
  · exact h

set_option maxRecDepth 100000 in
set_option maxHeartbeats 1600000 in
theorem VPut_any (w : World) (b m : Nat) (n : Int) (vs : List (Int × Bool)) (id : Int) (g : Bool) (h : VotesAt w b m n vs) (hl : vs.length ≤ 1000)
    (hid : -9223372036854775808 ≤ id ∧ id ≤ 9223372036854775807) :
    Calls Try.prog 37 #[.pointer (some ⟨b, 0, none⟩), .int .i64 id, .bool g] w fun e w' => e = .returned (.bool (countsB n vs id)) ∧ VotesAt w' b m n (putV n vs id g) ∧ Keeps [m] w w' := by
  have hw : (Lit.int .i64 id).wf = true := by simpa [Lit.wf, IntKind.min, IntKind.max, IntKind.signed, IntKind.bits] using hid
  have hkey := keyOf_int_mk Try.underlying3 hw
  have c0 : w.cell? ⟨b, 0, none⟩ = some (.int .i64 n) := h.blk.c 0
  have c1 : w.cell? ⟨b, 0 + 1, none⟩ = some (.map (some m)) := h.blk.c 1
  have hown := h.own
  have hhas := VD_has id vs
  have hn : vs.length < maxLen := by simp [maxLen]; omega
  have hz := plainElem_bool (H := Unit) Try.underlying4 false
  have hz2 := plainElem_bool (H := Unit) Try.underlying4 g
  cases hh : hadB vs id
  · rw [hh] at hhas
    by_cases h1 : id < 1
    · have hc : countsB n vs id = false := by simp [countsB]; omega
      have hp : putV n vs id g = vs := by simp [putV, hc]
      have K := Lib.hid (And.intro h (Keeps.refl [m] w))
      rw [hc, hp]
      clear hid hc hp h
      go_enter Try.func37, Try.ntmps37
      go_wp2_with (at_lookup; refine wpList_lookup_own_ok _ rfl _ _ 67 rfl 3 4 lawInt Try.underlying67 _ (zeroBool _) _ _ hz m vs.length _ rfl hown _ _ rfl hkey ?_; intro v ps hv)
      go_ret
      exact ⟨rfl, K.out⟩
    · by_cases h2 : n < id
      · have hc : countsB n vs id = false := by simp [countsB]; omega
        have hp : putV n vs id g = vs := by simp [putV, hc]
        have K := Lib.hid (And.intro h (Keeps.refl [m] w))
        rw [hc, hp]
        clear hid hc hp h
        go_enter Try.func37, Try.ntmps37
        go_wp2_with (at_lookup; refine wpList_lookup_own_ok _ rfl _ _ 67 rfl 3 4 lawInt Try.underlying67 _ (zeroBool _) _ _ hz m vs.length _ rfl hown _ _ rfl hkey ?_; intro v ps hv)
        go_ret
        exact ⟨rfl, K.out⟩
      · have hc : countsB n vs id = true := by simp [countsB, hh]; omega
        have ha := Lib.hid (putV_apart (n := n) (id := id) (g := g) h.apart)
        have hp : putV n vs id g = (id, g) :: vs := by simp [putV, hc]
        have K := Lib.hid (And.intro h (Keeps.refl [m] w))
        rw [hc]
        rw [hp] at ha ⊢
        clear hid hc hp h
        go_enter Try.func37, Try.ntmps37
        go_wp2_with (first | (at_lookup; refine wpList_lookup_own_ok _ rfl _ _ 67 rfl 3 4 lawInt Try.underlying67 _ (zeroBool _) _ _ hz m vs.length _ rfl hown _ _ rfl hkey ?_; intro v ps hv) | (at_mapUpdate; refine wpList_mapUpdate_own _ rfl _ _ _ 67 rfl 3 4 lawInt Try.underlying67 _ m vs.length _ rfl hown hn _ _ _ rfl rfl hkey _ [] hz2 ?_; intro w1 hown1 hgrow1))
        go_ret
        have k1 := K.out.2.grown hgrow1 (by simp)
        exact ⟨rfl, ⟨k1.blk K.out.1.blk (by simpa using K.out.1.ne), hown1, ha.out⟩, k1⟩
  · rw [hh] at hhas
    have hc : countsB n vs id = false := by simp [countsB, hh]
    have hp : putV n vs id g = vs := by simp [putV, hc]
    have K := Lib.hid (And.intro h (Keeps.refl [m] w))
    rw [hc, hp]
    clear hid hc hp h
    go_enter Try.func37, Try.ntmps37
    go_wp2_with (at_lookup; refine wpList_lookup_own_ok _ rfl _ _ 67 rfl 3 4 lawInt Try.underlying67 _ (zeroBool _) _ _ hz m vs.length _ rfl hown _ _ rfl hkey ?_; intro v ps hv)
    go_ret
    exact ⟨rfl, K.out⟩

end Go.Proofs.Ytniceappkpiekaa
