/-
  synodref9.Votes: a slice of votes behind a pointer.
-/
import Derived.Test.YtniceappkpiekaaCounts
namespace Go.Proofs.Ytniceappkpiekaa
open Go.RowKit

theorem Ints.put {w : World} {d n cap : Nat} {xs : List Int} (h : Ints w (.slice (some ⟨d, 0, none⟩) n cap) xs [d]) (i : Nat) (hi : i < xs.length) (x : Int) :
    w.cell? ⟨d, i, none⟩ = some (.int .i64 (xs.getD i 0)) ∧ w.frozen? ⟨d, i, none⟩ = false ∧ Ints (w.setCell ⟨d, i, none⟩ (.int .i64 x)) (.slice (some ⟨d, 0, none⟩) n cap) (xs.set i x) [d] := by
  obtain ⟨a, cap, e, h1, h2, h3, h4⟩ := h
  injection e with ea en ec
  subst en ec
  rcases h4 with ⟨rfl, _, _⟩ | ⟨d', off, arr, rfl, e2, e3, e4, e5⟩
  · cases ea
  · simp only [Option.some.injEq, Addr.mk.injEq] at ea
    obtain ⟨rfl, rfl, -⟩ := ea
    refine ⟨?_, e3.fr _, _, cap, by simp, by simpa using h1, h2, by simp [intsV], .inr ⟨d, 0, _, rfl, rfl, e3.setCell i _, by simpa using e4, fun j hj => ?_⟩⟩
    · rw [e3.c]
      have := e5 i (by omega)
      rw [Nat.zero_add] at this
      rw [this, intsV_get _ _ hi]
    · have hj' : j < xs.length := by simpa using hj
      rw [intsV_get _ _ (by simpa using hj')]
      by_cases e : i = j
      · subst e
        have : i < arr.size := by omega
        simp [this, List.getD_eq_getElem?_getD, hi]
      · rw [Array.getElem?_setIfInBounds_ne (by omega), e5 j (by omega), intsV_get _ _ hj']
        simp [List.getD_eq_getElem?_getD, e]

theorem Ints.made {w : World} {base d n : Nat} (h : w.ownsRow base 3 1 (.slice (some ⟨d, 0, none⟩) n n) n (madeCells (Value.int .i64 0).cells (n * 1)).toList) : Ints w (.slice (some ⟨d, 0, none⟩) n n) (List.replicate n 0) [d] := by
  have e : (madeCells (Value.int .i64 0).cells (n * 1)).toList = intsV (List.replicate n 0) := by
    show (madeCells #[Value.int .i64 0] (n * 1)).toList = _
    rw [toList_madeCells_one]
    simp [intsV]
  rw [e] at h
  obtain ⟨D, r, -⟩ := Row.of_owns h
  have r' := r
  obtain ⟨a, cap, ee, h1, h2, h3, h4⟩ := r'
  injection ee with ea en ec
  rcases h4 with ⟨h4, _, _⟩ | ⟨d', off, arr, h4, e2, -⟩
  · rw [h4] at ea; cases ea
  · rw [h4] at ea
    simp only [Option.some.injEq, Addr.mk.injEq] at ea
    obtain ⟨rfl, rfl, -⟩ := ea
    subst e2
    unfold Ints
    rw [List.length_replicate]
    exact r

/-- Votes of the reference: the structure in block b, its cells in block d. -/
structure RVotesAt (w : World) (b d : Nat) (cs : List Int) : Prop where
  blk : Blk w b #[.slice (some ⟨d, 0, none⟩) cs.length cs.length] 71
  row : Ints w (.slice (some ⟨d, 0, none⟩) cs.length cs.length) cs [d]
  ne : b ≠ d
  pos : 1 ≤ cs.length
  le : cs.length ≤ 7

theorem RVotesAt.keep {w w' : World} {F : List Nat} {b d : Nat} {cs : List Int} (h : RVotesAt w b d cs) (k : Keeps F w w') (hb : b ∉ F) (hd : d ∉ F) : RVotesAt w' b d cs :=
  ⟨k.blk h.blk hb, Row.keep h.row k (by simpa using hd), h.ne, h.pos, h.le⟩

set_option maxHeartbeats 400000 in
theorem RNewVotes_no (n : Int) (w : World) (h : quorum n = 0) :
    Calls Try.prog 36 #[.int .i64 n] w fun e w' => e = .returned (.pointer none) ∧ w = w' := by
  have h' : n < 1 ∨ 7 < n := by
    unfold quorum at h
    split at h <;> omega
  by_cases h1 : n < 1
  · clear h h'
    go_enter Try.func36, Try.ntmps36
    go_wp2
    go_ret
    exact ⟨rfl, rfl⟩
  · have h2 : 7 < n := by omega
    clear h h'
    go_enter Try.func36, Try.ntmps36
    go_wp2
    go_ret
    exact ⟨rfl, rfl⟩

set_option maxHeartbeats 400000 in
theorem RNewVotes_yes (n : Nat) (w : World) (h1 : 1 ≤ n) (h7 : n ≤ 7) :
    Calls Try.prog 36 #[.int .i64 n] w fun e w' => ∃ b d, e = .returned (.pointer (some ⟨b, 0, none⟩)) ∧ RVotesAt w' b d (List.replicate n 0) ∧ Keeps [] w w' ∧ w.heap.size ≤ b ∧ w.heap.size ≤ d := by
  obtain ⟨i, hi, hz0, hz1, hz2⟩ := info_parts infoInt
  have a1 : ¬ (n : Int) < 1 := by omega
  have a2 : ¬ (7 : Int) < n := by omega
  go_enter Try.func36, Try.ntmps36
  go_wp2_with (at_make; refine wpList_make_full w rfl (.tmp 9) (.tmp 9) 22 rfl w.heap.size 3 i (.int .i64 0) 1 Try.underlying22 hi hz0 hz1 .i64 .i64 n n n rfl rfl rfl rfl (by rw [hz2]; omega) (by simp [maxLen]; omega) (Nat.le_refl _) ?_; intro w1 ho hg)
  go_ret
  have k := (Keeps.refl [] w).grown hg (by simp)
  have r := Ints.made ho
  have hlt := Row.lt r w.heap.size (by simp)
  refine ⟨_, rfl, w.heap.size, ⟨?_, ?_, ?_, by simpa using h1, by simpa using h7⟩, k.alloc _, k.size, Nat.le_refl _⟩
  · rw [List.length_replicate]; exact Blk.new _ _ _
  · rw [List.length_replicate]; exact Row.alloc r _
  · omega

def rCounts (cs : List Int) (id : Int) : Bool := (decide (1 ≤ id) && decide (id ≤ cs.length)) && (cs.getD (id - 1).toNat 0 == 0)
def rPut (cs : List Int) (id : Int) (g : Bool) : List Int := if rCounts cs id then cs.set (id - 1).toNat (if g then 1 else 2) else cs
theorem rPut_length (cs : List Int) (id : Int) (g : Bool) : (rPut cs id g).length = cs.length := by unfold rPut; split <;> simp

set_option maxRecDepth 100000 in
set_option maxHeartbeats 1600000 in
theorem RPut_any (w : World) (b d : Nat) (cs : List Int) (id : Int) (g : Bool) (h : RVotesAt w b d cs) (hid : -9223372036854775808 ≤ id ∧ id ≤ 9223372036854775807) :
    Calls Try.prog 38 #[.pointer (some ⟨b, 0, none⟩), .int .i64 id, .bool g] w fun e w' => e = .returned (.bool (rCounts cs id)) ∧ RVotesAt w' b d (rPut cs id g) ∧ Keeps [d] w w' := by
  have c0 : w.cell? ⟨b, 0, none⟩ = some (.slice (some ⟨d, 0, none⟩) cs.length cs.length) := h.blk.c 0
  by_cases h1 : id < 1
  · have hc : rCounts cs id = false := by simp [rCounts]; omega
    have hp : rPut cs id g = cs := by simp [rPut, hc]
    have K := Lib.hid (And.intro h (Keeps.refl [d] w))
    rw [hc, hp]
    clear hid hc hp h
    go_enter Try.func38, Try.ntmps38
    go_wp2
    go_ret
    exact ⟨rfl, K.out⟩
  · by_cases h2 : (cs.length : Int) < id
    · have hc : rCounts cs id = false := by simp [rCounts]; omega
      have hp : rPut cs id g = cs := by simp [rPut, hc]
      have K := Lib.hid (And.intro h (Keeps.refl [d] w))
      rw [hc, hp]
      clear hid hc hp h
      go_enter Try.func38, Try.ntmps38
      go_wp2
      go_ret
      exact ⟨rfl, K.out⟩
    · obtain ⟨i, rfl⟩ : ∃ i : Nat, id = (i : Int) + 1 := ⟨(id - 1).toNat, by omega⟩
      have hi : i < cs.length := by omega
      have hii : ((i : Int) + 1 - 1).toNat = i := by omega
      have i1 : (i : Int) < cs.length := by omega
      have i0 : (0 : Int) ≤ i := by omega
      have h7 := h.le
      have hwi : wrap64 (i : Int) = i := by unfold wrap64; omega
      have bd := h.ne
      have bd' : d ≠ b := fun e => bd e.symm
      obtain ⟨cx, fx, -⟩ := h.row.put i hi 0
      have hc : rCounts cs (i + 1) = (cs.getD i 0 == 0) := by
        rw [rCounts, hii]
        have e1 : decide (1 ≤ (i : Int) + 1) = true := decide_eq_true (by omega)
        have e2 : decide ((i : Int) + 1 ≤ cs.length) = true := decide_eq_true (by omega)
        rw [e1, e2]; simp
      cases hx : (cs.getD i 0 == 0)
      · have hp : rPut cs (i + 1) g = cs := by rw [rPut, hc, hx]; rfl
        have K := Lib.hid (And.intro h (Keeps.refl [d] w))
        rw [hc, hp, hx]
        generalize cs.getD i 0 = x at *
        clear hid hc hp h hii
        go_enter Try.func38, Try.ntmps38
        go_wp2
        go_ret
        exact ⟨rfl, K.out⟩
      · have hp : rPut cs (i + 1) g = cs.set i (if g then 1 else 2) := by rw [rPut, hc, hx, hii]; rfl
        have K := Lib.hid h
        rw [hc, hp, hx]
        have hput := Lib.hid (fun x => (h.row.put i hi x).2.2)
        have hlen : (cs.set i 2).length = cs.length := by simp
        have hput2 := Lib.hid (fun x => ((hput.out 2).put i (by simpa using hi) x).2.2)
        have hxx : cs.getD i 0 = 0 := by simpa using hx
        rw [hxx] at cx
        clear hid hc hp hii h hx hxx
        have hk := Lib.hid (fun x => (Keeps.refl [d] w).setCell (p := ⟨d, i, none⟩) (.inl (by simp)) x)
        have hbd := Lib.hid (fun x => K.out.blk.setOther ⟨d, i, none⟩ x (fun e => K.out.ne e.symm))
        have l1 : (List.set cs i 1).length = cs.length := by simp
        cases g
        · go_enter Try.func38, Try.ntmps38
          go_wp2
          go_ret
          refine ⟨rfl, ⟨?_, ?_, K.out.ne, by simpa using K.out.pos, by simpa using K.out.le⟩, hk.out _⟩
          · rw [List.length_set]; exact hbd.out _
          · rw [List.length_set]; exact hput.out 2
        · go_enter Try.func38, Try.ntmps38
          go_wp2
          go_ret
          refine ⟨rfl, ⟨?_, ?_, K.out.ne, by simpa using K.out.pos, by simpa using K.out.le⟩, (hk.out _).setCell (.inl (by simp)) _⟩
          · rw [List.length_set]; exact (hbd.out _).setOther _ _ (fun e => K.out.ne e.symm)
          · rw [List.length_set]
            have := hput2.out 1
            rw [List.set_set] at this
            exact this

end Go.Proofs.Ytniceappkpiekaa
