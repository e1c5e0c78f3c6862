/-
  synodref9.Progress: how it stands in memory; New, Snap, May, Rejected.
-/
import Derived.Test.YtniceappkpiekaaLawKit
namespace Go.Proofs.Ytniceappkpiekaa
open Go.RowKit

abbrev Pg.rcells (s : Pg) (v : Value) : Array Value := #[.int .i64 s.mt, .int .i64 s.nx, .int .i64 s.st, .bool s.pz, v, .int .i64 s.room, .int .i64 s.sn]

/-- A progress of the document at block r; G: all its blocks. -/
def RgAt (w : World) (r : Nat) (s : Pg) (G : List Nat) : Prop :=
  ∃ v D, G = r :: D ∧ Blk w r (s.rcells v) 41 ∧ Ints w v s.xs D ∧ r ∉ D

theorem RgAt.lt {w : World} {r : Nat} {s : Pg} {G : List Nat} (h : RgAt w r s G) : ∀ x, x ∈ G → x < w.heap.size := by
  obtain ⟨v, D, rfl, hb, hw, -⟩ := h
  intro x hx
  simp only [List.mem_cons] at hx
  rcases hx with rfl | hx
  · exact hb.lt
  · exact Row.lt hw x hx
theorem RgAt.keep {w w' : World} {r : Nat} {s : Pg} {G F : List Nat} (h : RgAt w r s G) (k : Keeps F w w') (hd : ∀ x, x ∈ G → x ∉ F) : RgAt w' r s G := by
  obtain ⟨v, D, rfl, hb, hw, h1⟩ := h
  exact ⟨v, D, rfl, k.blk hb (hd r (by simp)), Row.keep hw k (fun x hx => hd x (by simp [hx])), h1⟩
theorem RgAt.cells {w : World} {r : Nat} {s : Pg} {G : List Nat} (h : RgAt w r s G) : ∃ a cap, s.xs.length ≤ 9223372036854775807 ∧
    w.cell? ⟨r, 0, none⟩ = some (.int .i64 s.mt) ∧ w.cell? ⟨r, 1, none⟩ = some (.int .i64 s.nx) ∧ w.cell? ⟨r, 2, none⟩ = some (.int .i64 s.st) ∧ w.cell? ⟨r, 3, none⟩ = some (.bool s.pz) ∧
    w.cell? ⟨r, 4, none⟩ = some (.slice a s.xs.length cap) ∧ w.cell? ⟨r, 5, none⟩ = some (.int .i64 s.room) ∧ w.cell? ⟨r, 6, none⟩ = some (.int .i64 s.sn) ∧ ∀ i, w.frozen? ⟨r, i, none⟩ = false := by
  obtain ⟨v, D, rfl, hb, hw, h1⟩ := h
  obtain ⟨a, cap, rfl, hm, -⟩ := Row.shape hw
  exact ⟨a, cap, hm, hb.c 0, hb.c 1, hb.c 2, hb.c 3, hb.c 4, hb.c 5, hb.c 6, hb.fr⟩

def RgTo (w : World) (r : Nat) (G : List Nat) (s : Pg) (w' : World) : Prop :=
  ∃ G', RgAt w' r s G' ∧ Keeps G w w' ∧ ∀ x, x ∈ G' → x ∈ G ∨ w.heap.size ≤ x
theorem RgTo.refl {w : World} {r : Nat} {s : Pg} {G : List Nat} (h : RgAt w r s G) : RgTo w r G s w := ⟨G, h, Keeps.refl _ _, fun _ hx => .inl hx⟩
theorem RgTo.drewN {w w' : World} {r : Nat} {s : Pg} {G : List Nat} (h : RgTo w r G s w') (n : Nat) : RgTo w r G s (w'.drewN n) :=
  let ⟨G', h1, h2, h3⟩ := h
  ⟨G', h1.keep ((Keeps.refl [] w').drewN n) (by simp), h2.drewN n, h3⟩
theorem RgTo.drew {w w' : World} {r : Nat} {s : Pg} {G : List Nat} (h : RgTo w r G s w') : RgTo w r G s w'.drew := h.drewN 1
theorem RgTo.store {w w' : World} {r : Nat} {s s' : Pg} {G : List Nat} (h : RgTo w r G s w') (i : Nat) (u : Value)
    (hs : ∀ v, (s.rcells v).setIfInBounds i u = s'.rcells v) (hx : s'.xs = s.xs) : RgTo w r G s' (w'.setCell ⟨r, i, none⟩ u) := by
  obtain ⟨G', ⟨v, D, rfl, hb, hw, h1⟩, k, h3⟩ := h
  refine ⟨_, ⟨v, D, rfl, ?_, ?_, h1⟩, k.setCell ?_ u, h3⟩
  · rw [← hs v]
    exact hb.setCell i u
  · rw [hx]
    exact Row.setOther hw _ _ h1
  · exact h3 r (by simp)
theorem RgTo.cleared {w w' : World} {r : Nat} {s : Pg} {G : List Nat} (h : RgTo w r G s w') : RgTo w r G { s with xs := [] } (w'.setCell ⟨r, 4, none⟩ (.slice none 0 0)) := by
  obtain ⟨G', ⟨v, D, rfl, hb, hw, h1⟩, k, h3⟩ := h
  refine ⟨[r], ⟨_, [], rfl, hb.setCell 4 _, Row.nil _ _ _, by simp⟩, k.setCell (h3 r (by simp)) _, fun x hx => h3 x ?_⟩
  simp only [List.mem_cons, List.not_mem_nil, or_false] at hx
  simp [hx]

set_option maxHeartbeats 400000 in
theorem RefNew_no (next room : Int) (w : World) (h : holdsB room = false) :
    Calls Try.prog 19 #[.int .i64 next, .int .i64 room] w fun e w' => e = .returned (.pointer none) ∧ w = w' := by
  by_cases h1 : room < 1
  · go_enter Try.func19, Try.ntmps19
    go_wp2
    go_ret
    exact ⟨rfl, rfl⟩
  · have h2 : 64 < room := by
      simp only [holdsB, Bool.and_eq_false_iff, decide_eq_false_iff_not] at h
      omega
    go_enter Try.func19, Try.ntmps19
    go_wp2
    go_ret
    exact ⟨rfl, rfl⟩

set_option maxHeartbeats 400000 in
theorem RefNew_yes (next room : Int) (w : World) (h : holdsB room = true) :
    Calls Try.prog 19 #[.int .i64 next, .int .i64 room] w fun e w' => ∃ r, e = .returned (.pointer (some ⟨r, 0, none⟩)) ∧ ∃ G, RgAt w' r (Pg.new next room) G ∧ Keeps [] w w' ∧ ∀ x, x ∈ G → w.heap.size ≤ x := by
  have h1 : 1 ≤ room ∧ room ≤ 64 := by simpa [holdsB] using h
  obtain ⟨h1, h2⟩ := h1
  go_enter Try.func19, Try.ntmps19
  go_wp2
  go_ret
  exact ⟨_, rfl, [w.heap.size], ⟨_, [], rfl, Blk.new _ _ _, Row.nil _ _ _, by simp⟩, (Keeps.refl [] w).alloc _, by simp⟩

set_option maxHeartbeats 400000 in
theorem RefSnap_any (w : World) (r : Nat) (s : Pg) (G : List Nat) (index : Int) (h : RgAt w r s G) :
    Calls Try.prog 29 #[.pointer (some ⟨r, 0, none⟩), .int .i64 index] w fun e w' => e = .returned (.tuple #[]) ∧ RgTo w r G (s.snapped index) w' := by
  have ht := (((RgTo.refl h).store (s' := { s with st := 2 }) 2 (.int .i64 2) (fun _ => rfl) rfl).cleared).store (s' := s.snapped index) 6 (.int .i64 index) (fun _ => rfl) rfl
  replace ht := Lib.hid ht
  obtain ⟨a, cap, -, -, -, c2, -, c4, -, c6, fr⟩ := h.cells
  have f2 := fr 2
  have f4 := fr 4
  have f6 := fr 6
  clear fr
  go_enter Try.func29, Try.ntmps29
  go_wp2
  go_end0
  exact ⟨rfl, ht.out⟩

/-- the reference's May, at a window that holds no more than its room. -/
theorem may_ref (s : Pg) : s.may = if s.st = 0 then !s.pz else (decide (s.st = 1) && decide ((s.xs.length : Int) < s.room)) := by
  unfold Pg.may
  by_cases h0 : s.st = 0
  · simp [h0]
  · by_cases h1 : s.st = 1
    · simp only [h1, if_false, if_true, decide_true, Bool.true_and, show ¬ (1 : Int) = 0 by decide]
      by_cases h : s.room ≤ s.xs.length
      · simp [h]
      · simp [h]; omega
    · simp [h0, h1]

set_option maxHeartbeats 400000 in
theorem RefMay_any (w : World) (r : Nat) (s : Pg) (G : List Nat) (h : RgAt w r s G) :
    Calls Try.prog 34 #[.pointer (some ⟨r, 0, none⟩)] w fun e w' => e = .returned (.bool s.may) ∧ ∃ n, w' = w.drewN n := by
  obtain ⟨a, cap, hm, -, -, c2, c3, c4, c5, -, -⟩ := h.cells
  rw [may_ref]
  by_cases h0 : s.st = 0
  · rw [h0] at c2 ⊢
    go_enter Try.func34, Try.ntmps34
    go_wp2
    go_ret
    exact ⟨by simp, 0, rfl⟩
  · by_cases h1 : s.st = 1
    · rw [h1] at c2 ⊢
      clear h0 h1
      go_enter Try.func34, Try.ntmps34
      go_wp2
      go_quiet (fail)
      go_wp2
      go_ret
      exact ⟨by simp, _, rfl⟩
    · have hb0 : (s.st == 0) = false := by simpa using h0
      have hb1 : (s.st == 1) = false := by simpa using h1
      rw [if_neg h0, decide_eq_false h1]
      clear h0 h1
      go_enter Try.func34, Try.ntmps34
      go_wp2
      go_quiet (fail)
      go_wp2
      go_ret
      exact ⟨rfl, _, rfl⟩

end Go.Proofs.Ytniceappkpiekaa
