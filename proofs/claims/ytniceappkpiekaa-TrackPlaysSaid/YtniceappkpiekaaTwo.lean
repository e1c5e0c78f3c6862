/-
  A progress and the document's beside it; what each deed does to both.
-/
import Derived.Test.YtniceappkpiekaaReff
namespace Go.Proofs.Ytniceappkpiekaa
open Go.RowKit

theorem RefSent_any (w : World) (r : Nat) (s : Pg) (G : List Nat) (last : Int) (h : RgAt w r s G) (hl : NumOk last) (hr : s.Rise) (h1 : 1 ≤ s.room) (h64 : s.room ≤ 64) (hst : s.st = 0 ∨ s.st = 1 ∨ s.st = 2) :
    Calls Try.prog 21 #[.pointer (some ⟨r, 0, none⟩), .int .i64 last] w fun e w' => e = .returned (.tuple #[]) ∧ RgTo w r G (s.sent last) w' := by
  rcases hst with h0 | hs1 | h2
  · have e : s.sent last = { s with pz := true } := by rw [Pg.sent, if_pos h0]
    rw [e]
    exact RefSent_0 w r s G last h hl h0 (hr.empty (by omega))
  · by_cases hn : s.nx ≤ last
    · by_cases hf : (s.xs.length : Int) < s.room
      · by_cases hx : s.xs = []
        · have e : s.sent last = { s with xs := s.xs ++ [last], nx := last + 1 } := by
            rw [Pg.sent, if_neg (by omega), if_pos hs1, if_pos ⟨hn, by simp [mayAdd, hx]; omega⟩]
          rw [e]
          exact RefSent_1yesE w r s G last h hl hs1 hx hn hf
        · have hne : 0 < s.xs.length := List.length_pos_iff.2 hx
          by_cases hab : s.xs.getD (s.xs.length - 1) 0 < last
          · have e : s.sent last = { s with xs := s.xs ++ [last], nx := last + 1 } := by
              rw [Pg.sent, if_neg (by omega), if_pos hs1, if_pos ⟨hn, by
                simp only [mayAdd, Bool.and_eq_true, Bool.not_eq_true', decide_eq_false_iff_not, Bool.or_eq_true, decide_eq_true_eq]
                exact ⟨by omega, .inr hab⟩⟩]
            rw [e]
            exact RefSent_1yesF w r s G last h hl hs1 hne hn hf h64 hab
          · have e : s.sent last = s := by
              rw [Pg.sent, if_neg (by omega), if_pos hs1, if_neg (fun hh => by
                have := hh.2
                simp only [mayAdd, Bool.and_eq_true, Bool.or_eq_true, List.isEmpty_iff, decide_eq_true_eq] at this
                rcases this.2 with h | h
                · exact hx h
                · exact hab h)]
            rw [e]
            exact RefSent_1noF w r s G last h hl hs1 hne hn hf (by omega)
      · have e : s.sent last = s := by
          rw [Pg.sent, if_neg (by omega), if_pos hs1, if_neg (fun hh => by
            have := hh.2
            simp only [mayAdd, Bool.and_eq_true, Bool.not_eq_true', decide_eq_false_iff_not] at this
            omega)]
        rw [e]
        exact RefSent_1fullF w r s G last h hl hs1 (by omega) hn (by omega)
    · have e : s.sent last = s := by rw [Pg.sent, if_neg (by omega), if_pos hs1, if_neg (fun hh => hn hh.1)]
      rw [e]
      by_cases hx : s.xs = []
      · exact RefSent_1lowE w r s G last h hl hs1 hx (by omega)
      · exact RefSent_1lowF w r s G last h hl hs1 (List.length_pos_iff.2 hx) (by omega)
  · have e : s.sent last = s := by rw [Pg.sent, if_neg (by omega), if_neg (by omega)]
    rw [e]
    exact RefSent_2 w r s G last h hl h2 (hr.empty (by omega))

theorem getD_last_mem (xs : List Int) (n : Int) (hp : xs.Pairwise (· < ·)) (h : xs = [] ∨ xs.getD (xs.length - 1) 0 < n) : ∀ x, x ∈ xs → x < n := by
  intro x hx
  have hne : 0 < xs.length := List.length_pos_iff.2 (fun e => by rw [e] at hx; cases hx)
  rcases h with h | h
  · rw [h] at hx; cases hx
  · obtain ⟨i, hi, rfl⟩ := List.getElem_of_mem hx
    have hl : xs.length - 1 < xs.length := by omega
    rw [List.getD_eq_getElem?_getD, List.getElem?_eq_getElem hl] at h
    simp only [Option.getD_some] at h
    by_cases he : i = xs.length - 1
    · subst he; exact h
    · have := List.pairwise_iff_getElem.1 hp i (xs.length - 1) hi hl (by omega)
      omega
theorem Pg.Rise.sent {s : Pg} (h : s.Rise) (x : Int) : (s.sent x).Rise := by
  unfold Pg.sent
  split
  · exact ⟨h.up, h.len, h.empty⟩
  · rename_i h0
    split
    · rename_i h1
      split
      · rename_i hc
        have hm := hc.2
        simp only [mayAdd, Bool.and_eq_true, Bool.not_eq_true', decide_eq_false_iff_not, Bool.or_eq_true, List.isEmpty_iff, decide_eq_true_eq] at hm
        refine ⟨?_, by simp; omega, fun hh => absurd h1 hh⟩
        rw [List.pairwise_append]
        refine ⟨h.up, by simp, fun a ha b hb => ?_⟩
        obtain rfl : b = x := by simpa using hb
        exact getD_last_mem s.xs b h.up hm.2 a ha
      · exact h
    · exact h
theorem Pg.Rise.drop {s : Pg} (h : s.Rise) (k : Nat) (t : Pg) (hx : t.xs = s.xs.drop k) (hr : t.room = s.room) (hs : t.st = s.st) : t.Rise :=
  ⟨by rw [hx]; exact h.up.drop, by rw [hx, hr]; have := h.len; simp; omega, fun hh => by rw [hx, h.empty (by rw [← hs]; exact hh)]; simp⟩
theorem Pg.Rise.entered {s : Pg} (h0 : 0 ≤ s.room) (st : Int) : (s.entered st).Rise := ⟨by simp [Pg.entered], by simp [Pg.entered]; exact h0, fun _ => rfl⟩
theorem Pg.Rise.acked {s : Pg} (h : s.Rise) (h0 : 0 ≤ s.room) (x : Int) : (s.acked x).Rise := by
  have h' : (s.ackedFirst x).Rise := h.drop (low x s.xs) _ rfl rfl rfl
  unfold Pg.acked
  simp only
  split
  · split
    · exact Pg.Rise.entered (s := s.ackedFirst x) h0 1
    · exact h'
  · split
    · exact h'
    · split
      · exact Pg.Rise.entered (s := s.ackedFirst x) h0 0
      · exact h'
theorem Pg.Rise.rejected {s : Pg} (h : s.Rise) (h0 : 0 ≤ s.room) (x y : Int) : (s.rejected x y).Rise := by
  unfold Pg.rejected
  split
  · split
    · exact ⟨h.up, h.len, h.empty⟩
    · exact h
  · split
    · split
      · exact ⟨by simp, by simpa using h0, fun _ => rfl⟩
      · exact h
    · exact h
theorem Pg.Rise.beat {s : Pg} (h : s.Rise) (h0 : 0 ≤ s.room) : s.beat.Rise := by
  have h' : Pg.Rise { s with pz := false } := ⟨h.up, h.len, h.empty⟩
  unfold Pg.beat
  simp only
  split
  · exact h'
  · split
    · unfold Pg.beaten
      split
      · exact h'.drop _ _ rfl rfl rfl
      · exact h'
    · exact Pg.Rise.entered (s := { s with pz := false }) h0 0
theorem Pg.Rise.snapped {s : Pg} (h0 : 0 ≤ s.room) (x : Int) : (s.snapped x).Rise := ⟨by simp [Pg.snapped], by simpa [Pg.snapped] using h0, fun _ => rfl⟩
theorem Pg.Rise.new {next R : Int} (h : 1 ≤ R) : (Pg.new next R).Rise := ⟨by simp [Pg.new], by simp [Pg.new]; omega, fun _ => rfl⟩

/-- Both, in memory made behind w0. -/
def Two (w0 w : World) (p r : Nat) (s t : Pg) : Prop :=
  ∃ F G, PgAt w p s F ∧ RgAt w r t G ∧ (∀ x, x ∈ F → x ∉ G) ∧ Keeps [] w0 w ∧ (∀ x, x ∈ F → w0.heap.size ≤ x) ∧ ∀ x, x ∈ G → w0.heap.size ≤ x

theorem Two.keeps {w0 w : World} {p r : Nat} {s t : Pg} (h : Two w0 w p r s t) : Keeps [] w0 w := let ⟨_, _, _, _, _, k, _⟩ := h; k
theorem Two.drewN {w0 w : World} {p r : Nat} {s t : Pg} (h : Two w0 w p r s t) (n : Nat) : Two w0 (w.drewN n) p r s t :=
  let ⟨F, G, h1, h2, h3, h4, h5, h6⟩ := h
  ⟨F, G, h1.keep ((Keeps.refl [] w).drewN n) (by simp), h2.keep ((Keeps.refl [] w).drewN n) (by simp), h3, h4.drewN n, h5, h6⟩
theorem Two.drew {w0 w : World} {p r : Nat} {s t : Pg} (h : Two w0 w p r s t) : Two w0 w.drew p r s t := h.drewN 1
theorem Two.left {w0 w : World} {p r : Nat} {s s' t : Pg} {f : FuncId} {args : Array Value} {v : Value} (h : Two w0 w p r s t)
    (k : ∀ F, PgAt w p s F → Calls Try.prog f args w (fun e w' => e = .returned v ∧ PgTo w p F s' w')) : Calls Try.prog f args w (fun e w' => e = .returned v ∧ Two w0 w' p r s' t) := by
  obtain ⟨F, G, h1, h2, h3, h4, h5, h6⟩ := h
  refine (k F h1).mono ?_
  rintro e w' ⟨rfl, F', a1, a2, a3⟩
  have hs := h4.size
  have hG := h2.lt
  refine ⟨rfl, F', G, a1, h2.keep a2 (fun x hx hf => h3 x hf hx), fun x hx hg => ?_, h4.trans a2 (fun x hx hlt => by have := h5 x hx; omega), fun x hx => ?_, h6⟩
  · rcases a3 x hx with h | h
    · exact h3 x h hg
    · have := hG x hg; omega
  · rcases a3 x hx with h | h
    · exact h5 x h
    · omega
theorem Two.right {w0 w : World} {p r : Nat} {s t t' : Pg} {f : FuncId} {args : Array Value} {v : Value} (h : Two w0 w p r s t)
    (k : ∀ G, RgAt w r t G → Calls Try.prog f args w (fun e w' => e = .returned v ∧ RgTo w r G t' w')) : Calls Try.prog f args w (fun e w' => e = .returned v ∧ Two w0 w' p r s t') := by
  obtain ⟨F, G, h1, h2, h3, h4, h5, h6⟩ := h
  refine (k G h2).mono ?_
  rintro e w' ⟨rfl, G', a1, a2, a3⟩
  have hs := h4.size
  have hF := h1.lt
  refine ⟨rfl, F, G', h1.keep a2 (fun x hx hg => h3 x hx hg), a1, fun x hx hg => ?_, h4.trans a2 (fun x hx hlt => by have := h6 x hx; omega), h5, fun x hx => ?_⟩
  · rcases a3 x hg with h | h
    · exact h3 x hx h
    · have := hF x hx; omega
  · rcases a3 x hx with h | h
    · exact h6 x h
    · omega

theorem quiet_left {P : Program} {f : FuncId} {args : Array Value} {w : World} {n : Nat} {v : Value}
    (h : Calls P f args (w.drewN n) fun e w' => e = .returned v ∧ w.drewN n = w') : Calls P f args (w.drewN n) fun e w'' => e = .returned v ∧ ∃ m, w'' = w.drewN m :=
  h.mono fun _ _ ⟨he, hm⟩ => ⟨he, n, hm.symm⟩
theorem Two.Match {w0 w : World} {p r : Nat} {s t : Pg} (h : Two w0 w p r s t) : Calls Try.prog 30 #[.pointer (some ⟨p, 0, none⟩)] w fun e w' => e = .returned (.int .i64 s.mt) ∧ w = w' :=
  let ⟨F, _, h1, _⟩ := h
  Match_any w p s F h1
theorem Two.Next {w0 w : World} {p r : Nat} {s t : Pg} (h : Two w0 w p r s t) : Calls Try.prog 31 #[.pointer (some ⟨p, 0, none⟩)] w fun e w' => e = .returned (.int .i64 s.nx) ∧ w = w' :=
  let ⟨F, _, h1, _⟩ := h
  Next_any w p s F h1
theorem Two.State {w0 w : World} {p r : Nat} {s t : Pg} (h : Two w0 w p r s t) : Calls Try.prog 32 #[.pointer (some ⟨p, 0, none⟩)] w fun e w' => e = .returned (.int .i64 s.st) ∧ w = w' :=
  let ⟨F, _, h1, _⟩ := h
  State_any w p s F h1
theorem Two.May {w0 w : World} {p r : Nat} {s t : Pg} (h : Two w0 w p r s t) : Calls Try.prog 33 #[.pointer (some ⟨p, 0, none⟩)] w fun e w' => e = .returned (.bool s.may) ∧ ∃ n, w' = w.drewN n :=
  let ⟨F, _, h1, _⟩ := h
  May_any w p s F h1
theorem Two.RefMay {w0 w : World} {p r : Nat} {s t : Pg} (h : Two w0 w p r s t) : Calls Try.prog 34 #[.pointer (some ⟨r, 0, none⟩)] w fun e w' => e = .returned (.bool t.may) ∧ ∃ n, w' = w.drewN n :=
  let ⟨_, G, _, h1, _⟩ := h
  RefMay_any w r t G h1
theorem Two.cells {w0 w : World} {p r : Nat} {s t : Pg} (h : Two w0 w p r s t) : w.cell? ⟨r, 0, none⟩ = some (.int .i64 t.mt) ∧ w.cell? ⟨r, 1, none⟩ = some (.int .i64 t.nx) ∧ w.cell? ⟨r, 2, none⟩ = some (.int .i64 t.st) := by
  obtain ⟨F, G, h1, h2, -⟩ := h
  obtain ⟨a, cap, -, c0, c1, c2, -⟩ := h2.cells
  exact ⟨c0, c1, c2⟩

/-- what is known of both all along. -/
structure Pg.Fine (s : Pg) (R : Int) : Prop where
  ok : s.Ok R
  rise : s.Rise
theorem Pg.Fine.room1 {s : Pg} {R : Int} (h : s.Fine R) : 1 ≤ s.room := by rw [h.ok.room]; exact h.ok.r1
theorem Pg.Fine.room64 {s : Pg} {R : Int} (h : s.Fine R) : s.room ≤ 64 := by rw [h.ok.room]; exact h.ok.r64
theorem Pg.Fine.room0 {s : Pg} {R : Int} (h : s.Fine R) : 0 ≤ s.room := by have := h.room1; omega

section
variable {w0 w : World} {p r : Nat} {s t : Pg} {R : Int}
theorem Two.Sent (h : Two w0 w p r s t) (hs : s.Fine R) {x : Int} (hx : IsNum x) : Calls Try.prog 20 #[.pointer (some ⟨p, 0, none⟩), .int .i64 x] w fun e w' => e = .returned (.tuple #[]) ∧ Two w0 w' p r (s.sent x) t :=
  h.left (fun F a => Sent_any w p s F x a hx.ok hs.room64)
theorem Two.RefSent (h : Two w0 w p r s t) (ht : t.Fine R) {x : Int} (hx : IsNum x) : Calls Try.prog 21 #[.pointer (some ⟨r, 0, none⟩), .int .i64 x] w fun e w' => e = .returned (.tuple #[]) ∧ Two w0 w' p r s (t.sent x) :=
  h.right (fun F a => RefSent_any w r t F x a hx.ok ht.rise ht.room1 ht.room64 ht.ok.st)
theorem Two.Acked (h : Two w0 w p r s t) (hs : s.Fine R) {x : Int} (hx : IsNum x) : Calls Try.prog 22 #[.pointer (some ⟨p, 0, none⟩), .int .i64 x] w fun e w' => e = .returned (.bool (decide (s.mt < x))) ∧ Two w0 w' p r (s.acked x) t :=
  h.left (fun F a => Acked_any w p s F x a hs.ok.mtOk hx.ok hs.ok.st)
theorem Two.RefAcked (h : Two w0 w p r s t) (ht : t.Fine R) {x : Int} (hx : IsNum x) : Calls Try.prog 23 #[.pointer (some ⟨r, 0, none⟩), .int .i64 x] w fun e w' => e = .returned (.bool (decide (t.mt < x))) ∧ Two w0 w' p r s (t.acked x) :=
  h.right (fun F a => RefAcked_any w r t F x a ht.ok.mtOk hx.ok ht.rise ht.ok.st)
theorem Two.Rejected (h : Two w0 w p r s t) (hs : s.Fine R) {x y : Int} (hy : IsNum y) : Calls Try.prog 24 #[.pointer (some ⟨p, 0, none⟩), .int .i64 x, .int .i64 y] w fun e w' => e = .returned (.bool (s.rejects x)) ∧ Two w0 w' p r (s.rejected x y) t :=
  h.left (fun F a => Rejected_any w p s F x y a hs.ok.mtOk hs.ok.nxOk hy.ok hs.ok.st)
theorem Two.RefRejected (h : Two w0 w p r s t) (ht : t.Fine R) {x y : Int} (hy : IsNum y) : Calls Try.prog 25 #[.pointer (some ⟨r, 0, none⟩), .int .i64 x, .int .i64 y] w fun e w' => e = .returned (.bool (t.rejects x)) ∧ Two w0 w' p r s (t.rejected x y) :=
  h.right (fun F a => RefRejected_any w r t F x y a ht.ok.mtOk ht.ok.nxOk hy.ok)
theorem Two.Beat (h : Two w0 w p r s t) (hs : s.Fine R) : Calls Try.prog 26 #[.pointer (some ⟨p, 0, none⟩)] w fun e w' => e = .returned (.tuple #[]) ∧ Two w0 w' p r s.beat t :=
  h.left (fun F a => Beat_any w p s F a hs.ok.mtOk (by have := hs.ok.len; have := hs.ok.r64; omega) hs.room1 hs.ok.st)
theorem Two.RefBeat (h : Two w0 w p r s t) (ht : t.Fine R) : Calls Try.prog 27 #[.pointer (some ⟨r, 0, none⟩)] w fun e w' => e = .returned (.tuple #[]) ∧ Two w0 w' p r s t.beat :=
  h.right (fun F a => RefBeat_any w r t F a ht.ok.mtOk ht.rise ht.room1 ht.ok.st)
theorem Two.Snap (h : Two w0 w p r s t) (x : Int) : Calls Try.prog 28 #[.pointer (some ⟨p, 0, none⟩), .int .i64 x] w fun e w' => e = .returned (.tuple #[]) ∧ Two w0 w' p r (s.snapped x) t :=
  h.left (fun F a => Snap_any w p s F x a)
theorem Two.RefSnap (h : Two w0 w p r s t) (x : Int) : Calls Try.prog 29 #[.pointer (some ⟨r, 0, none⟩), .int .i64 x] w fun e w' => e = .returned (.tuple #[]) ∧ Two w0 w' p r s (t.snapped x) :=
  h.right (fun F a => RefSnap_any w r t F x a)
end

end Go.Proofs.Ytniceappkpiekaa
