/-
  What the laws on a progress share: deeds in memory, and what stays of a progress behind any deed.
-/
import Derived.Test.YtniceappkpiekaaFirst
namespace Go.Proofs.Ytniceappkpiekaa
open Go.RowKit

theorem mod_form (room : Int) (k : Int) (hk : 0 < k) : ∃ m, room.tmod k = m ∧ -k < m ∧ m < k := by
  refine ⟨_, rfl, ?_, Int.tmod_lt_of_pos _ hk⟩
  by_cases h : 0 ≤ room
  · rw [Int.tmod_eq_emod_of_nonneg h]
    have := Int.emod_nonneg room (Int.ne_of_gt hk)
    omega
  · have e : room.tmod k = -((-room).tmod k) := by rw [Int.neg_tmod, Int.neg_neg]
    have := Int.tmod_lt_of_pos (-room) hk
    omega

/-- A deed. -/
structure Dd where
  kind : Int
  n : Int
  m : Int

def DeedsAt (w : World) (v : Value) (ds : List Dd) : Prop :=
  ∃ a cap, v = .slice a ds.length cap ∧ ds.length ≤ 9223372036854775807 ∧
    (ds = [] ∨ ∃ b off, a = some ⟨b, off, none⟩ ∧ ∀ i, i < ds.length → w.cell? ⟨b, off + i * 3, none⟩ = some (.int .i64 (ds.getD i ⟨0, 0, 0⟩).kind) ∧
      w.cell? ⟨b, off + i * 3 + 1, none⟩ = some (.int .i64 (ds.getD i ⟨0, 0, 0⟩).n) ∧ w.cell? ⟨b, off + i * 3 + 2, none⟩ = some (.int .i64 (ds.getD i ⟨0, 0, 0⟩).m))

def IsNum (x : Int) : Prop := 0 ≤ x ∧ x ≤ 4611686018427387904

/-- What holds of a progress whatever it was told. -/
structure Pg.Ok (s : Pg) (R : Int) : Prop where
  room : s.room = R
  r1 : 1 ≤ R
  r64 : R ≤ 64
  len : (s.xs.length : Int) ≤ R
  mt0 : 0 ≤ s.mt
  mt1 : s.mt ≤ 4611686018427387904
  nx0 : 0 ≤ s.nx
  nx1 : s.nx ≤ 4611686018427387905
  st : s.st = 0 ∨ s.st = 1 ∨ s.st = 2

theorem Pg.Ok.mtOk {s : Pg} {R : Int} (h : s.Ok R) : NumOk s.mt := ⟨by have := h.mt0; omega, by have := h.mt1; omega⟩
theorem Pg.Ok.nxOk {s : Pg} {R : Int} (h : s.Ok R) : NumOk s.nx := ⟨by have := h.nx0; omega, by have := h.nx1; omega⟩
theorem IsNum.ok {x : Int} (h : IsNum x) : NumOk x := ⟨by have := h.1; omega, by have := h.2; omega⟩

theorem Pg.Ok.sent {s : Pg} {R : Int} (h : s.Ok R) {x : Int} (hx : IsNum x) : (s.sent x).Ok R := by
  obtain ⟨hx0, hx1⟩ := hx
  unfold Pg.sent
  split
  · exact ⟨h.room, h.r1, h.r64, h.len, h.mt0, h.mt1, h.nx0, h.nx1, h.st⟩
  · split
    · split
      · rename_i hc
        refine ⟨h.room, h.r1, h.r64, ?_, h.mt0, h.mt1, by simp only; omega, by simp only; omega, h.st⟩
        have := hc.2
        simp only [mayAdd, Bool.and_eq_true, Bool.not_eq_true', decide_eq_false_iff_not, h.room] at this
        simp
        omega
      · exact h
    · exact h
theorem Pg.Ok.snapped {s : Pg} {R : Int} (h : s.Ok R) (x : Int) : (s.snapped x).Ok R :=
  ⟨h.room, h.r1, h.r64, by have := h.r1; simp [Pg.snapped]; omega, h.mt0, h.mt1, h.nx0, h.nx1, .inr (.inr rfl)⟩
theorem Pg.Ok.entered {s : Pg} {R : Int} (h : s.Ok R) (st : Int) (hs : st = 0 ∨ st = 1 ∨ st = 2) : (s.entered st).Ok R :=
  ⟨h.room, h.r1, h.r64, by have := h.r1; simp [Pg.entered]; omega, h.mt0, h.mt1, by have := h.mt0; simp [Pg.entered]; omega, by have := h.mt1; simp [Pg.entered]; omega, hs⟩
theorem Pg.Ok.ackedFirst {s : Pg} {R : Int} (h : s.Ok R) {x : Int} (hx : IsNum x) : (s.ackedFirst x).Ok R := by
  obtain ⟨hx0, hx1⟩ := hx
  have h1 := h.mt0
  have h2 := h.mt1
  have h3 := h.nx0
  have h4 := h.nx1
  have h5 := h.len
  refine ⟨h.room, h.r1, h.r64, by simp [Pg.ackedFirst]; omega, by simp only [Pg.ackedFirst]; omega, by simp only [Pg.ackedFirst]; omega, ?_, ?_, h.st⟩
  · simp only [Pg.ackedFirst]; split <;> omega
  · simp only [Pg.ackedFirst]; split <;> omega
theorem Pg.Ok.acked {s : Pg} {R : Int} (h : s.Ok R) {x : Int} (hx : IsNum x) : (s.acked x).Ok R := by
  have h' := h.ackedFirst hx
  unfold Pg.acked
  simp only
  split
  · split
    · exact h'.entered 1 (by omega)
    · exact h'
  · split
    · exact h'
    · split
      · exact h'.entered 0 (by omega)
      · exact h'
theorem Pg.Ok.rejected {s : Pg} {R : Int} (h : s.Ok R) {x y : Int} (hx : IsNum x) (hy : IsNum y) : (s.rejected x y).Ok R := by
  obtain ⟨hx0, hx1⟩ := hx
  obtain ⟨hy0, hy1⟩ := hy
  have h1 := h.mt0
  have h2 := h.mt1
  have h5 := h.r1
  unfold Pg.rejected
  split
  · split
    · exact ⟨h.room, h.r1, h.r64, h.len, h.mt0, h.mt1, by simp only; omega, by simp only; omega, h.st⟩
    · exact h
  · split
    · split
      · exact ⟨h.room, h.r1, h.r64, by simp; omega, h.mt0, h.mt1, by simp only; omega, by simp only; omega, .inl rfl⟩
      · exact h
    · exact h
theorem Pg.Ok.beat {s : Pg} {R : Int} (h : s.Ok R) : s.beat.Ok R := by
  have h' : Pg.Ok { s with pz := false } R := ⟨h.room, h.r1, h.r64, h.len, h.mt0, h.mt1, h.nx0, h.nx1, h.st⟩
  unfold Pg.beat
  simp only
  split
  · exact h'
  · split
    · unfold Pg.beaten
      split
      · exact ⟨h.room, h.r1, h.r64, by have := h.len; simp; omega, h.mt0, h.mt1, h.nx0, h.nx1, h.st⟩
      · exact h'
    · exact h'.entered 0 (by omega)
theorem Pg.Ok.new {next R : Int} (h1 : 1 ≤ R) (h2 : R ≤ 64) (hn : next ≤ 4611686018427387904) : (Pg.new next R).Ok R :=
  ⟨rfl, h1, h2, by simp [Pg.new]; omega, by simp [Pg.new], by simp [Pg.new], by simp only [Pg.new]; omega, by simp only [Pg.new]; omega, .inl rfl⟩

theorem Own.keeps {w0 w : World} {p : Nat} {s : Pg} (h : Own w0 w p s) : Keeps [] w0 w := let ⟨_, _, h2, _⟩ := h; h2
theorem Own.Next {w0 w : World} {p : Nat} {s : Pg} (h : Own w0 w p s) : Calls Try.prog 31 #[.pointer (some ⟨p, 0, none⟩)] w fun e w' => e = .returned (.int .i64 s.nx) ∧ w = w' :=
  let ⟨F, h1, _⟩ := h
  Next_any w p s F h1
theorem Own.Match {w0 w : World} {p : Nat} {s : Pg} (h : Own w0 w p s) : Calls Try.prog 30 #[.pointer (some ⟨p, 0, none⟩)] w fun e w' => e = .returned (.int .i64 s.mt) ∧ w = w' :=
  let ⟨F, h1, _⟩ := h
  Match_any w p s F h1
theorem Own.State {w0 w : World} {p : Nat} {s : Pg} (h : Own w0 w p s) : Calls Try.prog 32 #[.pointer (some ⟨p, 0, none⟩)] w fun e w' => e = .returned (.int .i64 s.st) ∧ w = w' :=
  let ⟨F, h1, _⟩ := h
  State_any w p s F h1
theorem Own.May {w0 w : World} {p : Nat} {s : Pg} (h : Own w0 w p s) : Calls Try.prog 33 #[.pointer (some ⟨p, 0, none⟩)] w fun e w' => e = .returned (.bool s.may) ∧ Own w0 w' p s :=
  h.drawn (fun F a => May_any _ p _ F a)
theorem Own.Sent {w0 w : World} {p : Nat} {s : Pg} {R x : Int} (h : Own w0 w p s ∧ s.Ok R) (hx : IsNum x) : Calls Try.prog 20 #[.pointer (some ⟨p, 0, none⟩), .int .i64 x] w fun e w' => e = .returned (.tuple #[]) ∧ Own w0 w' p (s.sent x) :=
  h.1.to (fun F a => Sent_any _ p _ F x a hx.ok (by rw [h.2.room]; exact h.2.r64))
theorem Own.Snap {w0 w : World} {p : Nat} {s : Pg} {R : Int} (h : Own w0 w p s ∧ s.Ok R) (x : Int) : Calls Try.prog 28 #[.pointer (some ⟨p, 0, none⟩), .int .i64 x] w fun e w' => e = .returned (.tuple #[]) ∧ Own w0 w' p (s.snapped x) :=
  h.1.to (fun F a => Snap_any _ p _ F x a)
theorem Own.Acked {w0 w : World} {p : Nat} {s : Pg} {R x : Int} (h : Own w0 w p s ∧ s.Ok R) (hx : IsNum x) : Calls Try.prog 22 #[.pointer (some ⟨p, 0, none⟩), .int .i64 x] w fun e w' => e = .returned (.bool (decide (s.mt < x))) ∧ Own w0 w' p (s.acked x) :=
  h.1.to (fun F a => Acked_any _ p _ F x a h.2.mtOk hx.ok h.2.st)
theorem Own.Rejected {w0 w : World} {p : Nat} {s : Pg} {R x y : Int} (h : Own w0 w p s ∧ s.Ok R) (hy : IsNum y) : Calls Try.prog 24 #[.pointer (some ⟨p, 0, none⟩), .int .i64 x, .int .i64 y] w fun e w' => e = .returned (.bool (s.rejects x)) ∧ Own w0 w' p (s.rejected x y) :=
  h.1.to (fun F a => Rejected_any _ p _ F x y a h.2.mtOk h.2.nxOk hy.ok h.2.st)
theorem Own.Beat {w0 w : World} {p : Nat} {s : Pg} {R : Int} (h : Own w0 w p s ∧ s.Ok R) : Calls Try.prog 26 #[.pointer (some ⟨p, 0, none⟩)] w fun e w' => e = .returned (.tuple #[]) ∧ Own w0 w' p s.beat :=
  h.1.to (fun F a => Beat_any _ p _ F a h.2.mtOk (by have := h.2.len; have := h.2.r64; omega) (by rw [h.2.room]; exact h.2.r1) h.2.st)

theorem sent_mt (s : Pg) (x : Int) : (s.sent x).mt = s.mt := by unfold Pg.sent; split <;> (try split) <;> (try split) <;> rfl
theorem snapped_mt (s : Pg) (x : Int) : (s.snapped x).mt = s.mt := rfl
theorem rejected_mt (s : Pg) (x y : Int) : (s.rejected x y).mt = s.mt := by unfold Pg.rejected; split <;> (try split) <;> (try split) <;> rfl
theorem beat_mt (s : Pg) : s.beat.mt = s.mt := by unfold Pg.beat Pg.beaten Pg.entered; simp only; split <;> (try split) <;> (try split) <;> rfl
theorem acked_mt_eq (s : Pg) (x : Int) : (s.acked x).mt = max s.mt x := by
  unfold Pg.acked Pg.entered
  simp only
  split <;> (try split) <;> (try split) <;> rfl
theorem isNum_of {x : Int} (h : numB x = true) : IsNum x := by simpa [numB, IsNum] using h

end Go.Proofs.Ytniceappkpiekaa
