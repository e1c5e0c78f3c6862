/-
  What a beat's answer does to one that replicates.
-/
import Derived.Test.YtniceappkpiekaaAnsw
namespace Go.Proofs.Ytniceappkpiekaa
open Go.RowKit

theorem WinAt.drew {w : World} {q : Nat} {room : Int} {xs : List Int} {D : List Nat} (h : WinAt w q room xs D) : WinAt w.drew q room xs D :=
  h.keep ((Keeps.refl [] w).drew) (by simp) (by simp)

/-- a full one lets its first number go. -/
def Pg.beaten (s : Pg) : Pg := if s.room ≤ s.xs.length then { s with xs := s.xs.drop (low (s.xs.getD 0 0) s.xs) } else s

theorem PgTo.freed {w w1 w' : World} {p q : Nat} {D : List Nat} {s : Pg} {xs' : List Int} (h : PgAt w p s (p :: q :: D)) (hk : Keeps [] w w1) (hf : Freed w1 q s.room xs' D w') : PgTo w p (p :: q :: D) { s with xs := xs' } w' := by
  obtain ⟨q', D', hF, hb, hw, h1, h2⟩ := h
  obtain ⟨-, rfl, rfl⟩ : p = p ∧ q = q' ∧ D = D' := by simpa using hF
  obtain ⟨f1, f2⟩ := hf
  exact ⟨_, ⟨q, D, rfl, f2.blk (hk.blk hb (by simp)) (by simpa using ⟨h1, h2⟩), f1, h1, h2⟩, hk.mono (by simp) |>.trans (f2.mono (G := p :: q :: D) (fun x hx _ => by simp only [List.mem_cons] at hx ⊢; exact .inr hx)) (fun x hx _ => hx), fun x hx => .inl hx⟩

set_option maxHeartbeats 6000000 in
theorem beat6_any (w : World) (n p : Nat) (s : Pg) (F : List Nat) (h : PgAt w p s F) (hc : Cap w n p F) (hl : s.xs.length ≤ 1000000) (hr : 1 ≤ s.room) :
    Calls Try.prog 64 #[.pointer (some ⟨n, 0, none⟩)] w fun e w' =>
      e = .returned (.tuple #[]) ∧ PgTo w p F s.beaten w' := by
  obtain ⟨c0, hnF⟩ := hc
  obtain ⟨q, p0, -, -, -, -, -, -, D, rfl, hw, h1, h2⟩ := h.cells
  have HF := Lib.hid (Full_any w q s.room s.xs D hw)
  have HW := Lib.hid hw
  have HP := Lib.hid h
  by_cases hlt : s.room ≤ s.xs.length
  · have hx : 0 < s.xs.length := by omega
    have hd : decide (s.room ≤ s.xs.length) = true := by simpa using hlt
    have hpost : s.beaten = { s with xs := s.xs.drop (low (s.xs.getD 0 0) s.xs) } := by rw [Pg.beaten, if_pos hlt]
    rw [hpost]
    clear hpost h1 h2
    have hg3 : (intsV s.xs)[0]? = some (.int .i64 (s.xs.getD 0 0)) := intsV_get _ _ hx
    generalize s.xs.getD 0 0 = x0 at *
    have HG := Lib.hid hg3
    clear hg3
    go_enter Try.func64, Try.ntmps64
    go_wp2_with (go_at_call 53; refine HF.out.mono ?_; rintro e w' ⟨rfl, k, rfl⟩; rw [hd])
    go_region_with (first | (go_at_call 65; refine (Items_any _ q s.room s.xs D (WinAt.drew (WinAt.drewN HW.out _)) hl).mono ?_; rintro e w' ⟨v', D', rfl, r1, k1, d1⟩; obtain ⟨d', off', cap', rfl, -, -, -, hcell⟩ := Row.at_ r1 hx; have g1 : w'.cell? ⟨n, 0, none⟩ = some (.pointer (some ⟨p, 0, none⟩)) := k1.cell c0 (by simp); have g2 : w'.cell? ⟨p, 0, none⟩ = some (.pointer (some ⟨q, 0, none⟩)) := k1.cell p0 (by simp); have g3 : w'.cell? ⟨d', off', none⟩ = some (.int .i64 x0) := (hcell 0 (by omega)).trans HG.out; have K1 := Lib.hid k1; clear r1 hcell k1 d1) | (go_at_call 49; refine (Free_any _ q s.room s.xs D x0 ((WinAt.drew (WinAt.drewN HW.out _)).keep K1.out (by simp) (by simp))).mono ?_; rintro e w' ⟨rfl, hf⟩))
    all_goals (go_wp2_with fail; go_end0; exact ⟨rfl, PgTo.freed HP.out (((Keeps.refl [] w).drewN k).drew.trans K1.out (by simp)) hf⟩)
  · have hd : decide (s.room ≤ s.xs.length) = false := by simpa using hlt
    have hpost : s.beaten = s := by rw [Pg.beaten, if_neg hlt]
    rw [hpost]
    clear hpost h1 h2
    go_enter Try.func64, Try.ntmps64
    go_wp2_with (go_at_call 53; refine HF.out.mono ?_; rintro e w' ⟨rfl, k, rfl⟩; rw [hd])
    go_end0
    exact ⟨rfl, (PgTo.refl HP.out).drewN _⟩

end Go.Proofs.Ytniceappkpiekaa
