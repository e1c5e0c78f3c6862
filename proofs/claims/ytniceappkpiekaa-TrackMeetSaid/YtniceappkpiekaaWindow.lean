/-
  queue.Window: what its methods answer, and how it stands behind each.
-/
import Derived.Test.YtniceappkpiekaaSmall
import Derived.Test.YtniceappkpiekaaShelf
namespace Go.Proofs.Ytniceappkpiekaa
open Go.RowKit

theorem infoInt : (Try.prog.info? 3).map (fun i => (i.zero, i.size, i.bytes)) = some (some (.int .i64 0), 1, 8) := by kernel_rfl

/-- A window at block q. -/
def WinAt (w : World) (q : Nat) (room : Int) (xs : List Int) (D : List Nat) : Prop :=
  ∃ v, Blk w q #[.int .i64 room, v] 77 ∧ Ints w v xs D ∧ q ∉ D

theorem WinAt.keep {w w' : World} {q : Nat} {room : Int} {xs : List Int} {D F : List Nat} (h : WinAt w q room xs D) (k : Keeps F w w') (hq : q ∉ F) (hd : ∀ x, x ∈ D → x ∉ F) : WinAt w' q room xs D :=
  let ⟨v, h1, h2, h3⟩ := h
  ⟨v, k.blk h1 hq, Row.keep h2 k hd, h3⟩

set_option maxHeartbeats 400000 in
theorem Full_any (w : World) (q : Nat) (room : Int) (xs : List Int) (D : List Nat) (h : WinAt w q room xs D) :
    Calls Try.prog 53 #[.pointer (some ⟨q, 0, none⟩)] w fun e w' => e = .returned (.bool (decide (room ≤ xs.length))) ∧ ∃ n, w' = w.drewN n := by
  obtain ⟨v, hb, ⟨a, cap, rfl, h1, h2, -, -⟩, -⟩ := h
  have c0 : w.cell? ⟨q, 0, none⟩ = some (.int .i64 room) := hb.c 0
  have c1 : w.cell? ⟨q, 1, none⟩ = some (.slice a xs.length cap) := hb.c 1
  clear hb
  go_enter Try.func53, Try.ntmps53
  go_wp2
  go_quiet (fail)
  go_wp2
  go_ret
  exact ⟨rfl, _, rfl⟩

set_option maxHeartbeats 400000 in
theorem Clear_any (w : World) (q : Nat) (room : Int) (v : Value) (hb : Blk w q #[.int .i64 room, v] 77) :
    Calls Try.prog 52 #[.pointer (some ⟨q, 0, none⟩)] w fun e w' => e = .returned (.tuple #[]) ∧ w.setCell ⟨q, 1, none⟩ (.slice none 0 0) = w' := by
  have c1 : w.cell? ⟨q, 1, none⟩ = some v := hb.c 1
  have f1 : w.frozen? ⟨q, 1, none⟩ = false := hb.fr 1
  clear hb
  go_enter Try.func52, Try.ntmps52
  go_wp2
  go_end0
  exact ⟨rfl, rfl⟩

/-- may it be added? -/
def mayAdd (room : Int) (xs : List Int) (n : Int) : Bool := !decide (room ≤ xs.length) && (xs.isEmpty || decide (xs.getD (xs.length - 1) 0 < n))

theorem Row.shape {w : World} {E : TypeId} {size : Nat} {v : Value} {n : Nat} {cs : List Value} {D : List Nat} (h : Row w E size v n cs D) : ∃ a cap, v = .slice a n cap ∧ n ≤ maxLen ∧ n ≤ cap ∧ cap ≤ maxLen :=
  let ⟨a, cap, h0, h1, h2, _⟩ := h
  ⟨a, cap, h0, Nat.le_trans h1 h2, h1, h2⟩
theorem Row.shape' {w : World} {E : TypeId} {size : Nat} {v : Value} {n : Nat} {cs : List Value} {D : List Nat} (h : Row w E size v n cs D) : ∃ a m cap, v = .slice a m cap :=
  let ⟨a, cap, h0, _⟩ := h
  ⟨a, n, cap, h0⟩
/-- of a row that is not empty: its address. -/
theorem Row.at_ {w : World} {E : TypeId} {size : Nat} {v : Value} {n : Nat} {cs : List Value} {D : List Nat} (h : Row w E size v n cs D) (hn : 0 < n) : ∃ d off cap, v = .slice (some ⟨d, off, none⟩) n cap ∧ D = [d] ∧ n ≤ cap ∧ cap ≤ maxLen ∧ ∀ i, i < n * size → w.cell? ⟨d, off + i, none⟩ = cs[i]? := by
  have hc := @Row.cells _ _ _ _ _ _ _ h
  obtain ⟨a, cap, rfl, h1, h2, h2', h3⟩ := h
  rcases h3 with ⟨rfl, rfl, _⟩ | ⟨d, o, arr, rfl, e2, e3, e4, e5⟩
  · omega
  · exact ⟨d, o, cap, rfl, e2, h1, h2, hc rfl⟩
theorem intsV_get (xs : List Int) (i : Nat) (h : i < xs.length) : (intsV xs)[i]? = some (.int .i64 (xs.getD i 0)) := by
  simp [intsV, h]

set_option maxHeartbeats 400000 in
theorem Add_full (w : World) (q : Nat) (room : Int) (xs : List Int) (D : List Nat) (n : Int) (h : WinAt w q room xs D) (hm : decide (room ≤ xs.length) = true) :
    Calls Try.prog 48 #[.pointer (some ⟨q, 0, none⟩), .int .i64 n] w fun e w' => e = .returned (.bool false) ∧ ∃ n, w' = w.drewN n := by
  obtain ⟨v, hb, hi, hq⟩ := id h
  obtain ⟨a, cap, rfl, hx, -⟩ := Row.shape hi
  unfold maxLen at hx
  have c1 : w.cell? ⟨q, 1, none⟩ = some (.slice a xs.length cap) := hb.c 1
  have hf := Lib.hid (Full_any w q room xs D h)
  clear hb hi hq
  go_enter Try.func48, Try.ntmps48
  go_wp2_with (go_at_call 53; refine hf.out.mono ?_; rintro e w' ⟨rfl, k, rfl⟩; rw [hm])
  go_ret
  exact ⟨rfl, _, rfl⟩

set_option maxHeartbeats 400000 in
theorem Add_low (w : World) (q : Nat) (room : Int) (xs : List Int) (D : List Nat) (n : Int) (h : WinAt w q room xs D) (hm : decide (room ≤ xs.length) = false) (hne : 0 < xs.length) (hlow : n ≤ xs.getD (xs.length - 1) 0) :
    Calls Try.prog 48 #[.pointer (some ⟨q, 0, none⟩), .int .i64 n] w fun e w' => e = .returned (.bool false) ∧ ∃ n, w' = w.drewN n := by
  obtain ⟨v, hb, hi, hq⟩ := id h
  have hx := (Row.shape hi)
  obtain ⟨d, off, cap, rfl, -, -, -, hcell⟩ := Row.at_ hi hne
  replace hx : xs.length ≤ 9223372036854775807 := by obtain ⟨_, _, _, h, _⟩ := hx; exact h
  have cl : w.cell? ⟨d, off + (xs.length - 1), none⟩ = some (.int .i64 (xs.getD (xs.length - 1) 0)) := by
    rw [hcell _ (by omega), intsV_get _ _ (by omega)]
  have c1 : w.cell? ⟨q, 1, none⟩ = some (.slice (some ⟨d, off, none⟩) xs.length cap) := hb.c 1
  have hf := Lib.hid (Full_any w q room xs D h)
  have hl1 : decide (0 < xs.length) = true := by simp; omega
  generalize xs.getD (xs.length - 1) 0 = last at *
  clear hb hi hq hcell
  go_enter Try.func48, Try.ntmps48
  go_wp2_with (go_at_call 53; refine hf.out.mono ?_; rintro e w' ⟨rfl, k, rfl⟩; rw [hm])
  go_ret
  exact ⟨rfl, _, rfl⟩

/-- What became of a window into which a number was laid. -/
def Added (w : World) (q : Nat) (room : Int) (xs : List Int) (D : List Nat) (w' : World) : Prop :=
  ∃ D', WinAt w' q room xs D' ∧ Keeps (q :: D) w w' ∧ ∀ x, x ∈ D' → x ∈ D ∨ w.heap.size ≤ x

set_option maxHeartbeats 400000 in
theorem Add_yes (w : World) (q : Nat) (room : Int) (xs : List Int) (D : List Nat) (n : Int) (h : WinAt w q room xs D) (hm : decide (room ≤ xs.length) = false) (hr : room ≤ 64) (hup : xs = [] ∨ (0 < xs.length ∧ xs.getD (xs.length - 1) 0 < n)) :
    Calls Try.prog 48 #[.pointer (some ⟨q, 0, none⟩), .int .i64 n] w fun e w' => e = .returned (.bool true) ∧ Added w q room (xs ++ [n]) D w' := by
  obtain ⟨v, hb, hi, hq⟩ := id h
  have hlen : (xs.length : Int) < room := by simpa using hm
  obtain ⟨i0, hinf, hz0, hz1, hz2⟩ := info_parts infoInt
  have hf := Lib.hid (Full_any w q room xs D h)
  have HB := Lib.hid hb
  have HI := Lib.hid hi
  have HQ := Lib.hid hq
  have hend : ∀ (k : Nat) (v' : Value) (w1 : World) (D' : List Nat), Row w1 3 1 v' (xs.length + 1) (intsV xs ++ [.int .i64 n]) D' → Keeps D ((w.drewN k).alloc (.cells #[.int .i64 n] 3)) w1 → (∀ d, d ∈ D' → d ∈ D ∨ ((w.drewN k).alloc (.cells #[.int .i64 n] 3)).heap.size ≤ d) →
      Blk w1 q #[.int .i64 room, v] 77 ∧ Added w q room (xs ++ [n]) D (w1.setCell ⟨q, 1, none⟩ v') := by
    intro k v' w1 D' r1 k1 d1
    have kk : Keeps D w w1 := (((Keeps.refl D w).drewN k).alloc _).trans k1 (fun x hx _ => hx)
    have hb1 := kk.blk hb hq
    have hq' : q ∉ D' := fun hx => by
      rcases d1 q hx with hx | hx
      · exact hq hx
      · have := hb.lt
        simp [World.drewN] at hx
        omega
    refine ⟨hb1, D', ⟨v', hb1.setCell 1 v', ?_, hq'⟩, (kk.mono (fun x hx _ => by simp [hx])).setCell (.inl (by simp)) _, fun x hx => ?_⟩
    · have := r1.setOther ⟨q, 1, none⟩ v' hq'
      unfold Ints
      simpa [intsV] using this
    · rcases d1 x hx with hx | hx
      · exact .inl hx
      · right
        simp [World.drewN] at hx
        omega
  have HE := Lib.hid hend
  clear hend
  rcases hup with rfl | ⟨hne, hlow⟩
  · obtain ⟨a, cap, rfl, hx, -⟩ := Row.shape hi
    have c1 : w.cell? ⟨q, 1, none⟩ = some (.slice a 0 cap) := hb.c 1
    clear hb hi hq
    go_enter Try.func48, Try.ntmps48
    go_wp2_with (first | (go_at_call 53; refine hf.out.mono ?_; rintro e w' ⟨rfl, k, rfl⟩; rw [hm]) | (at_builtin; refine wpList_append_row rfl _ _ 22 rfl (Row.alloc (Row.drewN HI.out _) _) i0 (.int .i64 0) 8 Try.underlying22 hinf hz0 hz1 hz2 rfl (by decide) rfl _ 1 1 [.int .i64 n] rfl rfl ?hnews ?h1 ?h63 ?hbytes ?hK; case' hK => (intro v' w1 D' r1 k1 d1; obtain ⟨a', cap', rfl, -⟩ := Row.shape r1; obtain ⟨hb1, hA⟩ := HE.out _ _ _ _ r1 k1 d1; have c1' := hb1.c 1; have f1' := hb1.fr 1; clear r1 k1 d1 hb1)))
    case hnews => exact cell_one_new _ _ _
    case h1 => simp [Value.oneCell']
    case h63 => simp [maxLen]
    case hbytes => simp
    go_ret
    exact ⟨rfl, hA⟩
  · have hx := (Row.shape hi)
    obtain ⟨d, off, cap, rfl, -, -, -, hcell⟩ := Row.at_ hi hne
    replace hx : xs.length ≤ 9223372036854775807 := by obtain ⟨_, _, _, h, _⟩ := hx; exact h
    have cl : w.cell? ⟨d, off + (xs.length - 1), none⟩ = some (.int .i64 (xs.getD (xs.length - 1) 0)) := by
      rw [hcell _ (by omega), intsV_get _ _ (by omega)]
    have c1 : w.cell? ⟨q, 1, none⟩ = some (.slice (some ⟨d, off, none⟩) xs.length cap) := hb.c 1
    have hl1 : decide (0 < xs.length) = true := by simp; omega
    generalize xs.getD (xs.length - 1) 0 = last at *
    clear hb hi hq hcell
    go_enter Try.func48, Try.ntmps48
    go_wp2_with (first | (go_at_call 53; refine hf.out.mono ?_; rintro e w' ⟨rfl, k, rfl⟩; rw [hm]) | (at_builtin; refine wpList_append_row rfl _ _ 22 rfl (Row.alloc (Row.drewN HI.out _) _) i0 (.int .i64 0) 8 Try.underlying22 hinf hz0 hz1 hz2 rfl (by decide) rfl _ 1 1 [.int .i64 n] rfl rfl ?hnewsb ?h1b ?h63b ?hbytesb ?hKb; case' hKb => (intro v' w1 D' r1 k1 d1; obtain ⟨a', cap', rfl, -⟩ := Row.shape r1; obtain ⟨hb1, hA⟩ := HE.out _ _ _ _ r1 k1 d1; have c1' := hb1.c 1; have f1' := hb1.fr 1; clear r1 k1 d1 hb1)))
    case hnewsb => exact cell_one_new _ _ _
    case h1b => simp [Value.oneCell']
    case h63b => simp [maxLen]; omega
    case hbytesb => omega
    go_ret
    exact ⟨rfl, hA⟩

end Go.Proofs.Ytniceappkpiekaa
