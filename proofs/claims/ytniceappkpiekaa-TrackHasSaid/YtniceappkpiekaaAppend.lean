/-
  append of a slice that came in, nil too; a slice that is cut at its end; SameInts.
-/
import Derived.Test.YtniceappkpiekaaFirst
import Derived.Deep.LoopGhost
namespace Go.Proofs.Ytniceappkpiekaa
open Go.RowKit

theorem run_append_nothing {P : Program} (w : World) (t ty E : TypeId) (i : TypeInfo) (ht : P.underlying t = some (.slice E)) (hi : P.info? E = some i) (a : Option Addr) (n cap c : Nat) (h : n ≤ cap) :
    (Builtin.append_ #[t, t] ty #[.slice a n cap, .slice none 0 c]).run P w = .ok (.slice a n cap) w := by
  cases a with
  | none => simp [Builtin.append_, run_underlying ht, sizeOf, typeInfo, hi, Builtin.lenOf, Builtin.firstCells, h]
  | some a => simp [Builtin.append_, run_underlying ht, sizeOf, typeInfo, hi, Builtin.lenOf, Builtin.firstCells, h, storeCells]

/-- what is read of a source: its cells. -/
def Src (w : World) (a : Option Addr) (m : Nat) (news : List Value) : Prop :=
  (a = none ∧ m = 0 ∧ news = []) ∨ ∃ ad, a = some ad ∧ ∀ j u, news[j]? = some u → w.cell? (ad.add j) = some u

theorem Src.keep {w w' : World} {a : Option Addr} {m : Nat} {news : List Value} (h : Src w a m news) (k : Keeps [] w w') : Src w' a m news := by
  rcases h with h | ⟨ad, rfl, h⟩
  · exact .inl h
  · exact .inr ⟨ad, rfl, fun j u hj => k.cell (h j u hj) (by simp)⟩

theorem RInts.src {w : World} {v : Value} {xs : List Int} (h : RInts w v xs) : ∃ a cap, v = .slice a xs.length cap ∧ xs.length ≤ cap ∧ cap ≤ maxLen ∧ Src w a xs.length (intsV xs) := by
  obtain ⟨a, cap, rfl, h1, h2, h3, h4⟩ := h
  refine ⟨a, cap, rfl, h1, h2, ?_⟩
  rcases h4 with rfl | ⟨b, off, rfl, hc⟩
  · cases a with
    | none => exact .inl ⟨rfl, rfl, rfl⟩
    | some ad => exact .inr ⟨ad, rfl, fun j u hj => by simp [intsV] at hj⟩
  · refine .inr ⟨_, rfl, fun j u hj => ?_⟩
    have hl : j < xs.length := by simpa [intsV] using (List.getElem?_eq_some_iff.1 hj).1
    rw [Addr.add_lit, hc j hl]
    rw [intsV_get _ _ hl] at hj
    exact hj
theorem RInts.keep {w w' : World} {v : Value} {xs : List Int} (h : RInts w v xs) (k : Keeps [] w w') : RInts w' v xs := by
  obtain ⟨a, cap, rfl, h1, h2, h3, h4⟩ := h
  refine ⟨a, cap, rfl, h1, h2, h3, ?_⟩
  rcases h4 with h4 | ⟨b, off, rfl, hc⟩
  · exact .inl h4
  · exact .inr ⟨b, off, rfl, fun i hi => k.cell (hc i hi) (by simp)⟩

theorem wpList_append_src {P : Program} {w : World} {ops : Array Oper} {rest : List Oper} {o : Oper} {a : Act} {Q : Exit → Act → World → Prop}
    (hg : o.guard = none) (s x : Operand) (t : TypeId) (hop : o.op = Op.call { callee := Callee.builtin Builtin.append, args := #[s, x], argTypes := #[t, t] })
    {E : TypeId} {size : Nat} {v : Value} {n : Nat} {cs : List Value} {D : List Nat} (h : Row w E size v n cs D)
    (i : TypeInfo) (z : Value) (bytes : Nat) (ht : P.underlying t = some (.slice E)) (hi : P.info? E = some i) (hz : i.zero = some z)
    (hsize : i.size = size) (hby : i.bytes = bytes) (hzs : z.cells.size = size) (hsz : 0 < size)
    (hs : a.eval s = v) (ao : Option Addr) (m c : Nat) (news : List Value) (hx : a.eval x = .slice ao m c) (hsrc : Src w ao m news) (hl : news.length = m * size) (h1 : ∀ u ∈ news, u.oneCell' = true)
    (h63 : n + m ≤ maxLen) (hbytes : (n + m) * bytes ≤ 140737488355328)
    (hK : ∀ v' w' D', Row w' E size v' (n + m) (cs ++ news) D' → Keeps D w w' → (∀ d, d ∈ D' → d ∈ D ∨ w.heap.size ≤ d) → wpList P ops Q rest (a.put o.dst v') w') :
    wpList P ops Q (o :: rest) a w := by
  refine wpList_plain hg fun K hK' => ?_
  rcases hsrc with ⟨rfl, rfl, rfl⟩ | ⟨ad, rfl, hnews⟩
  · have h' := h
    obtain ⟨a0, cap, rfl, hn, hm, hcs, h3⟩ := h
    have hrun := run_append_nothing (P := P) w t o.type E i ht hi a0 n cap c hn
    unfold Oper.wp
    simp [execOp, hop, resolve, invoke, builtin, hs, hx, hrun, Result.andThen]
    exact hK' _ _ (hK _ _ D (by simpa using h') (Keeps.refl _ _) (fun d hd => .inl hd))
  · obtain ⟨v', w', D', hrun, r1, r2, r3⟩ := h.append (P := P) t o.type i z bytes ht hi hz hsize hby hzs hsz ad m c news hl hnews h1 h63 hbytes
    unfold Oper.wp
    simp [execOp, hop, resolve, invoke, builtin, hs, hx, hrun, Result.andThen]
    exact hK' _ _ (hK v' w' D' r1 r2 r3)

/-- a new block without cells, as an empty slice has it. -/
theorem Row.empty (w : World) (E : TypeId) (size : Nat) : Row (w.alloc (.cells #[] E)) E size (.slice (some ⟨w.heap.size, 0, none⟩) 0 0) 0 [] [w.heap.size] :=
  ⟨_, 0, rfl, by simp, by simp, by simp, .inr ⟨_, 0, #[], rfl, rfl, Blk.new _ _ _, by simp, by simp⟩⟩

/-- cut at its end. -/
theorem Row.cut {w : World} {E : TypeId} {a : Option Addr} {n cap : Nat} {xs ys : List Int} {D : List Nat} (h : Row w E 1 (.slice a n cap) (xs.length + ys.length) (intsV (xs ++ ys)) D) : RInts w (.slice a xs.length cap) xs := by
  by_cases h0 : xs.length + ys.length = 0
  · obtain rfl : xs = [] := List.eq_nil_of_length_eq_zero (by omega)
    obtain ⟨a', cap', hv, h1, h2, h3, h4⟩ := h
    simp only [Value.slice.injEq] at hv
    obtain ⟨rfl, rfl, rfl⟩ := hv
    refine ⟨a, cap, rfl, by simp, h2, fun e => ?_, .inl rfl⟩
    rcases h4 with ⟨_, h4, _⟩ | ⟨d, off, arr, rfl, _⟩
    · exact h4
    · cases e
  · obtain ⟨d, off, cap', hv, -, h1, h2, hc⟩ := Row.at_ h (by omega)
    simp only [Value.slice.injEq] at hv
    obtain ⟨rfl, rfl, rfl⟩ := hv
    refine ⟨_, cap, rfl, by omega, h2, by simp, .inr ⟨d, off, rfl, fun i hi => ?_⟩⟩
    rw [hc i (by omega), intsV_get _ _ (by simp; omega)]
    simp [List.getD_eq_getElem?_getD, List.getElem?_append_left hi]

set_option maxHeartbeats 800000 in
theorem SameInts_same (w : World) (v u : Value) (xs : List Int) (h : RInts w v xs) (h' : RInts w u xs) :
    Calls Try.prog 13 #[v, u] w fun e w' => e = .returned (.bool true) ∧ ∃ n, w' = w.drewN n := by
  obtain ⟨a, cap, rfl, hl, hm, -, hc⟩ := h
  obtain ⟨a', cap', rfl, -, -, -, hc'⟩ := h'
  unfold maxLen at hm
  have hlen : xs.length ≤ 9223372036854775807 := by omega
  rcases hc with rfl | ⟨b, off, rfl, hc⟩
  · go_enter Try.func13, Try.ntmps13
    go_wp2
    refine wp_loop_once ?_
    go_wp2
    go_ret
    exact ⟨rfl, 0, rfl⟩
  · rcases hc' with rfl | ⟨b', off', rfl, hc'⟩
    · go_enter Try.func13, Try.ntmps13
      go_wp2
      refine wp_loop_once ?_
      go_wp2
      go_ret
      exact ⟨rfl, 0, rfl⟩
    · have HC := Lib.hid hc
      have HC' := Lib.hid hc'
      clear hc hc'
      go_enter Try.func13, Try.ntmps13
      go_wp2
      go_loopw [5] (fun i wr => ∃ k : Nat, k ≤ xs.length ∧ i = .int .i64 k ∧ ∃ n, wr = w.drewN n) (fun i _ => xs.length - (intOf i).toNat)
      case atStart => exact ⟨0, by omega, rfl, 0, rfl⟩
      case round =>
        obtain ⟨k, hk, rfl, nn, rfl⟩ := hrel
        by_cases hlt : k < xs.length
        · have c1 := HC.out k hlt
          have c2 := HC'.out k hlt
          generalize xs.getD k 0 = x at *
          have hb0 : (0 : Int) ≤ (k : Int) := by omega
          have hb1 : (k : Int) < (xs.length : Int) := by omega
          go_wp2
          go_quiet (fail)
          go_wp2
          go_roundw
          case rel => exact ⟨k + 1, by omega, by go_num, _, rfl⟩
          case measure => simp [intOf]; omega
        · obtain rfl : k = xs.length := by omega
          go_wp2
          go_ret
          exact ⟨rfl, _, rfl⟩

end Go.Proofs.Ytniceappkpiekaa
