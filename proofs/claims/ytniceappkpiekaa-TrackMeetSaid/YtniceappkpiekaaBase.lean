/-
  Blocks of memory, what a call keeps, and slices of ints in memory of their own: plain facts on worlds, no program in sight.
-/
import Derived.WalkKit
import Derived.WalkSpells
import Derived.Lib.Hide
import Derived.BigQuiet
import Derived.Deep.QuietTactic
namespace Go.Proofs.Ytniceappkpiekaa
open Go.RowKit

/-- block b holds these cells. -/
def Blk (w : World) (b : Nat) (cs : Array Value) (T : TypeId) : Prop := w.heap[b]? = some (.cells cs T (0, 0))

theorem Blk.c {w : World} {b : Nat} {cs : Array Value} {T : TypeId} (h : Blk w b cs T) (i : Nat) : w.cell? ⟨b, i, none⟩ = cs[i]? := by
  unfold Blk at h
  simp [World.cell?, h]
theorem Blk.fr {w : World} {b : Nat} {cs : Array Value} {T : TypeId} (h : Blk w b cs T) (i : Nat) : w.frozen? ⟨b, i, none⟩ = false := by
  unfold Blk at h
  simp [World.frozen?, h]
theorem Blk.lt {w : World} {b : Nat} {cs : Array Value} {T : TypeId} (h : Blk w b cs T) : b < w.heap.size := by
  unfold Blk at h
  exact (Array.getElem?_eq_some_iff.1 h).1
theorem Blk.setCell {w : World} {b : Nat} {cs : Array Value} {T : TypeId} (h : Blk w b cs T) (i : Nat) (v : Value) :
    Blk (w.setCell ⟨b, i, none⟩ v) b (cs.setIfInBounds i v) T := by
  unfold Blk at *
  simp [World.setCell, Array.getElem?_modify, h]
theorem Blk.setOther {w : World} {b : Nat} {cs : Array Value} {T : TypeId} (h : Blk w b cs T) (a : Addr) (v : Value) (hne : a.block ≠ b) :
    Blk (w.setCell a v) b cs T := by
  unfold Blk at *
  rw [Below.heap_setCell _ _ _ _ (fun e => hne e.symm)]
  exact h
theorem Blk.alloc {w : World} {b : Nat} {cs : Array Value} {T : TypeId} (h : Blk w b cs T) (o : Obj) : Blk (w.alloc o) b cs T := by
  have := h.lt
  unfold Blk at *
  rw [Below.heap_alloc _ _ _ this]
  exact h
theorem Blk.new (w : World) (cs : Array Value) (T : TypeId) : Blk (w.alloc (.cells cs T)) w.heap.size cs T := by
  unfold Blk
  show (w.heap.push _)[w.heap.size]? = _
  simp
theorem Blk.new' (w : World) (b : Nat) (hb : b = w.heap.size) (cs : Array Value) (T : TypeId) : Blk (w.alloc (.cells cs T)) b cs T := hb ▸ Blk.new w cs T
theorem Blk.drew {w : World} {b : Nat} {cs : Array Value} {T : TypeId} (h : Blk w b cs T) : Blk w.drew b cs T := h

/-- What a call keeps: of the blocks that were there only those of F may have turned. -/
structure Keeps (F : List Nat) (w w' : World) : Prop where
  os : w'.os = w.os
  tape : w'.tape = w.tape
  output : w'.output = w.output
  size : w.heap.size ≤ w'.heap.size
  block : ∀ k, k < w.heap.size → k ∉ F → w'.heap[k]? = w.heap[k]?

theorem Keeps.refl (F : List Nat) (w : World) : Keeps F w w := ⟨rfl, rfl, rfl, Nat.le_refl _, fun _ _ _ => rfl⟩
theorem Keeps.trans {F G : List Nat} {a b c : World} (h : Keeps F a b) (k : Keeps G b c) (hs : ∀ x, x ∈ G → x < a.heap.size → x ∈ F) : Keeps F a c :=
  ⟨k.os.trans h.os, k.tape.trans h.tape, k.output.trans h.output, Nat.le_trans h.size k.size,
   fun i hi hn => (k.block i (Nat.lt_of_lt_of_le hi h.size) (fun hg => hn (hs i hg hi))).trans (h.block i hi hn)⟩
theorem Keeps.mono {F G : List Nat} {a b : World} (h : Keeps F a b) (hs : ∀ x, x ∈ F → x < a.heap.size → x ∈ G) : Keeps G a b :=
  ⟨h.os, h.tape, h.output, h.size, fun i hi hn => h.block i hi (fun hf => hn (hs i hf hi))⟩
theorem Keeps.setCell {F : List Nat} {a w : World} (h : Keeps F a w) {p : Addr} (hp : p.block ∈ F ∨ a.heap.size ≤ p.block) (v : Value) : Keeps F a (w.setCell p v) :=
  ⟨h.os, h.tape, h.output, by simpa using h.size, fun i hi hn => by
    rw [Below.heap_setCell _ _ _ _ (by rintro rfl; rcases hp with hp | hp; exact hn hp; omega)]
    exact h.block i hi hn⟩
theorem Keeps.alloc {F : List Nat} {a w : World} (h : Keeps F a w) (o : Obj) : Keeps F a (w.alloc o) :=
  ⟨h.os, h.tape, h.output, by have := h.size; simp; omega, fun i hi hn => by
    rw [Below.heap_alloc _ _ _ (Nat.lt_of_lt_of_le hi h.size)]
    exact h.block i hi hn⟩
theorem Keeps.drew {F : List Nat} {a w : World} (h : Keeps F a w) : Keeps F a w.drew := ⟨h.os, h.tape, h.output, h.size, h.block⟩
theorem Keeps.drewN {F : List Nat} {a w : World} (h : Keeps F a w) (n : Nat) : Keeps F a (w.drewN n) := ⟨h.os, h.tape, h.output, h.size, h.block⟩
theorem Keeps.grown {F : List Nat} {a w w' : World} {row : Option Nat} (h : Keeps F a w) (hg : w.grownBy w' row) (hr : ∀ k, row = some k → k ∈ F ∨ a.heap.size ≤ k) : Keeps F a w' :=
  ⟨hg.os.trans h.os, hg.tape.trans h.tape, hg.output.trans h.output, Nat.le_trans h.size hg.size, fun i hi hn => by
    rw [hg.block i (Nat.lt_of_lt_of_le hi h.size) (fun e => by rcases hr i e.symm with x | x; exact hn x; omega)]
    exact h.block i hi hn⟩
theorem Keeps.below {F : List Nat} {B : Nat} {w w' : World} (h : Keeps F w w') (hB : B ≤ w.heap.size) (hF : ∀ x, x ∈ F → B ≤ x) : Below B w w' :=
  ⟨h.os, h.tape, h.output, h.size, fun k hk => h.block k (by omega) (fun hf => by have := hF k hf; omega)⟩
theorem Keeps.of_below {B : Nat} {w w' : World} (h : Below B w w') (hB : B = w.heap.size) : Keeps [] w w' :=
  ⟨h.os, h.tape, h.output, h.size, fun k hk _ => h.block k (by omega)⟩
theorem Keeps.blk {F : List Nat} {w w' : World} (h : Keeps F w w') {b : Nat} {cs : Array Value} {T : TypeId} (hb : Blk w b cs T) (hn : b ∉ F) : Blk w' b cs T := by
  have := h.block b hb.lt hn
  unfold Blk at *
  rw [this]
  exact hb
theorem Keeps.cell {F : List Nat} {w w' : World} (h : Keeps F w w') {a : Addr} {v : Value} (hc : w.cell? a = some v) (hn : a.block ∉ F) : w'.cell? a = some v := by
  have hl := World.block_lt_of_cell? _ _ hc
  rw [World.cell?_of_block (h.block a.block hl hn)]
  exact hc

theorem ret_i {k : IntKind} {a b : Int} (h : a = b) : Ending.returned (.int k a) = .returned (.int k b) := by rw [h]
theorem ret_b {a b : Bool} (h : a = b) : Ending.returned (.bool a) = .returned (.bool b) := by rw [h]
theorem ret_v {a b : Value} (h : a = b) : Ending.returned a = .returned b := by rw [h]

/-- A slice value in memory of its own: n elements of so many cells each; cs: their cells; D: its block, if it has one. -/
def Row (w : World) (E : TypeId) (size : Nat) (v : Value) (n : Nat) (cs : List Value) (D : List Nat) : Prop :=
  ∃ a cap, v = .slice a n cap ∧ n ≤ cap ∧ cap ≤ maxLen ∧ cs.length = n * size ∧
    ((a = none ∧ cap = 0 ∧ D = []) ∨
     ∃ d off arr, a = some ⟨d, off, none⟩ ∧ D = [d] ∧ Blk w d arr E ∧ off + cap * size ≤ arr.size ∧
       ∀ i, i < n * size → arr[off + i]? = cs[i]?)

section
variable {w w' : World} {E : TypeId} {size : Nat} {v : Value} {n : Nat} {cs : List Value} {D F : List Nat}
theorem Row.keep (h : Row w E size v n cs D) (k : Keeps F w w') (hd : ∀ x, x ∈ D → x ∉ F) : Row w' E size v n cs D := by
  obtain ⟨a, cap, rfl, h1, h2, h2', h3⟩ := h
  refine ⟨a, cap, rfl, h1, h2, h2', ?_⟩
  rcases h3 with h3 | ⟨d, off, arr, e1, e2, e3, e4⟩
  · exact .inl h3
  · exact .inr ⟨d, off, arr, e1, e2, k.blk e3 (hd d (by simp [e2])), e4⟩
theorem Row.lt (h : Row w E size v n cs D) : ∀ x, x ∈ D → x < w.heap.size := by
  obtain ⟨a, cap, rfl, h1, h2, h2', h3⟩ := h
  rcases h3 with ⟨_, _, rfl⟩ | ⟨d, off, arr, e1, rfl, e3, e4⟩
  · intro x hx; cases hx
  · intro x hx
    obtain rfl : x = d := by simpa using hx
    exact e3.lt
theorem Row.nil (w : World) (E : TypeId) (size : Nat) : Row w E size (.slice none 0 0) 0 [] [] := ⟨none, 0, rfl, by simp, by simp, by simp, .inl ⟨rfl, rfl, rfl⟩⟩
theorem Row.of_owns {base : Nat} (h : w.ownsRow base E size v n cs) : ∃ D, Row w E size v n cs D ∧ ∀ d, d ∈ D → base ≤ d := by
  obtain ⟨hl, ⟨rfl, rfl⟩ | ⟨g, cap, cur, rfl, hb, hg, hn, hm, hs, ht⟩⟩ := h
  · exact ⟨[], ⟨none, 0, rfl, by simp, by simp, hl, .inl ⟨rfl, rfl, rfl⟩⟩, by simp⟩
  · refine ⟨[g], ⟨_, cap, rfl, hn, hm, hl, .inr ⟨g, 0, cur, rfl, rfl, hg, by omega, fun i hi => ?_⟩⟩, by simpa using hb⟩
    rw [← ht, List.getElem?_take, if_pos hi]
    simp
/-- the cells, read where they lie. -/
theorem Row.cells (h : Row w E size v n cs D) {b off : Nat} {m c : Nat} (hv : v = .slice (some ⟨b, off, none⟩) m c) : ∀ i, i < n * size → w.cell? ⟨b, off + i, none⟩ = cs[i]? := by
  obtain ⟨a, cap, rfl, h1, h2, h2', h3⟩ := h
  rcases h3 with ⟨rfl, _⟩ | ⟨d, o, arr, rfl, e2, e3, e4, e5⟩
  · simp at hv
  · intro i hi
    simp only [Value.slice.injEq, Option.some.injEq, Addr.mk.injEq] at hv
    obtain ⟨⟨rfl, rfl, -⟩, rfl, rfl⟩ := hv
    rw [e3.c, e5 i hi]
end

theorem Blk.setCells {w : World} {b : Nat} {T : TypeId} : ∀ (vs : List Value) (o : Nat) (arr : Array Value), Blk w b arr T → o + vs.length ≤ arr.size →
    ∃ arr', Blk (w.setCells b o vs) b arr' T ∧ arr'.size = arr.size ∧ (∀ j, j < vs.length → arr'[o + j]? = vs[j]?) ∧ ∀ j, (j < o ∨ o + vs.length ≤ j) → arr'[j]? = arr[j]? := by
  intro vs
  induction vs generalizing w with
  | nil => exact fun o arr h _ => ⟨arr, h, rfl, by simp, fun _ _ => rfl⟩
  | cons v r ih =>
    intro o arr h hl
    simp only [List.length_cons] at hl
    obtain ⟨arr', h1, h2, h3, h4⟩ := ih (o + 1) _ (h.setCell o v) (by simp; omega)
    refine ⟨arr', h1, by simpa using h2, fun j hj => ?_, fun j hj => ?_⟩
    · cases j with
      | zero =>
        rw [Nat.add_zero, h4 o (.inl (by omega))]
        have : o < arr.size := by omega
        simp [this]
      | succ j =>
        have := h3 j (by simpa using hj)
        rw [show o + (j + 1) = o + 1 + j by omega, this]
        simp
    · rw [h4 j (by simp only [List.length_cons] at hj; omega)]
      have : o ≠ j := by simp only [List.length_cons] at hj; omega
      simp [this]

theorem Row.alloc {w : World} {E : TypeId} {size : Nat} {v : Value} {n : Nat} {cs : List Value} {D : List Nat} (h : Row w E size v n cs D) (o : Obj) : Row (w.alloc o) E size v n cs D :=
  h.keep ((Keeps.refl [] w).alloc o) (by simp)
theorem Row.drewN {w : World} {E : TypeId} {size : Nat} {v : Value} {n : Nat} {cs : List Value} {D : List Nat} (h : Row w E size v n cs D) (k : Nat) : Row (w.drewN k) E size v n cs D :=
  h.keep ((Keeps.refl [] w).drewN k) (by simp)
theorem Row.drew {w : World} {E : TypeId} {size : Nat} {v : Value} {n : Nat} {cs : List Value} {D : List Nat} (h : Row w E size v n cs D) : Row w.drew E size v n cs D :=
  h.keep ((Keeps.refl [] w).drew) (by simp)
theorem Row.setOther {w : World} {E : TypeId} {size : Nat} {v : Value} {n : Nat} {cs : List Value} {D : List Nat} (h : Row w E size v n cs D) (a : Addr) (u : Value) (hn : a.block ∉ D) : Row (w.setCell a u) E size v n cs D :=
  h.keep ((Keeps.refl [a.block] w).setCell (by simp) u) (by simp; rintro x hx rfl; exact hn hx)
theorem Blk.drewN {w : World} {b : Nat} {cs : Array Value} {T : TypeId} (h : Blk w b cs T) (n : Nat) : Blk (w.drewN n) b cs T := h

theorem Keeps.setCells {F : List Nat} {a : World} {b : Nat} (hb : b ∈ F ∨ a.heap.size ≤ b) : ∀ (vs : List Value) (o : Nat) (w : World), Keeps F a w → Keeps F a (w.setCells b o vs)
  | [], _, _, h => h
  | v :: r, o, w, h => by
    rw [World.setCells]
    exact Keeps.setCells hb r (o + 1) _ (h.setCell (p := ⟨b, o, none⟩) hb v)

/-- append onto such a slice: of what came from anywhere. -/
theorem Row.append {P : Program} {w : World} {E : TypeId} {size : Nat} {v : Value} {n : Nat} {cs : List Value} {D : List Nat} (h : Row w E size v n cs D)
    (t ty : TypeId) (i : TypeInfo) (z : Value) (bytes : Nat) (ht : P.underlying t = some (.slice E)) (hi : P.info? E = some i) (hz : i.zero = some z)
    (hsize : i.size = size) (hby : i.bytes = bytes) (hzs : z.cells.size = size) (hsz : 0 < size)
    (ad : Addr) (m c : Nat) (news : List Value) (hl : news.length = m * size) (hnews : ∀ j u, news[j]? = some u → w.cell? (ad.add j) = some u) (h1 : ∀ u ∈ news, u.oneCell' = true)
    (h63 : n + m ≤ maxLen) (hbytes : (n + m) * bytes ≤ 140737488355328) :
    ∃ v' w' D', (Builtin.append_ #[t, t] ty #[v, .slice (some ad) m c]).run P w = .ok v' w' ∧ Row w' E size v' (n + m) (cs ++ news) D' ∧ Keeps D w w' ∧
      (∀ d, d ∈ D' → d ∈ D ∨ w.heap.size ≤ d) := by
  obtain ⟨a, cap, rfl, hn, hm, hcs, h3⟩ := h
  have hlen : (cs ++ news).length = (n + m) * size := by rw [List.length_append, hcs, hl, Nat.add_mul]
  have keeps : ∀ (v' : Value) (w' : World) (row : Option Nat), w'.ownsRow w.heap.size E size v' (n + m) (cs ++ news) → w.grownBy w' none →
      ∃ D', Row w' E size v' (n + m) (cs ++ news) D' ∧ Keeps D w w' ∧ (∀ d, d ∈ D' → d ∈ D ∨ w.heap.size ≤ d) := by
    intro v' w' _ ho hg
    obtain ⟨D', r1, r2⟩ := Row.of_owns ho
    exact ⟨D', r1, (Keeps.refl D w).grown hg (by simp), fun d hd => .inr (r2 d hd)⟩
  rcases h3 with ⟨rfl, rfl, rfl⟩ | ⟨d, off, arr, rfl, rfl, e3, e4, e5⟩
  · obtain rfl : n = 0 := by omega
    obtain rfl : cs = [] := List.eq_nil_of_length_eq_zero (by simpa using hcs)
    obtain ⟨v', w', hr, r1, r2, -⟩ := run_append_own (P := P) w w.heap.size t ty E i z size bytes ht hi hz hsize hby hzs hsz (.slice none 0 0) 0 [] (World.ownsRow_nil w _ E size) ad m c news hl hnews h1 h63 hbytes (Nat.le_refl _)
    obtain ⟨D', k1, k2, k3⟩ := keeps v' w' none r1 r2
    exact ⟨v', w', D', hr, k1, k2, k3⟩
  · by_cases hroom : n + m ≤ cap
    · subst hsize
      have hfit : off + n * i.size + news.length ≤ arr.size := by
        have := Nat.mul_le_mul_right i.size hroom
        rw [Nat.add_mul] at this
        omega
      have hr := run_append_room_cells (P := P) w t ty E i ht hi d off n cap ad m c news hl hnews h1 hroom (fun j hj => by
        rw [e3.c]
        have : off + n * i.size + j < arr.size := by omega
        simp [this]) (fun j _ => e3.fr _)
      obtain ⟨arr', a1, a2, a3, a4⟩ := e3.setCells news (off + n * i.size) arr hfit
      refine ⟨_, _, [d], hr, ⟨_, cap, rfl, hroom, hm, hlen, .inr ⟨d, off, arr', rfl, rfl, a1, by omega, fun j hj => ?_⟩⟩, (Keeps.refl _ w).setCells (.inl (by simp)) news _ _, fun x hx => .inl hx⟩
      by_cases hjn : j < n * i.size
      · rw [a4 _ (.inl (by omega)), e5 j hjn, List.getElem?_append_left (by omega)]
      · rw [List.getElem?_append_right (by omega), ← a3 (j - cs.length) (by rw [Nat.add_mul] at hj; omega)]
        congr 1
        omega
    · obtain ⟨v', w', hr, r1, r2⟩ := run_append_arg_grows (P := P) w t ty E i z size bytes ht hi hz hsize hby hzs hsz ⟨d, off, none⟩ n cap cs hcs (fun j u hj => by
        rw [Addr.add_lit]
        have hjl : j < n * size := by
          have := (List.getElem?_eq_some_iff.1 hj).1
          omega
        rw [e3.c, e5 j hjl]
        exact hj) ad m c news hl hnews (by omega) h63 hbytes
      obtain ⟨D', k1, k2, k3⟩ := keeps v' w' none r1 r2
      exact ⟨v', w', D', hr, k1, k2, k3⟩

/-- The same, for the walk. -/
theorem wpList_append_row {P : Program} {w : World} {ops : Array Oper} {rest : List Oper} {o : Oper} {a : Act} {Q : Exit → Act → World → Prop}
    (hg : o.guard = none) (s x : Operand) (t : TypeId) (hop : o.op = Op.call { callee := Callee.builtin Builtin.append, args := #[s, x], argTypes := #[t, t] })
    {E : TypeId} {size : Nat} {v : Value} {n : Nat} {cs : List Value} {D : List Nat} (h : Row w E size v n cs D)
    (i : TypeInfo) (z : Value) (bytes : Nat) (ht : P.underlying t = some (.slice E)) (hi : P.info? E = some i) (hz : i.zero = some z)
    (hsize : i.size = size) (hby : i.bytes = bytes) (hzs : z.cells.size = size) (hsz : 0 < size)
    (hs : a.eval s = v) (ad : Addr) (m c : Nat) (news : List Value) (hx : a.eval x = .slice (some ad) m c) (hl : news.length = m * size) (hnews : ∀ j u, news[j]? = some u → w.cell? (ad.add j) = some u) (h1 : ∀ u ∈ news, u.oneCell' = true)
    (h63 : n + m ≤ maxLen) (hbytes : (n + m) * bytes ≤ 140737488355328)
    (hK : ∀ v' w' D', Row w' E size v' (n + m) (cs ++ news) D' → Keeps D w w' → (∀ d, d ∈ D' → d ∈ D ∨ w.heap.size ≤ d) → wpList P ops Q rest (a.put o.dst v') w') :
    wpList P ops Q (o :: rest) a w := by
  refine wpList_plain hg fun K hK' => ?_
  obtain ⟨v', w', D', hrun, r1, r2, r3⟩ := h.append (P := P) t o.type i z bytes ht hi hz hsize hby hzs hsz ad m c news hl hnews h1 h63 hbytes
  unfold Oper.wp
  simp [execOp, hop, resolve, invoke, builtin, hs, hx, hrun, Result.andThen]
  exact hK' _ _ (hK v' w' D' r1 r2 r3)

/-- .. of ints. -/
def IntsOk (xs : List Int) : Prop := ∀ x, x ∈ xs → -9223372036854775808 ≤ x ∧ x ≤ 9223372036854775807
abbrev intsV (xs : List Int) : List Value := xs.map (Value.int .i64)
def Ints (w : World) (v : Value) (xs : List Int) (D : List Nat) : Prop := Row w 3 1 v xs.length (intsV xs) D

end Go.Proofs.Ytniceappkpiekaa
