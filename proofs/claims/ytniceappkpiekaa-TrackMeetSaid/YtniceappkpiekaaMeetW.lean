/-
  synodlaw9.TrackMeet, walked. (Printed by gen_meet.py.)
-/
import Derived.Test.YtniceappkpiekaaBits
namespace Go.Proofs.Ytniceappkpiekaa
open Go.RowKit

theorem had_put {n : Int} {vs : List (Int × Bool)} {id x : Int} (g : Bool) (h : hadB vs x = false) (hne : id ≠ x) : hadB (putV n vs id g) x = false := by
  unfold putV
  split
  · unfold hadB at *
    rw [List.any_cons, h]
    simpa using hne
  · exact h
theorem len_put (n : Int) (vs : List (Int × Bool)) (id : Int) (g : Bool) : (putV n vs id g).length ≤ vs.length + 1 := by
  unfold putV
  split <;> simp
theorem yes_put (m j : Nat) (hj : j < m) (vs : List (Int × Bool)) (h : hadB vs ((j : Int) + 1) = false) : putV m vs ((j : Int) + 1) true = ((j : Int) + 1, true) :: vs ∧ yesL (((j : Int) + 1, true) :: vs) = yesL vs + 1 := by
  refine ⟨?_, by simp [yesL]⟩
  unfold putV countsB
  rw [h, if_pos]
  simp
  omega
theorem free_put {A m j : Nat} {vs : List (Int × Bool)} (h : ∀ i, j ≤ i → i < m → A.testBit i = true → hadB vs ((i : Int) + 1) = false) : ∀ i, j + 1 ≤ i → i < m → A.testBit i = true → hadB (((j : Int) + 1, true) :: vs) ((i : Int) + 1) = false := by
  intro i h1 h2 h3
  have := h i (by omega) h2 h3
  unfold hadB at *
  rw [List.any_cons, this]
  have : (((j : Int) + 1) == (i : Int) + 1) = false := by rw [beq_eq_false_iff_ne]; omega
  rw [this]
  rfl

set_option maxRecDepth 100000 in
set_option maxHeartbeats 20000000 in
theorem TrackMeet_walk (w : World) (n0 a0 b0 : Int) (v : Value) (ds : List (Int × Bool)) (_hn : -9223372036854775808 ≤ n0 ∧ n0 ≤ 9223372036854775807) (_ha : -9223372036854775808 ≤ a0 ∧ a0 ≤ 9223372036854775807) (_hb : -9223372036854775808 ≤ b0 ∧ b0 ≤ 9223372036854775807) (hd : BallotsAt w v ds) :
    Calls Try.prog 9 #[.int .i64 n0, .int .i64 a0, .int .i64 b0, v] w fun e w' => e = .returned (.bool true) ∧ Keeps [] w w' := by
  obtain ⟨a, cap, rfl, hlen, hin, hd⟩ := hd
  have HA : Hid (0 < ds.length → ∃ b off, a = some ⟨b, off, none⟩ ∧ ∀ i, i < ds.length → w.cell? ⟨b, off + i * 2, none⟩ = some (.int .i64 (ds.getD i (0, false)).1) ∧ w.cell? ⟨b, off + i * 2 + 1, none⟩ = some (.bool (ds.getD i (0, false)).2)) := by
    rcases hd with rfl | ⟨b, off, rfl, hc⟩
    · exact fun h => by simp at h
    · exact fun _ => ⟨b, off, rfl, hc⟩
  obtain ⟨mo, hmo, hmo1, hmo2⟩ := mod_form n0 7 (by decide)
  obtain ⟨m, ht⟩ : ∃ m : Nat, mo % 7 = (m : Int) - 1 := ⟨(mo % 7 + 1).toNat, by have := Int.emod_nonneg mo (b := 7) (by decide); omega⟩
  have h1 : 1 ≤ m := by have := Int.emod_nonneg mo (b := 7) (by decide); omega
  have h7 : m ≤ 7 := by have := Int.emod_lt_of_pos mo (b := 7) (by decide); omega
  have ht' : (mo + 7) % 7 = (m : Int) - 1 := by rw [Int.add_emod_right]; exact ht
  have hq := Lib.hid (show quorum m ≠ 0 by unfold quorum; rw [if_neg (by omega)]; omega)
  have hqv : quorum m = (m : Int) / 2 + 1 := by unfold quorum; rw [if_neg (by omega)]
  obtain ⟨q, hqe⟩ : ∃ q : Int, quorum m = q := ⟨_, rfl⟩
  have hq0 : 0 ≤ q ∧ q ≤ 7 := by omega
  obtain ⟨hq1, hq2⟩ := hq0
  have hqa : ¬ 2 * q ≤ m := by omega
  have hqb : ¬ (m : Int) < 2 * (q - 1) := by omega
  have HQ := Lib.hid hqe
  have HI := Lib.hid hin
  clear hin hd hqv hqe _hn _ha _hb
  go_enter Try.func9, Try.ntmps9
  go_wp2_with (go_at_call 11; refine (first_any _).mono ?_; rintro e w1 ⟨rfl, k1⟩)
  have K1 := Lib.hid k1
  clear k1 hmo ht ht' hmo1 hmo2
  go_loop [10, 11] (fun al i => ∃ (j p : Nat), j ≤ m ∧ i = .int .i64 (j : Int) ∧ al = .int .i64 (p : Int) ∧ Hid (p = 2 ^ j) ∧ p ≤ 128) (fun _ i => m - (intOf i).toNat)
  case atStart => exact ⟨0, 1, by omega, rfl, rfl, Lib.hid rfl, by omega⟩
  case round =>
    obtain ⟨j, p, hj, rfl, rfl, hp, hpl⟩ := hrel
    by_cases hjl : j < m
    · have hp2 : Hid (2 * p = 2 ^ (j + 1)) := Lib.hid (by rw [hp.out, Nat.pow_succ]; omega)
      have hpl2 : 2 * p ≤ 128 := by
        rw [hp2.out]
        exact Nat.pow_le_pow_right (n := 2) (by decide) (by omega : j + 1 ≤ 7)
      clear hp
      go_wp2
      go_round
      case rel => exact ⟨j + 1, 2 * p, by omega, by go_num, by go_num, hp2, hpl2⟩
      case measure => simp [intOf]; omega
    · have ejm : m = j := by omega
      subst ejm
      have hp1 : 1 ≤ p := by rw [hp.out]; exact Nat.one_le_two_pow
      clear hp
      have pz : ((p : Int) == 0) = false := by rw [beq_eq_false_iff_ne]; omega
      have pz' : ¬ (p : Int) = 0 := by omega
      obtain ⟨ma, hma, hma1, hma2⟩ := mod_form a0 p (by omega)
      obtain ⟨A, hta⟩ : ∃ A : Nat, ma % (p : Int) = A := ⟨(ma % (p : Int)).toNat, by have := Int.emod_nonneg ma (b := (p : Int)) (by omega); omega⟩
      have hAl : A < p := by have := Int.emod_lt_of_pos ma (b := (p : Int)) (by omega); omega
      have hta' : (ma + (p : Int)) % (p : Int) = A := by rw [Int.add_emod_right]; exact hta
      obtain ⟨mb, hmb, hmb1, hmb2⟩ := mod_form b0 p (by omega)
      obtain ⟨B, htb⟩ : ∃ B : Nat, mb % (p : Int) = B := ⟨(mb % (p : Int)).toNat, by have := Int.emod_nonneg mb (b := (p : Int)) (by omega); omega⟩
      have hBl : B < p := by have := Int.emod_lt_of_pos mb (b := (p : Int)) (by omega); omega
      have htb' : (mb + (p : Int)) % (p : Int) = B := by rw [Int.add_emod_right]; exact htb
      go_wp2_with (go_at_call 14; refine (Quorum_any _ _).mono ?_; rintro e w' ⟨rfl, rfl⟩)
      rw [HQ.out]
      clear hma hta hta' hmb htb htb' hma1 hma2 hmb1 hmb2
      go_loop [13, 14, 15, 16] (fun mt x y i => ∃ (j x' y' : Nat) (t : Bool), j ≤ m ∧ i = .int .i64 (j : Int) ∧ x = .int .i64 (x' : Int) ∧ y = .int .i64 (y' : Int) ∧ mt = .bool t ∧ Hid (x' = A / 2 ^ j ∧ y' = B / 2 ^ j ∧ t = meetN A B j) ∧ x' ≤ 1000 ∧ y' ≤ 1000) (fun _ _ _ i => m - (intOf i).toNat)
      case atStart => exact ⟨0, A, B, false, by omega, rfl, rfl, rfl, rfl, Lib.hid ⟨by simp, by simp, rfl⟩, by omega, by omega⟩
      case round =>
        obtain ⟨j, x, y, t, hj, rfl, rfl, rfl, rfl, hxy, hx1, hy1⟩ := hrel
        by_cases hjl : j < m
        · have hX : ((x : Int) % 2 == 1) = A.testBit j := by rw [bit_b, bit_half, ← hxy.out.1]
          have hY : ((y : Int) % 2 == 1) = B.testBit j := by rw [bit_b, bit_half, ← hxy.out.2.1]
          have hn : Hid (x / 2 = A / 2 ^ (j + 1) ∧ y / 2 = B / 2 ^ (j + 1) ∧ (t || (A.testBit j && B.testBit j)) = meetN A B (j + 1)) := Lib.hid ⟨by rw [hxy.out.1]; exact half_step A j, by rw [hxy.out.2.1]; exact half_step B j, by rw [hxy.out.2.2]; rfl⟩
          clear hxy
          generalize A.testBit j = s at *
          generalize B.testBit j = r at *
          cases t
          · cases s
            · go_wp2
              go_round
              case rel => exact ⟨j + 1, x / 2, y / 2, _, by omega, by go_num, by go_num, by go_num, rfl, hn, by omega, by omega⟩
              case measure => simp [intOf]; omega
            · cases r
              · go_wp2
                go_round
                case rel => exact ⟨j + 1, x / 2, y / 2, _, by omega, by go_num, by go_num, by go_num, rfl, hn, by omega, by omega⟩
                case measure => simp [intOf]; omega
              · go_wp2
                go_round
                case rel => exact ⟨j + 1, x / 2, y / 2, _, by omega, by go_num, by go_num, by go_num, rfl, hn, by omega, by omega⟩
                case measure => simp [intOf]; omega
          · go_wp2
            go_round
            case rel => exact ⟨j + 1, x / 2, y / 2, _, by omega, by go_num, by go_num, by go_num, rfl, hn, by omega, by omega⟩
            case measure => simp [intOf]; omega
        · have ejm : m = j := by omega
          subst ejm
          obtain ⟨bx, hbx⟩ : ∃ bx : Nat, bitsN A m = bx := ⟨_, rfl⟩
          obtain ⟨by', hby⟩ : ∃ by' : Nat, bitsN B m = by' := ⟨_, rfl⟩
          have hmt : t = true ∨ (bx + by' ≤ m) := by
            cases t
            · right; rw [← hbx, ← hby]; exact meetN_no A B m hxy.out.2.2.symm
            · left; rfl
          have hb1 : bx ≤ m := by rw [← hbx]; exact bitsN_le A m
          have hb2 : by' ≤ m := by rw [← hby]; exact bitsN_le B m
          have hA1 : A ≤ 1000 := by omega
          have hB1 : B ≤ 1000 := by omega
          have HBX := Lib.hid hbx
          have HBY := Lib.hid hby
          clear hbx hby hxy hpl hjl hp1 pz pz'
          by_cases hu : q ≤ (bx : Int)
          · by_cases hv : q ≤ (by' : Int)
            · obtain rfl : t = true := by
                rcases hmt with h | h
                · exact h
                · omega
              clear hmt
              have tokb : True := trivial
              go_wp2_with (first | (go_at_call 43; clear tokb; refine (bits_any A m (by omega) (by omega) _).mono ?_; rintro e w' ⟨rfl, rfl⟩; rw [HBX.out]) | (go_at_call 43; refine (bits_any B m (by omega) (by omega) _).mono ?_; rintro e w' ⟨rfl, rfl⟩; rw [HBY.out]))
              refine (NewVotes_yes m w1 hq.out).mono ?_
              rintro e w2 ⟨rfl, a1, a2⟩
              have hs1 := K1.out.size
              have H2 := Lib.hid (show VOwn w w2 (w1.heap.size + 1) w1.heap.size m [] from ⟨a1, K1.out.trans a2 (by simp), hs1⟩)
              generalize w1.heap.size + 1 = vb at *
              generalize w1.heap.size = vm at *
              clear a1 a2 hs1
              by_cases hl : (300 : Int) < ds.length
              · go_wp2_with fail
                go_ret
                exact ⟨rfl, H2.out.keeps⟩
              go_wp2_with fail
              go_loopw [18, 19] (fun i _ wr => ∃ (k : Nat) (vs : List (Int × Bool)), k ≤ ds.length ∧ i = .int .i64 (k : Int) ∧ Hid (VOwn w wr vb vm m vs ∧ vs.length ≤ k ∧ ∀ i, 0 ≤ i → i < m → A.testBit i = true → hadB vs ((i : Int) + 1) = false)) (fun i _ _ => ds.length - (intOf i).toNat)
              case atStart => exact ⟨0, [], by omega, rfl, H2.out, by simp, fun _ _ _ _ => rfl⟩
              case round =>
                obtain ⟨k, vs, hk, rfl, HO⟩ := hrel
                clear H2
                by_cases hlt : k < ds.length
                · obtain ⟨b, off, rfl, HC0⟩ := HA.out (by omega)
                  have hcell : ∀ w', Keeps [] w w' → w'.cell? ⟨b, off + k * 2, none⟩ = some (.int .i64 (ds.getD k (0, false)).1) ∧ w'.cell? ⟨b, off + k * 2 + 1, none⟩ = some (.bool (ds.getD k (0, false)).2) := fun w' kw => by
                    obtain ⟨c0, c1⟩ := HC0 k hlt
                    exact ⟨kw.cell c0 (by simp), kw.cell c1 (by simp)⟩
                  have hid : -9223372036854775808 ≤ (ds.getD k (0, false)).1 ∧ (ds.getD k (0, false)).1 ≤ 9223372036854775807 := by
                    rw [List.getD_eq_getElem?_getD, List.getElem?_eq_getElem hlt]
                    exact HI.out _ (List.getElem_mem hlt)
                  generalize (ds.getD k (0, false)).1 = id at *
                  generalize (ds.getD k (0, false)).2 = g at *
                  clear HC0
                  obtain ⟨c0, c1⟩ := hcell _ HO.out.1.keeps
                  have hidH := Lib.hid hid
                  have hvl : Hid (vs.length ≤ 1000) := Lib.hid (by have := HO.out.2.1; omega)
                  have hlp : Hid ((putV m vs id g).length ≤ k + 1) := Lib.hid (by have := HO.out.2.1; have := len_put m vs id g; omega)
                  have k0 : (0 : Int) ≤ k := by omega
                  have k1 : (k : Int) < ds.length := by omega
                  clear hcell
                  by_cases hi1 : id < 1
                  · have hi1' : ¬ (1 : Int) ≤ id := by omega
                    have hfr : Hid (∀ i, 0 ≤ i → i < m → A.testBit i = true → hadB (putV m vs id g) ((i : Int) + 1) = false) := Lib.hid (fun i e1 e2 e3 => had_put g (HO.out.2.2 i e1 e2 e3) (by omega))
                    go_wp2_with (first | (go_at_call 37; refine (VOwn.Put HO.out.1 _ g _ rfl hvl.out hidH.out).mono ?_; rintro e w4 ⟨rfl, O4⟩; have H4 := Lib.hid O4; clear O4))
                    go_roundw
                    case rel => exact ⟨k + 1, _, by omega, by go_num, H4.out, hlp.out, hfr.out⟩
                    case measure => simp [intOf]; omega
                  by_cases hi2 : (m : Int) < id
                  · have hi2' : ¬ id ≤ (m : Int) := by omega
                    have hi1' : (1 : Int) ≤ id := by omega
                    have hfr : Hid (∀ i, 0 ≤ i → i < m → A.testBit i = true → hadB (putV m vs id g) ((i : Int) + 1) = false) := Lib.hid (fun i e1 e2 e3 => had_put g (HO.out.2.2 i e1 e2 e3) (by omega))
                    go_wp2_with (first | (go_at_call 37; refine (VOwn.Put HO.out.1 _ g _ rfl hvl.out hidH.out).mono ?_; rintro e w4 ⟨rfl, O4⟩; have H4 := Lib.hid O4; clear O4))
                    go_roundw
                    case rel => exact ⟨k + 1, _, by omega, by go_num, H4.out, hlp.out, hfr.out⟩
                    case measure => simp [intOf]; omega
                  obtain ⟨i, rfl⟩ : ∃ i : Nat, id = (i : Int) + 1 := ⟨(id - 1).toNat, by omega⟩
                  have hij : i < m := by omega
                  have a1 : (1 : Int) ≤ (i : Int) + 1 := by omega
                  have a2 : (i : Int) + 1 ≤ m := by omega
                  cases hb : A.testBit i
                  · have hfr : Hid (∀ i', 0 ≤ i' → i' < m → A.testBit i' = true → hadB (putV m vs ((i : Int) + 1) g) ((i' : Int) + 1) = false) := Lib.hid (fun i' e1 e2 e3 => had_put g (HO.out.2.2 i' e1 e2 e3) (by
                      intro e
                      obtain rfl : i = i' := by omega
                      rw [hb] at e3
                      cases e3))
                    have HB := Lib.hid hb
                    clear hb
                    go_wp2_with (first | (go_at_call 44; refine (member_any A i (by omega) (by omega) _).mono ?_; rintro e w' ⟨rfl, rfl⟩; rw [HB.out]) | (go_at_call 37; refine (VOwn.Put HO.out.1 _ g _ rfl hvl.out hidH.out).mono ?_; rintro e w4 ⟨rfl, O4⟩; have H4 := Lib.hid O4; clear O4))
                    go_roundw
                    case rel => exact ⟨k + 1, _, by omega, by go_num, H4.out, hlp.out, hfr.out⟩
                    case measure => simp [intOf]; omega
                  · have HB := Lib.hid hb
                    clear hb
                    go_wp2_with (first | (go_at_call 44; refine (member_any A i (by omega) (by omega) _).mono ?_; rintro e w' ⟨rfl, rfl⟩; rw [HB.out]))
                    go_roundw
                    case rel => exact ⟨k + 1, vs, by omega, by go_num, HO.out.1, by have := HO.out.2.1; omega, HO.out.2.2⟩
                    case measure => simp [intOf]; omega
                · obtain rfl : k = ds.length := by omega
                  have hl300 : ds.length ≤ 300 := by omega
                  go_wp2_with fail
                  go_loopw [20] (fun i wr => ∃ (z : Nat) (us : List (Int × Bool)), z ≤ m ∧ i = .int .i64 ((z : Int) + 1) ∧ Hid (VOwn w wr vb vm m us ∧ us.length ≤ 300 + z ∧ (∀ i, z ≤ i → i < m → A.testBit i = true → hadB us ((i : Int) + 1) = false) ∧ bitsN A z ≤ yesL us)) (fun i _ => m + 1 - (intOf i).toNat)
                  case atStart => exact ⟨0, vs, by omega, rfl, HO.out.1, by have := HO.out.2.1; omega, HO.out.2.2, by simp [bitsN]⟩
                  case round =>
                    obtain ⟨z, us, hz, rfl, HU⟩ := hrel
                    clear HO
                    by_cases hzl : z < m
                    · have a1 : (z : Int) + 1 ≤ m := by omega
                      have hvl : Hid (us.length ≤ 1000) := Lib.hid (by have := HU.out.2.1; omega)
                      have hbs : bitsN A (z + 1) = bitsN A z + if A.testBit z then 1 else 0 := rfl
                      cases hb : A.testBit z
                      · rw [hb] at hbs
                        have HB := Lib.hid hb
                        have HS := Lib.hid hbs
                        clear hb hbs
                        go_wp2_with (first | (go_at_call 44; refine (member_any A z (by omega) (by omega) _).mono ?_; rintro e w' ⟨rfl, rfl⟩; rw [HB.out]))
                        go_roundw
                        case rel => exact ⟨z + 1, us, by omega, by go_num, HU.out.1, by have := HU.out.2.1; omega, fun i e1 e2 e3 => HU.out.2.2.1 i (by omega) e2 e3, by rw [HS.out]; exact HU.out.2.2.2⟩
                        case measure => simp [intOf]; omega
                      · rw [hb] at hbs
                        obtain ⟨p1, p2⟩ := yes_put m z hzl us (HU.out.2.2.1 z (by omega) hzl hb)
                        have HB := Lib.hid hb
                        have HS := Lib.hid hbs
                        have HP := Lib.hid p1
                        have HP2 := Lib.hid p2
                        clear hb hbs p1 p2
                        go_wp2_with (first | (go_at_call 44; refine (member_any A z (by omega) (by omega) _).mono ?_; rintro e w' ⟨rfl, rfl⟩; rw [HB.out]) | (go_at_call 37; refine (VOwn.Put HU.out.1 _ true _ rfl hvl.out ⟨by omega, by omega⟩).mono ?_; rintro e w4 ⟨rfl, O4⟩; rw [HP.out] at O4; have H4 := Lib.hid O4; clear O4))
                        go_roundw
                        case rel => exact ⟨z + 1, _, by omega, by go_num, H4.out, by have := HU.out.2.1; simp; omega, free_put HU.out.2.2.1, by rw [HS.out, HP2.out]; have := HU.out.2.2.2; simp; omega⟩
                        case measure => simp [intOf]; omega
                    · have ezm : m = z := by omega
                      subst ezm
                      have hvl : Hid (us.length ≤ 1000) := Lib.hid (by have := HU.out.2.1; omega)
                      have hyb : Hid (bx ≤ yesL us) := Lib.hid (by rw [← HBX.out]; exact HU.out.2.2.2)
                      have hw : Hid (VResult m us = 1) := Lib.hid (by unfold VResult saysV; rw [HQ.out, if_pos (by have := hyb.out; omega)])
                      go_wp2_with (first | (go_at_call 43; refine (bits_any A m (by omega) (by omega) _).mono ?_; rintro e w' ⟨rfl, rfl⟩; rw [HBX.out]) | (go_at_call 41; refine (VOwn.Result HU.out.1 hvl.out ⟨by omega, by omega⟩).mono ?_; rintro e w8 ⟨rfl, O8⟩; rw [hw.out]; have H8 := Lib.hid O8; clear O8))
                      go_ret
                      exact ⟨rfl, H8.out.keeps⟩
            · clear hmt
              have tokb : True := trivial
              go_wp2_with (first | (go_at_call 43; clear tokb; refine (bits_any A m (by omega) (by omega) _).mono ?_; rintro e w' ⟨rfl, rfl⟩; rw [HBX.out]) | (go_at_call 43; refine (bits_any B m (by omega) (by omega) _).mono ?_; rintro e w' ⟨rfl, rfl⟩; rw [HBY.out]))
              refine (NewVotes_yes m w1 hq.out).mono ?_
              rintro e w2 ⟨rfl, a1, a2⟩
              have hs1 := K1.out.size
              have H2 := Lib.hid (show VOwn w w2 (w1.heap.size + 1) w1.heap.size m [] from ⟨a1, K1.out.trans a2 (by simp), hs1⟩)
              generalize w1.heap.size + 1 = vb at *
              generalize w1.heap.size = vm at *
              clear a1 a2 hs1
              by_cases hl : (300 : Int) < ds.length
              · go_wp2_with fail
                go_ret
                exact ⟨rfl, H2.out.keeps⟩
              go_wp2_with fail
              go_loopw [18, 19] (fun i _ wr => ∃ (k : Nat) (vs : List (Int × Bool)), k ≤ ds.length ∧ i = .int .i64 (k : Int) ∧ Hid (VOwn w wr vb vm m vs ∧ vs.length ≤ k ∧ ∀ i, 0 ≤ i → i < m → A.testBit i = true → hadB vs ((i : Int) + 1) = false)) (fun i _ _ => ds.length - (intOf i).toNat)
              case atStart => exact ⟨0, [], by omega, rfl, H2.out, by simp, fun _ _ _ _ => rfl⟩
              case round =>
                obtain ⟨k, vs, hk, rfl, HO⟩ := hrel
                clear H2
                by_cases hlt : k < ds.length
                · obtain ⟨b, off, rfl, HC0⟩ := HA.out (by omega)
                  have hcell : ∀ w', Keeps [] w w' → w'.cell? ⟨b, off + k * 2, none⟩ = some (.int .i64 (ds.getD k (0, false)).1) ∧ w'.cell? ⟨b, off + k * 2 + 1, none⟩ = some (.bool (ds.getD k (0, false)).2) := fun w' kw => by
                    obtain ⟨c0, c1⟩ := HC0 k hlt
                    exact ⟨kw.cell c0 (by simp), kw.cell c1 (by simp)⟩
                  have hid : -9223372036854775808 ≤ (ds.getD k (0, false)).1 ∧ (ds.getD k (0, false)).1 ≤ 9223372036854775807 := by
                    rw [List.getD_eq_getElem?_getD, List.getElem?_eq_getElem hlt]
                    exact HI.out _ (List.getElem_mem hlt)
                  generalize (ds.getD k (0, false)).1 = id at *
                  generalize (ds.getD k (0, false)).2 = g at *
                  clear HC0
                  obtain ⟨c0, c1⟩ := hcell _ HO.out.1.keeps
                  have hidH := Lib.hid hid
                  have hvl : Hid (vs.length ≤ 1000) := Lib.hid (by have := HO.out.2.1; omega)
                  have hlp : Hid ((putV m vs id g).length ≤ k + 1) := Lib.hid (by have := HO.out.2.1; have := len_put m vs id g; omega)
                  have k0 : (0 : Int) ≤ k := by omega
                  have k1 : (k : Int) < ds.length := by omega
                  clear hcell
                  by_cases hi1 : id < 1
                  · have hi1' : ¬ (1 : Int) ≤ id := by omega
                    have hfr : Hid (∀ i, 0 ≤ i → i < m → A.testBit i = true → hadB (putV m vs id g) ((i : Int) + 1) = false) := Lib.hid (fun i e1 e2 e3 => had_put g (HO.out.2.2 i e1 e2 e3) (by omega))
                    go_wp2_with (first | (go_at_call 37; refine (VOwn.Put HO.out.1 _ g _ rfl hvl.out hidH.out).mono ?_; rintro e w4 ⟨rfl, O4⟩; have H4 := Lib.hid O4; clear O4))
                    go_roundw
                    case rel => exact ⟨k + 1, _, by omega, by go_num, H4.out, hlp.out, hfr.out⟩
                    case measure => simp [intOf]; omega
                  by_cases hi2 : (m : Int) < id
                  · have hi2' : ¬ id ≤ (m : Int) := by omega
                    have hi1' : (1 : Int) ≤ id := by omega
                    have hfr : Hid (∀ i, 0 ≤ i → i < m → A.testBit i = true → hadB (putV m vs id g) ((i : Int) + 1) = false) := Lib.hid (fun i e1 e2 e3 => had_put g (HO.out.2.2 i e1 e2 e3) (by omega))
                    go_wp2_with (first | (go_at_call 37; refine (VOwn.Put HO.out.1 _ g _ rfl hvl.out hidH.out).mono ?_; rintro e w4 ⟨rfl, O4⟩; have H4 := Lib.hid O4; clear O4))
                    go_roundw
                    case rel => exact ⟨k + 1, _, by omega, by go_num, H4.out, hlp.out, hfr.out⟩
                    case measure => simp [intOf]; omega
                  obtain ⟨i, rfl⟩ : ∃ i : Nat, id = (i : Int) + 1 := ⟨(id - 1).toNat, by omega⟩
                  have hij : i < m := by omega
                  have a1 : (1 : Int) ≤ (i : Int) + 1 := by omega
                  have a2 : (i : Int) + 1 ≤ m := by omega
                  cases hb : A.testBit i
                  · have hfr : Hid (∀ i', 0 ≤ i' → i' < m → A.testBit i' = true → hadB (putV m vs ((i : Int) + 1) g) ((i' : Int) + 1) = false) := Lib.hid (fun i' e1 e2 e3 => had_put g (HO.out.2.2 i' e1 e2 e3) (by
                      intro e
                      obtain rfl : i = i' := by omega
                      rw [hb] at e3
                      cases e3))
                    have HB := Lib.hid hb
                    clear hb
                    go_wp2_with (first | (go_at_call 44; refine (member_any A i (by omega) (by omega) _).mono ?_; rintro e w' ⟨rfl, rfl⟩; rw [HB.out]) | (go_at_call 37; refine (VOwn.Put HO.out.1 _ g _ rfl hvl.out hidH.out).mono ?_; rintro e w4 ⟨rfl, O4⟩; have H4 := Lib.hid O4; clear O4))
                    go_roundw
                    case rel => exact ⟨k + 1, _, by omega, by go_num, H4.out, hlp.out, hfr.out⟩
                    case measure => simp [intOf]; omega
                  · have HB := Lib.hid hb
                    clear hb
                    go_wp2_with (first | (go_at_call 44; refine (member_any A i (by omega) (by omega) _).mono ?_; rintro e w' ⟨rfl, rfl⟩; rw [HB.out]))
                    go_roundw
                    case rel => exact ⟨k + 1, vs, by omega, by go_num, HO.out.1, by have := HO.out.2.1; omega, HO.out.2.2⟩
                    case measure => simp [intOf]; omega
                · obtain rfl : k = ds.length := by omega
                  have hl300 : ds.length ≤ 300 := by omega
                  go_wp2_with fail
                  go_loopw [20] (fun i wr => ∃ (z : Nat) (us : List (Int × Bool)), z ≤ m ∧ i = .int .i64 ((z : Int) + 1) ∧ Hid (VOwn w wr vb vm m us ∧ us.length ≤ 300 + z ∧ (∀ i, z ≤ i → i < m → A.testBit i = true → hadB us ((i : Int) + 1) = false) ∧ bitsN A z ≤ yesL us)) (fun i _ => m + 1 - (intOf i).toNat)
                  case atStart => exact ⟨0, vs, by omega, rfl, HO.out.1, by have := HO.out.2.1; omega, HO.out.2.2, by simp [bitsN]⟩
                  case round =>
                    obtain ⟨z, us, hz, rfl, HU⟩ := hrel
                    clear HO
                    by_cases hzl : z < m
                    · have a1 : (z : Int) + 1 ≤ m := by omega
                      have hvl : Hid (us.length ≤ 1000) := Lib.hid (by have := HU.out.2.1; omega)
                      have hbs : bitsN A (z + 1) = bitsN A z + if A.testBit z then 1 else 0 := rfl
                      cases hb : A.testBit z
                      · rw [hb] at hbs
                        have HB := Lib.hid hb
                        have HS := Lib.hid hbs
                        clear hb hbs
                        go_wp2_with (first | (go_at_call 44; refine (member_any A z (by omega) (by omega) _).mono ?_; rintro e w' ⟨rfl, rfl⟩; rw [HB.out]))
                        go_roundw
                        case rel => exact ⟨z + 1, us, by omega, by go_num, HU.out.1, by have := HU.out.2.1; omega, fun i e1 e2 e3 => HU.out.2.2.1 i (by omega) e2 e3, by rw [HS.out]; exact HU.out.2.2.2⟩
                        case measure => simp [intOf]; omega
                      · rw [hb] at hbs
                        obtain ⟨p1, p2⟩ := yes_put m z hzl us (HU.out.2.2.1 z (by omega) hzl hb)
                        have HB := Lib.hid hb
                        have HS := Lib.hid hbs
                        have HP := Lib.hid p1
                        have HP2 := Lib.hid p2
                        clear hb hbs p1 p2
                        go_wp2_with (first | (go_at_call 44; refine (member_any A z (by omega) (by omega) _).mono ?_; rintro e w' ⟨rfl, rfl⟩; rw [HB.out]) | (go_at_call 37; refine (VOwn.Put HU.out.1 _ true _ rfl hvl.out ⟨by omega, by omega⟩).mono ?_; rintro e w4 ⟨rfl, O4⟩; rw [HP.out] at O4; have H4 := Lib.hid O4; clear O4))
                        go_roundw
                        case rel => exact ⟨z + 1, _, by omega, by go_num, H4.out, by have := HU.out.2.1; simp; omega, free_put HU.out.2.2.1, by rw [HS.out, HP2.out]; have := HU.out.2.2.2; simp; omega⟩
                        case measure => simp [intOf]; omega
                    · have ezm : m = z := by omega
                      subst ezm
                      have hvl : Hid (us.length ≤ 1000) := Lib.hid (by have := HU.out.2.1; omega)
                      have hyb : Hid (bx ≤ yesL us) := Lib.hid (by rw [← HBX.out]; exact HU.out.2.2.2)
                      have hw : Hid (VResult m us = 1) := Lib.hid (by unfold VResult saysV; rw [HQ.out, if_pos (by have := hyb.out; omega)])
                      go_wp2_with (first | (go_at_call 43; refine (bits_any A m (by omega) (by omega) _).mono ?_; rintro e w' ⟨rfl, rfl⟩; rw [HBX.out]) | (go_at_call 41; refine (VOwn.Result HU.out.1 hvl.out ⟨by omega, by omega⟩).mono ?_; rintro e w8 ⟨rfl, O8⟩; rw [hw.out]; have H8 := Lib.hid O8; clear O8))
                      go_ret
                      exact ⟨rfl, H8.out.keeps⟩
          · clear hmt
            have tokb : True := trivial
            go_wp2_with (first | (go_at_call 43; clear tokb; refine (bits_any A m (by omega) (by omega) _).mono ?_; rintro e w' ⟨rfl, rfl⟩; rw [HBX.out]) | (go_at_call 43; refine (bits_any B m (by omega) (by omega) _).mono ?_; rintro e w' ⟨rfl, rfl⟩; rw [HBY.out]))
            refine (NewVotes_yes m w1 hq.out).mono ?_
            rintro e w2 ⟨rfl, a1, a2⟩
            have hs1 := K1.out.size
            have H2 := Lib.hid (show VOwn w w2 (w1.heap.size + 1) w1.heap.size m [] from ⟨a1, K1.out.trans a2 (by simp), hs1⟩)
            generalize w1.heap.size + 1 = vb at *
            generalize w1.heap.size = vm at *
            clear a1 a2 hs1
            by_cases hl : (300 : Int) < ds.length
            · go_wp2_with fail
              go_ret
              exact ⟨rfl, H2.out.keeps⟩
            go_wp2_with fail
            go_loopw [18, 19] (fun i _ wr => ∃ (k : Nat) (vs : List (Int × Bool)), k ≤ ds.length ∧ i = .int .i64 (k : Int) ∧ Hid (VOwn w wr vb vm m vs ∧ vs.length ≤ k ∧ ∀ i, 0 ≤ i → i < m → A.testBit i = true → hadB vs ((i : Int) + 1) = false)) (fun i _ _ => ds.length - (intOf i).toNat)
            case atStart => exact ⟨0, [], by omega, rfl, H2.out, by simp, fun _ _ _ _ => rfl⟩
            case round =>
              obtain ⟨k, vs, hk, rfl, HO⟩ := hrel
              clear H2
              by_cases hlt : k < ds.length
              · obtain ⟨b, off, rfl, HC0⟩ := HA.out (by omega)
                have hcell : ∀ w', Keeps [] w w' → w'.cell? ⟨b, off + k * 2, none⟩ = some (.int .i64 (ds.getD k (0, false)).1) ∧ w'.cell? ⟨b, off + k * 2 + 1, none⟩ = some (.bool (ds.getD k (0, false)).2) := fun w' kw => by
                  obtain ⟨c0, c1⟩ := HC0 k hlt
                  exact ⟨kw.cell c0 (by simp), kw.cell c1 (by simp)⟩
                have hid : -9223372036854775808 ≤ (ds.getD k (0, false)).1 ∧ (ds.getD k (0, false)).1 ≤ 9223372036854775807 := by
                  rw [List.getD_eq_getElem?_getD, List.getElem?_eq_getElem hlt]
                  exact HI.out _ (List.getElem_mem hlt)
                generalize (ds.getD k (0, false)).1 = id at *
                generalize (ds.getD k (0, false)).2 = g at *
                clear HC0
                obtain ⟨c0, c1⟩ := hcell _ HO.out.1.keeps
                have hidH := Lib.hid hid
                have hvl : Hid (vs.length ≤ 1000) := Lib.hid (by have := HO.out.2.1; omega)
                have hlp : Hid ((putV m vs id g).length ≤ k + 1) := Lib.hid (by have := HO.out.2.1; have := len_put m vs id g; omega)
                have k0 : (0 : Int) ≤ k := by omega
                have k1 : (k : Int) < ds.length := by omega
                clear hcell
                by_cases hi1 : id < 1
                · have hi1' : ¬ (1 : Int) ≤ id := by omega
                  have hfr : Hid (∀ i, 0 ≤ i → i < m → A.testBit i = true → hadB (putV m vs id g) ((i : Int) + 1) = false) := Lib.hid (fun i e1 e2 e3 => had_put g (HO.out.2.2 i e1 e2 e3) (by omega))
                  go_wp2_with (first | (go_at_call 37; refine (VOwn.Put HO.out.1 _ g _ rfl hvl.out hidH.out).mono ?_; rintro e w4 ⟨rfl, O4⟩; have H4 := Lib.hid O4; clear O4))
                  go_roundw
                  case rel => exact ⟨k + 1, _, by omega, by go_num, H4.out, hlp.out, hfr.out⟩
                  case measure => simp [intOf]; omega
                by_cases hi2 : (m : Int) < id
                · have hi2' : ¬ id ≤ (m : Int) := by omega
                  have hi1' : (1 : Int) ≤ id := by omega
                  have hfr : Hid (∀ i, 0 ≤ i → i < m → A.testBit i = true → hadB (putV m vs id g) ((i : Int) + 1) = false) := Lib.hid (fun i e1 e2 e3 => had_put g (HO.out.2.2 i e1 e2 e3) (by omega))
                  go_wp2_with (first | (go_at_call 37; refine (VOwn.Put HO.out.1 _ g _ rfl hvl.out hidH.out).mono ?_; rintro e w4 ⟨rfl, O4⟩; have H4 := Lib.hid O4; clear O4))
                  go_roundw
                  case rel => exact ⟨k + 1, _, by omega, by go_num, H4.out, hlp.out, hfr.out⟩
                  case measure => simp [intOf]; omega
                obtain ⟨i, rfl⟩ : ∃ i : Nat, id = (i : Int) + 1 := ⟨(id - 1).toNat, by omega⟩
                have hij : i < m := by omega
                have a1 : (1 : Int) ≤ (i : Int) + 1 := by omega
                have a2 : (i : Int) + 1 ≤ m := by omega
                cases hb : A.testBit i
                · have hfr : Hid (∀ i', 0 ≤ i' → i' < m → A.testBit i' = true → hadB (putV m vs ((i : Int) + 1) g) ((i' : Int) + 1) = false) := Lib.hid (fun i' e1 e2 e3 => had_put g (HO.out.2.2 i' e1 e2 e3) (by
                    intro e
                    obtain rfl : i = i' := by omega
                    rw [hb] at e3
                    cases e3))
                  have HB := Lib.hid hb
                  clear hb
                  go_wp2_with (first | (go_at_call 44; refine (member_any A i (by omega) (by omega) _).mono ?_; rintro e w' ⟨rfl, rfl⟩; rw [HB.out]) | (go_at_call 37; refine (VOwn.Put HO.out.1 _ g _ rfl hvl.out hidH.out).mono ?_; rintro e w4 ⟨rfl, O4⟩; have H4 := Lib.hid O4; clear O4))
                  go_roundw
                  case rel => exact ⟨k + 1, _, by omega, by go_num, H4.out, hlp.out, hfr.out⟩
                  case measure => simp [intOf]; omega
                · have HB := Lib.hid hb
                  clear hb
                  go_wp2_with (first | (go_at_call 44; refine (member_any A i (by omega) (by omega) _).mono ?_; rintro e w' ⟨rfl, rfl⟩; rw [HB.out]))
                  go_roundw
                  case rel => exact ⟨k + 1, vs, by omega, by go_num, HO.out.1, by have := HO.out.2.1; omega, HO.out.2.2⟩
                  case measure => simp [intOf]; omega
              · obtain rfl : k = ds.length := by omega
                have hl300 : ds.length ≤ 300 := by omega
                go_wp2_with fail
                go_loopw [20] (fun i wr => ∃ (z : Nat) (us : List (Int × Bool)), z ≤ m ∧ i = .int .i64 ((z : Int) + 1) ∧ Hid (VOwn w wr vb vm m us ∧ us.length ≤ 300 + z ∧ (∀ i, z ≤ i → i < m → A.testBit i = true → hadB us ((i : Int) + 1) = false) ∧ bitsN A z ≤ yesL us)) (fun i _ => m + 1 - (intOf i).toNat)
                case atStart => exact ⟨0, vs, by omega, rfl, HO.out.1, by have := HO.out.2.1; omega, HO.out.2.2, by simp [bitsN]⟩
                case round =>
                  obtain ⟨z, us, hz, rfl, HU⟩ := hrel
                  clear HO
                  by_cases hzl : z < m
                  · have a1 : (z : Int) + 1 ≤ m := by omega
                    have hvl : Hid (us.length ≤ 1000) := Lib.hid (by have := HU.out.2.1; omega)
                    have hbs : bitsN A (z + 1) = bitsN A z + if A.testBit z then 1 else 0 := rfl
                    cases hb : A.testBit z
                    · rw [hb] at hbs
                      have HB := Lib.hid hb
                      have HS := Lib.hid hbs
                      clear hb hbs
                      go_wp2_with (first | (go_at_call 44; refine (member_any A z (by omega) (by omega) _).mono ?_; rintro e w' ⟨rfl, rfl⟩; rw [HB.out]))
                      go_roundw
                      case rel => exact ⟨z + 1, us, by omega, by go_num, HU.out.1, by have := HU.out.2.1; omega, fun i e1 e2 e3 => HU.out.2.2.1 i (by omega) e2 e3, by rw [HS.out]; exact HU.out.2.2.2⟩
                      case measure => simp [intOf]; omega
                    · rw [hb] at hbs
                      obtain ⟨p1, p2⟩ := yes_put m z hzl us (HU.out.2.2.1 z (by omega) hzl hb)
                      have HB := Lib.hid hb
                      have HS := Lib.hid hbs
                      have HP := Lib.hid p1
                      have HP2 := Lib.hid p2
                      clear hb hbs p1 p2
                      go_wp2_with (first | (go_at_call 44; refine (member_any A z (by omega) (by omega) _).mono ?_; rintro e w' ⟨rfl, rfl⟩; rw [HB.out]) | (go_at_call 37; refine (VOwn.Put HU.out.1 _ true _ rfl hvl.out ⟨by omega, by omega⟩).mono ?_; rintro e w4 ⟨rfl, O4⟩; rw [HP.out] at O4; have H4 := Lib.hid O4; clear O4))
                      go_roundw
                      case rel => exact ⟨z + 1, _, by omega, by go_num, H4.out, by have := HU.out.2.1; simp; omega, free_put HU.out.2.2.1, by rw [HS.out, HP2.out]; have := HU.out.2.2.2; simp; omega⟩
                      case measure => simp [intOf]; omega
                  · have ezm : m = z := by omega
                    subst ezm
                    have hvl : Hid (us.length ≤ 1000) := Lib.hid (by have := HU.out.2.1; omega)
                    have hyb : Hid (bx ≤ yesL us) := Lib.hid (by rw [← HBX.out]; exact HU.out.2.2.2)
                    go_wp2_with (first | (go_at_call 43; refine (bits_any A m (by omega) (by omega) _).mono ?_; rintro e w' ⟨rfl, rfl⟩; rw [HBX.out]))
                    go_ret
                    exact ⟨rfl, HU.out.1.keeps⟩

end Go.Proofs.Ytniceappkpiekaa
