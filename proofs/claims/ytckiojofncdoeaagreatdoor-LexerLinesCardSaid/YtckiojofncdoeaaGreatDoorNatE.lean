/- nat: digit. -/
import Derived.Test.YtckiojofncdoeaaGreatDoorNatD
import Derived.Test.YtckiojofncdoeaaGreatDoorKnuth
namespace Go.Proofs.YtckiojofncdoeaaGreatDoor
open Go.RowKit

theorem ret_u32 {a b : Int} (h : a = b) : Ending.returned (.int .u32 a) = Ending.returned (.int .u32 b) := by rw [h]
theorem slot_div (a b : Nat) (h : a ≤ 18446744073709551615) : Value.int .u64 (IntKind.u64.wrap ((a : Int) / (b : Int))) = .int .u64 ((a / b : Nat) : Int) := by
  have h1 : a / b ≤ a := Nat.div_le_self a b
  have e : ((a : Int) / (b : Int)) = ((a / b : Nat) : Int) := by push_cast; rfl
  rw [e, IntWalk.u64_in _ ⟨Int.natCast_nonneg _, by omega⟩]
set_option maxRecDepth 100000 in
set_option maxHeartbeats 3200000 in
theorem digit_any (w : World) (base g N cap j m c capv : Nat) (Av : Option Addr) (U V : List Int) (hU : OwnU base w (.slice (some ⟨g, 0, none⟩) N cap) U) (hN : j + m + 3 ≤ N) (hN2 : N ≤ 4294967296)
    (hV : RU w Av V) (hVl : V.length = m + 2) (hne : ∀ b o, Av = some ⟨b, o, none⟩ → b ≠ g) (htop : 2147483648 ≤ dg V (m + 1)) (hlt : val ((U.drop j).take (m + 3)) < bB * val V) :
    Calls Tryz.prog 121 #[.slice (some ⟨g, j, none⟩) (m + 3) c, .slice Av (m + 2) capv] w fun e w' => ∃ U', e = .returned (.int .u32 ((val ((U.drop j).take (m + 3)) / val V : Nat) : Int)) ∧
      OwnU base w' (.slice (some ⟨g, 0, none⟩) N cap) U' ∧ (∀ i, i < j ∨ j + m + 2 < i → dg U' i = dg U i) ∧ val ((U'.drop j).take (m + 3)) = val ((U.drop j).take (m + 3)) % val V ∧ w.grownBy w' (some g) := by
  have hUl := hU.shape.1
  obtain ⟨b, o, rfl, hv1⟩ := hV.addr (m + 1) (by omega)
  obtain ⟨b', o', e, hv2⟩ := hV.addr m (by omega)
  obtain ⟨rfl, rfl⟩ : b = b' ∧ o = o' := by injection e with e; injection e with e1 e2; exact ⟨e1, e2⟩
  have hbg := hne b o rfl
  obtain ⟨hu2, hf2⟩ := hU.at_ (j + (m + 2)) (by omega)
  obtain ⟨hu1, hf1⟩ := hU.at_ (j + (m + 1)) (by omega)
  obtain ⟨hu0, hf0⟩ := hU.at_ (j + m) (by omega)
  obtain ⟨u2, e2⟩ := Int.eq_ofNat_of_zero_le (hU.2.dg (j + (m + 2))).1
  obtain ⟨u1, e1⟩ := Int.eq_ofNat_of_zero_le (hU.2.dg (j + (m + 1))).1
  obtain ⟨u0, e0⟩ := Int.eq_ofNat_of_zero_le (hU.2.dg (j + m)).1
  obtain ⟨v1, f1⟩ := Int.eq_ofNat_of_zero_le (hV.wf.dg (m + 1)).1
  obtain ⟨v0, f0⟩ := Int.eq_ofNat_of_zero_le (hV.wf.dg m).1
  have bu2 : u2 < 4294967296 := by have := hU.2.dg (j + (m + 2)); omega
  have bu1 : u1 < 4294967296 := by have := hU.2.dg (j + (m + 1)); omega
  have bu0 : u0 < 4294967296 := by have := hU.2.dg (j + m); omega
  have bv1 : v1 < 4294967296 := by have := hV.wf.dg (m + 1); omega
  have bv0 : v0 < 4294967296 := by have := hV.wf.dg m; omega
  have bt : 2147483648 ≤ v1 := by omega
  have hlS : ((U.drop j).take (m + 3)).length = m + 3 := by rw [List.length_take, List.length_drop]; omega
  have GF := Lib.hid (guess_facts ((U.drop j).take (m + 3)) V m ((hU.2.drop j).take _) hV.wf hlS hVl u2 u1 u0 v1 v0
    (by rw [dg_take _ _ _ (by omega), dg_drop]; exact e2) (by rw [dg_take _ _ _ (by omega), dg_drop]; exact e1) (by rw [dg_take _ _ _ (by omega), dg_drop]; exact e0) f1 f0 bt hlt)
  have E2 := Lib.hid e2
  rw [e2] at hu2
  rw [e1] at hu1
  rw [e0] at hu0
  rw [f1] at hv1
  rw [f0] at hv2
  have HU := Lib.hid hU; clear hU
  have HV := Lib.hid hV; clear hV
  have HVl := Lib.hid hVl; clear hVl
  have HUl := Lib.hid hUl; clear hUl
  have Hlt := Lib.hid hlt; clear hlt
  have Hne := Lib.hid hne; clear hne
  have HlS := Lib.hid hlS; clear hlS
  clear e e2 e1 e0 f1 f0 htop
  go_enter Tryz.func121, Tryz.ntmps121
  go_wp2
  have i0 : ((m + 2 : Nat) : Int) < ((m + 3 : Nat) : Int) := by omega
  have i1 : IntKind.i64.wrap (((m + 2 : Nat) : Int) - 1) = ((m + 1 : Nat) : Int) := by rw [IntWalk.i64_in _ (by omega)]; omega
  obtain ⟨top, htd⟩ : ∃ t : Nat, t = u2 * bB + u1 := ⟨_, rfl⟩
  have htop1 : top ≤ 18446744073709551615 := by rw [htd, bB_eq]; omega
  have hor : bits BinOp.or IntKind.u64 ((u2 : Int) * 4294967296) (u1 : Int) = (top : Int) := by rw [or64_hi _ _ (by omega) (by omega) (by omega) (by omega), htd, bB_eq]; omega
  have GF2 := Lib.hid (show GuessFacts (val ((U.drop j).take (m + 3))) (val V) top v1 v0 u0 by rw [htd]; exact GF.out)
  clear htd GF
  go_quiet (fail)
  go_wp2
  go_quiet (fail)
  go_upto_block 0 with (fail)
  go_cut [7, 8] (fun q r wx => ∃ k : Nat, q = .int .u64 k ∧ k < 4294967296 ∧ (k = val ((U.drop j).take (m + 3)) / val V ∨ k = val ((U.drop j).take (m + 3)) / val V + 1) ∧ Drew w wx)
  case first =>
    have hdm := Lib.hid (Nat.div_add_mod top v1)
    have hml := Lib.hid (Nat.mod_lt top (show 0 < v1 by omega))
    have i2 : IntKind.i64.wrap (((m + 2 : Nat) : Int) - 2) = (m : Int) := by rw [IntWalk.i64_in _ (by omega)]; omega
    clear i1 hor
    go_wp2
    go_loopw [7, 8] (fun q r wr => ∃ k h : Nat, q = .int .u64 k ∧ r = .int .u64 h ∧ top = k * v1 + h ∧ h < bB ∧ val ((U.drop j).take (m + 3)) / val V ≤ k ∧ k ≤ bB + 1 ∧ Drew w wr) (fun q _ _ => (intOf q).toNat)
    case atStart =>
      refine ⟨top / v1, top % v1, by first | exact slot_div _ _ htop1 | (push_cast; rfl), by push_cast; rfl, by have := hdm.out; rw [Nat.mul_comm] at this; omega, by have := hml.out; rw [bB_eq]; omega, GF2.out.first, GF2.out.most, ((Drew.refl _).step _).step _⟩
    case round =>
      obtain ⟨k, h, rfl, rfl, htk, hh, hge, hk1, hw⟩ := hrel
      have Htk := Lib.hid htk; clear htk
      have Hge := Lib.hid hge; clear hge
      have Hw := Lib.hid hw; clear hw
      rw [bB_eq] at hh hk1
      rw [← Hw.out.cell] at hv1 hv2 hu0
      by_cases hB : 4294967296 ≤ k
      · have hk0 : (k : Int) - 1 = ((k - 1 : Nat) : Int) := by omega
        have hge2 : val ((U.drop j).take (m + 3)) / val V ≤ k - 1 := by have := GF2.out.small; rw [bB_eq] at this; omega
        have htk2 : top = (k - 1) * v1 + (h + v1) := by
          have := Htk.out
          obtain ⟨k', rfl⟩ : ∃ k', k = k' + 1 := ⟨k - 1, by omega⟩
          rw [Nat.add_sub_cancel, this, Nat.add_mul]; omega
        have Hge2 := Lib.hid hge2; have Htk2 := Lib.hid htk2; clear hge2 htk2
        have Hk0 := Lib.hid hk0; clear hk0
        have g1 : decide ((4294967296 : Int) ≤ (k : Int)) = true := decide_eq_true (by omega)
        go_wp2
        go_quiet (fail)
        by_cases hbr : 4294967296 ≤ h + v1
        · have g2 : decide ((4294967296 : Int) ≤ (h : Int) + (v1 : Int)) = true := decide_eq_true (by omega)
          go_wp2
          go_meet
          have hkb : k - 1 < bB := GF2.out.far _ _ Htk2.out (by rw [bB_eq]; omega)
          have hk2 := GF2.out.borne (k - 1) (h + v1) Htk2.out (by
            have h1 : (k - 1) * v0 ≤ bB * bB := Nat.mul_le_mul (Nat.le_of_lt hkb) (by rw [bB_eq]; omega)
            have h2 : bB * bB ≤ (h + v1) * bB := Nat.mul_le_mul_right _ (by rw [bB_eq]; omega)
            omega) hkb
          have hk3 := Hge2.out
          exact ⟨k - 1, by rw [← Hk0.out], by rw [bB_eq] at hkb; exact hkb, by omega, Hw.out.step _⟩
        · have g2 : decide ((4294967296 : Int) ≤ (h : Int) + (v1 : Int)) = false := decide_eq_false (by omega)
          go_wp2
          go_roundw
          case rel => exact ⟨k - 1, h + v1, by rw [← Hk0.out], by push_cast; rfl, Htk2.out, by rw [bB_eq]; omega, Hge2.out, by rw [bB_eq]; omega, Hw.out.step _⟩
          case measure => simp [intOf]; omega
      · obtain ⟨z, hz⟩ : ∃ z : Nat, z = h * bB + u0 := ⟨_, rfl⟩
        have hz2 : z ≤ 18446744073709551615 := by rw [hz, bB_eq]; omega
        have hor2 : bits BinOp.or IntKind.u64 ((h : Int) * 4294967296) (u0 : Int) = (z : Int) := by rw [or64_hi _ _ (by omega) (by omega) (by omega) (by omega), hz, bB_eq]; omega
        have Hz := Lib.hid hz; clear hz
        have hm0 := mul_bound (x := (k : Int)) (y := (v0 : Int)) (by omega) (by omega) (by omega) (by omega)
        have g1 : decide ((4294967296 : Int) ≤ (k : Int)) = false := decide_eq_false (by omega)
        by_cases ht : z < k * v0
        · have ht' : (z : Int) < (k : Int) * (v0 : Int) := by exact_mod_cast ht
          have hk1 : 1 ≤ k := by
            rcases Nat.eq_zero_or_pos k with h0 | h0
            · subst h0; omega
            · exact h0
          have hk0 : (k : Int) - 1 = ((k - 1 : Nat) : Int) := by omega
          have hge2 : val ((U.drop j).take (m + 3)) / val V ≤ k - 1 := by
            have := GF2.out.refuted k h Htk.out (by rw [← Hz.out]; exact ht)
            omega
          have htk2 : top = (k - 1) * v1 + (h + v1) := by
            have := Htk.out
            obtain ⟨k', rfl⟩ : ∃ k', k = k' + 1 := ⟨k - 1, by omega⟩
            rw [Nat.add_sub_cancel, this, Nat.add_mul]; omega
          have Hge2 := Lib.hid hge2; have Htk2 := Lib.hid htk2; clear hge2 htk2
          have Hk0 := Lib.hid hk0; clear hk0
          have Ht := Lib.hid ht; clear ht
          go_wp2
          go_quiet (fail)
          by_cases hbr : 4294967296 ≤ h + v1
          · have g2 : decide ((4294967296 : Int) ≤ (h : Int) + (v1 : Int)) = true := decide_eq_true (by omega)
            go_wp2
            go_meet
            have hkb : k - 1 < bB := GF2.out.far _ _ Htk2.out (by rw [bB_eq]; omega)
            have hk2 := GF2.out.borne (k - 1) (h + v1) Htk2.out (by
              have h1 : (k - 1) * v0 ≤ bB * bB := Nat.mul_le_mul (Nat.le_of_lt hkb) (by rw [bB_eq]; omega)
              have h2 : bB * bB ≤ (h + v1) * bB := Nat.mul_le_mul_right _ (by rw [bB_eq]; omega)
              omega) hkb
            have hk3 := Hge2.out
            exact ⟨k - 1, by rw [← Hk0.out], by rw [bB_eq] at hkb; exact hkb, by omega, Hw.out.step _⟩
          · have g2 : decide ((4294967296 : Int) ≤ (h : Int) + (v1 : Int)) = false := decide_eq_false (by omega)
            go_wp2
            go_roundw
            case rel => exact ⟨k - 1, h + v1, by rw [← Hk0.out], by push_cast; rfl, Htk2.out, by rw [bB_eq]; omega, Hge2.out, by rw [bB_eq]; omega, Hw.out.step _⟩
            case measure => simp [intOf]; omega

        · have ht' : (k : Int) * (v0 : Int) ≤ (z : Int) := by have := Nat.not_lt.1 ht; exact_mod_cast this
          have Ht := Lib.hid ht; clear ht
          go_wp2
          go_quiet (fail)
          go_wp2
          go_meet
          have h1 := GF2.out.borne k h Htk.out (by have := Ht.out; rw [Hz.out] at this; omega) (by rw [bB_eq]; omega)
          have h2 := Hge.out
          exact ⟨k, rfl, by omega, by omega, Hw.out.step _⟩
  case rest =>
    obtain ⟨q, rfl, hq, hqt, hw⟩ := hcut
    have Hqt := Lib.hid hqt; clear hqt
    have Hw := Lib.hid hw; clear hw
    clear hu1 hf1 hu0 hf0 hv1 hv2 hor i1 hu2 hf2 GF2
    have HUc := Lib.hid (HU.out.drewN Hw.out)
    go_wp2
    go_loopw [9, 10, 86] (fun cy bo i wr => ∃ (t y s : Nat) (L : List Int), t ≤ m + 2 ∧ i = .int .i64 t ∧ cy = .int .u64 y ∧ bo = .int .u64 s ∧ y < 4294967296 ∧ s ≤ 1 ∧ OwnU base wr (.slice (some ⟨g, 0, none⟩) N cap) L ∧ L.length = N ∧
      (∀ i, i < j ∨ j + t ≤ i → dg L i = dg U i) ∧ val ((L.drop j).take t) + q * val (V.take t) = val ((U.drop j).take t) + bB ^ t * (y + s) ∧ w.grownBy wr (some g)) (fun _ _ i _ => m + 2 - (intOf i).toNat)
    case atStart => exact ⟨0, 0, 0, U, Nat.zero_le _, rfl, rfl, rfl, by omega, by omega, HUc.out, HUl.out, fun _ _ => rfl, by simp [val_nil], gb_drew Hw.out⟩
    case round =>
      obtain ⟨t, y, s, L, ht, rfl, rfl, rfl, hy, hs, hown, hL, hsame, heq, hg⟩ := hrel
      have HL := Lib.hid hL; clear hL
      have Heq := Lib.hid heq; clear heq
      have Hown := Lib.hid hown; clear hown
      have Hg := Lib.hid hg; clear hg
      have Hsame := Lib.hid hsame; clear hsame
      by_cases htl : t < m + 2
      · obtain ⟨hcell, hfr⟩ := Hown.out.at_ (j + t) (by rw [HL.out]; omega)
        obtain ⟨x, ex⟩ := Int.eq_ofNat_of_zero_le (Hown.out.2.dg (j + t)).1
        have bx : x < 4294967296 := by have := Hown.out.2.dg (j + t); omega
        obtain ⟨b', o', e, h2⟩ := (HV.out.grown Hg.out Hne.out).addr t (by rw [HVl.out]; omega)
        obtain ⟨rfl, rfl⟩ : b = b' ∧ o = o' := by injection e with e; injection e with e1 e2; exact ⟨e1, e2⟩
        obtain ⟨d, ed⟩ := Int.eq_ofNat_of_zero_le (HV.out.wf.dg t).1
        have bd : d < 4294967296 := by have := HV.out.wf.dg t; omega
        rw [ex] at hcell
        rw [ed] at h2
        have Ex := Lib.hid ex; have Ed := Lib.hid ed
        clear e ex ed
        have hp0 : q * d ≤ 4294967295 * 4294967295 := Nat.mul_le_mul (by omega) (by omega)
        have hp1 := mul_bound (x := (q : Int)) (y := (d : Int)) (by omega) (by omega) (by omega) (by omega)
        obtain ⟨p, hp⟩ : ∃ p : Nat, p = q * d + y := ⟨_, rfl⟩
        have hpe : (q : Int) * (d : Int) + (y : Int) = (p : Int) := by rw [hp]; push_cast; rfl
        have hpb : p ≤ 18446744069414584320 := by omega
        have Hp := Lib.hid hp; clear hp
        obtain ⟨dd, bb, f1, f2, hdd, hbb, hsum⟩ := borrow_stepN x (p % 4294967296) s bx (Nat.mod_lt _ (by decide)) hs
        have e3 : ((p % 4294967296 : Nat) : Int) = (p : Int) % 4294967296 := by omega
        rw [e3] at f1 f2
        have F1 := Lib.hid f1; have F2 := Lib.hid f2; have Hsum := Lib.hid hsum; clear f1 f2 hsum e3
        go_wp2
        rw [F1.out, F2.out]
        go_roundw
        case rel =>
          refine ⟨t + 1, p / 4294967296, bb, L.set (j + t) dd, by omega, by go_num, by first | rfl | (push_cast; rfl), rfl, by omega, hbb, Hown.out.store (j + t) (by omega) (by omega), by rw [List.length_set]; exact HL.out,
            fun i hi => by rw [dg_set_other _ _ _ _ (by omega)]; exact Hsame.out i (by omega), ?_, gb_trans Hg.out (gb_set _ _ _ _)⟩
          rw [drop_set_in, val_set_take _ _ _ (by rw [List.length_drop, HL.out]; omega), val_take_succ V, val_take_succ (U.drop j), dg_drop, ← Hsame.out (j + t) (by omega), Ex.out, Ed.out]
          simp only [Int.toNat_natCast]
          rw [Nat.pow_succ]
          exact sub_step bB _ _ _ _ _ _ _ y s _ p bb Heq.out Hp.out (by rw [bB_eq]; exact Hsum.out)
        case measure => simp [intOf]; omega
      · obtain rfl : t = m + 2 := by omega
        obtain ⟨hcell, hfr⟩ := Hown.out.at_ (j + (m + 2)) (by rw [HL.out]; omega)
        rw [Hsame.out (j + (m + 2)) (by omega), E2.out] at hcell
        obtain ⟨dd, bb, f1, f2, hdd, hbb, hsum⟩ := borrow_stepN u2 y s bu2 hy hs
        have Hdd := Lib.hid hdd; clear hdd
        -- what the whole segment comes to
        have htot : val (((L.set (j + (m + 2)) dd).drop j).take (m + 3)) + q * val V = val ((U.drop j).take (m + 3)) + bB ^ (m + 3) * bb := by
          rw [drop_set_in, val_set_take _ _ _ (by rw [List.length_drop, HL.out]; omega), val_take_succ (U.drop j), dg_drop, E2.out]
          simp only [Int.toNat_natCast]
          have h2 := Heq.out
          rw [val_take_ge V (m + 2) (Nat.le_of_eq HVl.out)] at h2
          rw [Nat.pow_succ bB (m + 2)]
          exact sub_total bB _ _ _ _ _ _ y s _ _ h2 (by rw [bB_eq]; exact hsum)
        have Htot := Lib.hid htot; clear htot
        have hv0 : 0 < val V := by
          rcases Nat.eq_zero_or_pos (val V) with h | h
          · have := Hlt.out; rw [h] at this; omega
          · exact h
        have Hv0 := Lib.hid hv0; clear hv0
        have Hown2 := Lib.hid (Hown.out.store (j + (m + 2)) (x := (dd : Int)) (by omega) (by have := Hdd.out; omega))
        have Hg2 := Lib.hid (gb_trans Hg.out (gb_set wr g (j + (m + 2)) (.int .u32 (dd : Int))))
        have Hsame2 := Lib.hid (show ∀ i, i < j ∨ j + m + 2 < i → dg (L.set (j + (m + 2)) dd) i = dg U i from fun i hi => by rw [dg_set_other _ _ _ _ (by omega)]; exact Hsame.out i (by omega))
        by_cases hb0 : bb = 0
        · subst hb0
          have F1 := Lib.hid f1; clear f1 hsum
          have g3 : ((IntKind.u64.wrap (IntKind.u64.wrap ((u2 : Int) - (y : Int)) - (s : Int)) / 9223372036854775808) == 0) = true := by rw [f2]; simp
          clear f2
          go_wp2
          rw [F1.out]
          go_ret
          have h2 := rem_right (val ((U.drop j).take (m + 3))) (val V) q _ (Htot.out.trans (by rw [Nat.mul_zero, Nat.add_zero])) Hqt.out Hv0.out
          exact ⟨_, ret_u32 (by rw [h2.1]), Hown2.out, Hsame2.out, h2.2, Hg2.out⟩
        · obtain rfl : bb = 1 := by omega
          have F1 := Lib.hid f1; clear f1 hsum
          have g3 : ((IntKind.u64.wrap (IntKind.u64.wrap ((u2 : Int) - (y : Int)) - (s : Int)) / 9223372036854775808) == 0) = false := by rw [f2]; simp
          clear f2
          go_wp2
          rw [F1.out]
          obtain ⟨L1, hL1⟩ : ∃ L1, L1 = L.set (j + (m + 2)) (dd : Int) := ⟨_, rfl⟩
          have hdg : dg L1 (j + (m + 2)) = (dd : Int) := by rw [hL1, dg_set_same _ _ _ (by rw [HL.out]; omega)]
          rw [← hL1] at Hown2 Htot Hsame2
          have HL1 := Lib.hid (show L1.length = N by rw [hL1, List.length_set]; exact HL.out)
          have Hdg := Lib.hid hdg
          clear hL1 hdg g3
          go_loopw [9, 139] (fun cy i wx => ∃ (t z : Nat) (M : List Int), t ≤ m + 2 ∧ i = .int .i64 t ∧ cy = .int .u64 z ∧ z ≤ 1 ∧ OwnU base wx (.slice (some ⟨g, 0, none⟩) N cap) M ∧ M.length = N ∧
            (∀ i, i < j ∨ j + t ≤ i → dg M i = dg L1 i) ∧ val ((M.drop j).take t) + bB ^ t * z = val ((L1.drop j).take t) + val (V.take t) ∧ w.grownBy wx (some g)) (fun _ i _ => m + 2 - (intOf i).toNat)
          case atStart => exact ⟨0, 0, L1, Nat.zero_le _, rfl, rfl, by omega, Hown2.out, HL1.out, fun _ _ => rfl, by simp [val_nil], Hg2.out⟩
          case round =>
            obtain ⟨t, z, M, ht, rfl, rfl, hz, hown, hM, hsame, heq, hg⟩ := hrel
            have Hown2' := Lib.hid Hown2.out
            clear HL Heq Hown Hg Hsame Hown2 Hg2 hcell hfr htl
            have HM := Lib.hid hM; clear hM
            have Heq := Lib.hid heq; clear heq
            have Hown := Lib.hid hown; clear hown
            have Hg := Lib.hid hg; clear hg
            have Hsame := Lib.hid hsame; clear hsame
            by_cases htl : t < m + 2
            · obtain ⟨hcell, hfr⟩ := Hown.out.at_ (j + t) (by rw [HM.out]; omega)
              obtain ⟨x, ex⟩ := Int.eq_ofNat_of_zero_le (Hown.out.2.dg (j + t)).1
              have bx : x < 4294967296 := by have := Hown.out.2.dg (j + t); omega
              obtain ⟨b', o', e, h2⟩ := (HV.out.grown Hg.out Hne.out).addr t (by rw [HVl.out]; omega)
              obtain ⟨rfl, rfl⟩ : b = b' ∧ o = o' := by injection e with e; injection e with e1 e2; exact ⟨e1, e2⟩
              obtain ⟨d, ed⟩ := Int.eq_ofNat_of_zero_le (HV.out.wf.dg t).1
              have bd : d < 4294967296 := by have := HV.out.wf.dg t; omega
              rw [ex] at hcell
              rw [ed] at h2
              have Ex := Lib.hid ex; have Ed := Lib.hid ed
              clear e ex ed
              go_wp2
              go_roundw
              case rel =>
                refine ⟨t + 1, (x + d + z) / 4294967296, M.set (j + t) ((x + d + z) % 4294967296), by omega, by go_num, by first | rfl | (push_cast; rfl), by omega, Hown.out.store (j + t) (by omega) (by omega), by rw [List.length_set]; exact HM.out,
                  fun i hi => by rw [dg_set_other _ _ _ _ (by omega)]; exact Hsame.out i (by omega), ?_, gb_trans Hg.out (gb_set _ _ _ _)⟩
                have h3 := carry_step (M.drop j) t ((x : Int) + (d : Int) + (z : Int)) (by rw [List.length_drop, HM.out]; omega) (by omega)
                rw [drop_set_in, val_take_succ (L1.drop j), val_take_succ V, dg_drop, ← Hsame.out (j + t) (by omega), Ex.out, Ed.out]
                have e1 : (((x : Int) + (d : Int) + (z : Int)) / 4294967296).toNat = (x + d + z) / 4294967296 := by omega
                have e2 : ((x : Int) + (d : Int) + (z : Int)).toNat = x + d + z := by omega
                rw [e1, e2] at h3
                rw [h3]
                have := Heq.out
                simp only [Int.toNat_natCast]
                rw [Nat.mul_add, Nat.mul_add]
                omega
              case measure => simp [intOf]; omega
            · obtain rfl : t = m + 2 := by omega
              obtain ⟨hcell, hfr⟩ := Hown.out.at_ (j + (m + 2)) (by rw [HM.out]; omega)
              rw [Hsame.out (j + (m + 2)) (by omega), Hdg.out] at hcell
              have hdd := Hdd.out
              have hlast := val_set_take (L1.drop j) (m + 2) (dd : Int) (by rw [List.length_drop, HL1.out]; omega)
              have hself : (L1.drop j).set (m + 2) (dd : Int) = L1.drop j := by
                rw [← drop_set_in]
                congr 1
                apply ext_dg (by rw [List.length_set])
                intro i _
                by_cases hi : j + (m + 2) = i
                · subst hi; rw [dg_set_same _ _ _ (by rw [HL1.out]; omega), Hdg.out]
                · rw [dg_set_other _ _ _ _ hi]
              rw [hself, Int.toNat_natCast] at hlast
              have htot := Htot.out
              rw [hlast, Nat.mul_one, Nat.pow_succ bB (m + 2)] at htot
              have hM2 := val_lt ((Hown.out.2.drop j).take (m + 2))
              rw [List.length_take, List.length_drop, HM.out, Nat.min_eq_left (by omega)] at hM2
              have hL2 : val ((L1.drop j).take (m + 2)) + bB ^ (m + 2) * dd < bB ^ (m + 2) * bB := by
                have h1 := val_lt ((Hown2'.out.2.drop j).take (m + 3))
                rw [hlast, List.length_take, List.length_drop, HL1.out, Nat.min_eq_left (by omega), Nat.pow_succ bB (m + 2)] at h1
                exact h1
              have heq := Heq.out
              rw [val_take_ge V (m + 2) (Nat.le_of_eq HVl.out)] at heq
              have hab := add_back bB (bB ^ (m + 2)) (val ((U.drop j).take (m + 3))) (val V) q _ _ dd z Hqt.out Hv0.out htot hL2 heq hM2 (by rw [bB_eq]; exact hdd) hz
              have hq1 : 1 ≤ q := by rw [hab.1]; exact Nat.le_add_left 1 _
              have Hab := Lib.hid hab
              clear hlast hself htot hM2 hL2 heq hab
              go_wp2
              go_ret
              refine ⟨M.set (j + (m + 2)) (((dd : Int) + (z : Int)) % 4294967296), ret_u32 (by rw [Hab.out.1]; push_cast; omega), Hown.out.store (j + (m + 2)) (by omega) (by omega), fun i hi => ?_, ?_, gb_trans Hg.out (gb_set _ _ _ _)⟩
              · rw [dg_set_other _ _ _ _ (by omega), Hsame.out i (by omega)]
                exact Hsame2.out i hi
              · rw [drop_set_in, val_set_take _ _ _ (by rw [List.length_drop, HM.out]; omega), ← Hab.out.2, show (((dd : Int) + (z : Int)) % 4294967296).toNat = (dd + z) % bB from by rw [bB_eq]; omega]
end Go.Proofs.YtckiojofncdoeaaGreatDoor
