/- nat: divide, DivMod. -/
import Derived.Test.YtckiojofncdoeaaGreatDoorNatE
import Derived.Test.YtckiojofncdoeaaGreatDoorShelf
import Derived.Test.YtckiojofncdoeaaGreatDoorMathB
import Derived.Lib.ItoaNum
namespace Go.Proofs.YtckiojofncdoeaaGreatDoor
open Go.RowKit

theorem lz_any (t : Nat) (h0 : 1 ≤ t) (h1 : t < 4294967296) : ∃ s : Nat, s < 32 ∧ 2147483648 ≤ t * 2 ^ s ∧ t * 2 ^ s < 4294967296 ∧
    ∀ w : World, Calls Tryz.prog 119 #[.int .u32 t] w fun e w' => w = w' ∧ e = .returned (.int .i64 s) := by
  have hb := Lib.bitLenAux_bounds 64 t (by omega) (by omega)
  have hle := Lib.bitLen_le t 32 (by omega) h1
  have hb' : 1 ≤ Lib.bitLen t ∧ 2 ^ (Lib.bitLen t - 1) ≤ t ∧ t < 2 ^ Lib.bitLen t := hb
  refine ⟨32 - Lib.bitLen t, by omega, ?_, ?_, fun w => ?_⟩
  · have : 2 ^ (Lib.bitLen t - 1) * 2 ^ (32 - Lib.bitLen t) ≤ t * 2 ^ (32 - Lib.bitLen t) := Nat.mul_le_mul_right _ hb'.2.1
    rw [← Nat.pow_add, show Lib.bitLen t - 1 + (32 - Lib.bitLen t) = 31 from by omega] at this
    exact this
  · have : t * 2 ^ (32 - Lib.bitLen t) < 2 ^ Lib.bitLen t * 2 ^ (32 - Lib.bitLen t) := Nat.mul_lt_mul_of_pos_right hb'.2.2 (Nat.two_pow_pos _)
    rw [← Nat.pow_add, show Lib.bitLen t + (32 - Lib.bitLen t) = 32 from by omega] at this
    exact this
  · refine (Tryz.bits_LeadingZeros32 (t : Int) w (by omega) (by omega)).mono ?_
    rintro e w' ⟨rfl, rfl⟩
    exact ⟨rfl, ret_i64 (by simp only [Int.toNat_natCast]; omega)⟩
theorem OwnU.grown {base : Nat} {w w' : World} {g n cap g' : Nat} {l : List Int} (h : OwnU base w (.slice (some ⟨g, 0, none⟩) n cap) l) (hg : w.grownBy w' (some g')) (hne : g ≠ g') : OwnU base w' (.slice (some ⟨g, 0, none⟩) n cap) l :=
  ⟨h.1.kept hg (.inr (by simpa [Value.ownBlock] using hne)), h.2⟩
theorem gb_base {base : Nat} {w w1 w2 : World} (h : Below base w w1) {g : Nat} (hg : w1.grownBy w2 (some g)) (hb : base ≤ g) (hw : base ≤ w1.heap.size) : Below base w w2 :=
  h.grown hg hw (fun k hk => by injection hk with hk; omega)

theorem lift_any' (w : World) (A : Option Addr) (n cap : Nat) (l : List Int) (s m : Nat) (z : Int) (hz : z = (m : Int)) (hl : l.length = n) (hc : n ≤ cap) (hs : n ≤ 4294967296) (h : RU w A l) (hsh : s < 32) (hm : m = n ∨ m = n + 1) (hfit : val l * 2 ^ s < bB ^ m) (hm0 : 0 < m) :
    Calls Tryz.prog 120 #[.slice A n cap, .int .u64 s, .int .i64 z] w fun e w' => ∃ g c L, e = .returned (.slice (some ⟨g, 0, none⟩) m c) ∧ Below w.heap.size w w' ∧ OwnU w.heap.size w' (.slice (some ⟨g, 0, none⟩) m c) L ∧ L.length = m ∧ val L = val l * 2 ^ s ∧ w.heap.size ≤ g ∧ m ≤ c ∧ g < w'.heap.size := by
  subst hz
  refine (lift_any w A n cap l s m hl hc hs h hsh hm hfit).mono ?_
  rintro e w' ⟨v, L, rfl, hb, ho, hL, hv⟩
  obtain ⟨g, c, rfl, h1, h2, h3⟩ := ho.form (by omega)
  rw [hL] at ho h2 ⊢
  exact ⟨g, c, L, rfl, hb, ho, hL, hv, h1, h2, h3⟩

set_option maxRecDepth 100000 in
set_option maxHeartbeats 3200000 in
theorem divide_any (w : World) (A B : Option Addr) (n cap m cap' a b : Nat) (hb : 0 < b) (hl : (digits a).length = n) (hc : n ≤ cap) (hs : n ≤ 1073741824) (h : RU w A (digits a))
    (hr : (digits b).length = m) (hc' : m ≤ cap') (hs' : m ≤ 1073741824) (h' : RU w B (digits b)) :
    Calls Tryz.prog 107 #[.slice A n cap, .slice B m cap'] w fun e w' => ∃ q r, e = .returned (.tuple #[q, r]) ∧ Below w.heap.size w w' ∧ OwnU w.heap.size w' q (digits (a / b)) ∧ OwnU w.heap.size w' r (digits (a % b)) := by
  have Hl := Lib.hid hl
  have Hr := Lib.hid hr
  have Hh := Lib.hid h; clear h
  have Hh' := Lib.hid h'; clear h'
  by_cases hlt : a < b
  · have hcm : cmpN a b < 0 := by rw [cmpN_lt hlt]; decide
    have Hd := Lib.hid (show digits (a / b) = [] ∧ a % b = a by rw [Nat.div_eq_of_lt hlt, digits_zero, Nat.mod_eq_of_lt hlt]; exact ⟨rfl, rfl⟩)
    clear hlt hl hr
    go_enter Tryz.func107, Tryz.ntmps107
    go_wp2_with fail
    have hcmp := compare_any w A B n cap m cap' (digits a) (digits b) Hl.out hc (by omega) Hh.out Hr.out hc' (by omega) Hh'.out
    rw [val_digits, val_digits] at hcmp
    refine hcmp.mono ?_
    clear hcmp
    rintro e w1 ⟨rfl, hq⟩
    have Hq := Lib.hid (Drew.below hq); clear hq
    go_wp2_with (go_at_call 97; refine (clone_any w1 A n cap (digits a) Hl.out hc (by omega) (Hh.out.ext Hq.out)).mono ?_; rintro e w' ⟨v, rfl, hb, ho⟩)
    go_ret2
    refine ⟨_, _, rfl, bnext Hq.out hb, by rw [Hd.out.1]; exact OwnU.nil _ _, by rw [Hd.out.2]; exact ho.mono Hq.out.size⟩
  · have hcm : ¬ cmpN a b < 0 := by
      rcases Nat.lt_or_ge b a with h | h
      · rw [cmpN_gt h]; decide
      · rw [cmpN_eq (by omega)]; decide
    have hmn : m ≤ n := by
      rcases Nat.lt_or_ge n m with h | h
      · exfalso
        have := val_lt_of_shorter (Wf.digits a) (Wf.digits b) (norm_digits _) (by omega)
        rw [val_digits, val_digits] at this
        omega
      · exact h
    have hm0 : 1 ≤ m := by
      rcases Nat.eq_zero_or_pos m with h | h
      · rw [h] at hr; have := (digits_nil_iff b).1 hr; omega
      · exact h
    have Hlt := Lib.hid hlt; clear hlt
    clear hl hr
    have hmk := run_makeU' ((n : Int) - (m : Int) + 1) (n - m + 1) (by omega) (by omega)
    by_cases hm1 : m = 1
    · subst hm1
      clear hmk
      have hmk := run_makeU n (by omega)
      go_enter Tryz.func107, Tryz.ntmps107
      go_wp2_with fail
      have hcmp := compare_any w A B n cap 1 cap' (digits a) (digits b) Hl.out hc (by omega) Hh.out Hr.out hc' (by omega) Hh'.out
      rw [val_digits, val_digits] at hcmp
      refine hcmp.mono ?_
      clear hcmp
      rintro e w1 ⟨rfl, hq⟩
      have Hq := Lib.hid (Drew.below hq); clear hq
      have hb32 : b < bB := by
        have h1 := val_lt (Wf.digits b)
        rw [val_digits, Hr.out, Nat.pow_one] at h1
        exact h1
      have hdb : digits b = [(b : Int)] := digits_one (by omega) hb32
      have hy := Hh'.out.ext Hq.out
      rw [hdb] at hy
      obtain ⟨bb, oo, rfl, hbl, hy0⟩ := hy.addrB (Below.refl _ _) 0 (by simp)
      have hy0' : w1.cell? ⟨bb, oo, none⟩ = some (.int .u32 (b : Int)) := hy0
      rw [bB_eq] at hb32
      clear hdb hy hy0
      go_wp2
      have own0 := Lib.hid (own_madeU w1 w1.heap.size n (Nat.le_refl _) (by omega))
      clear hmk hcm hm0
      go_loopw [8, 9] (fun rr i wr => ∃ (k r : Nat) (Q : List Int), k ≤ n ∧ i = .int .i64 ((k : Int) - 1) ∧ rr = .int .u64 r ∧ r < b ∧ OwnU w1.heap.size wr (.slice (some ⟨w1.heap.size, 0, none⟩) n n) Q ∧ Q.length = n ∧
        val ((digits a).drop k) = b * val (Q.drop k) + r ∧ Below w1.heap.size w1 wr) (fun _ i _ => (intOf i + 1).toNat)
      case atStart => exact ⟨n, 0, List.replicate n 0, Nat.le_refl _, rfl, rfl, hb, own0.out, by simp, by rw [val_drop_ge _ n (Nat.le_of_eq Hl.out), val_drop_ge _ n (by simp), Nat.mul_zero], (Below.refl _ _).alloc (Nat.le_refl _) _⟩
      case round =>
        obtain ⟨k, r, Q, hk, rfl, rfl, hr, hown, hQ, heq, hbl⟩ := hrel
        have HQ := Lib.hid hQ; clear hQ
        have Heq := Lib.hid heq; clear heq
        have Hown := Lib.hid hown; clear hown
        have Hb := Lib.hid hbl; clear hbl
        have hy1 := cell_below Hb.out hy0'
        rcases k with _ | k
        · have h1 := Heq.out
          simp only [List.drop_zero, val_digits] at h1
          have hq : val Q = a / b := by rw [h1, Nat.mul_add_div hb, Nat.div_eq_of_lt hr, Nat.add_zero]
          have hrm : r = a % b := by rw [h1, Nat.mul_add_mod, Nat.mod_eq_of_lt hr]
          have Hq2 := Lib.hid hq; have Hrm := Lib.hid hrm; clear h1 hq hrm
          have hcq := Hown.out.cut
          have Hcq := Lib.hid hcq; clear hcq
          have hwf1 : Wf [(r : Int)] := Wf.one (by omega) (by omega)
          have Hlit := Lib.hid (own_litU wr wr.heap.size [(r : Int)] hwf1 (Nat.le_refl _) (by simp))
          have Hr1 := Lib.hid (val_one (r : Int))
          clear hwf1
          go_wp2_with (go_at_call 70; first | ((with_reducible refine (cut_any wr _ n n Q HQ.out (Nat.le_refl _) (by omega) Hown.out.ru).mono ?_); rintro e w' ⟨rfl, rfl⟩) | (refine (cut_any _ _ 1 1 [(r : Int)] rfl (Nat.le_refl _) (by omega) Hlit.out.ru).mono ?_; rintro e w' ⟨rfl, rfl⟩))
          go_ret2
          have e1 := Hcq.out
          have e2 := Hlit.out.cut
          rw [show digits (val [(r : Int)]) = digits (a % b) from by rw [Hr1.out, Int.toNat_natCast, Hrm.out]] at e2
          rw [Hq2.out] at e1
          have hb2 := (Below.refl wr.heap.size wr).alloc (Nat.le_refl _) (.cells #[.int .u32 (r : Int)] 67)
          have e3 : clen Q = (digits (a / b)).length := by unfold clen; rw [Hq2.out]
          have e4 : clen [(r : Int)] = (digits (a % b)).length := by unfold clen; rw [Hr1.out, Int.toNat_natCast, Hrm.out]
          refine ⟨_, _, rfl, bnext Hq.out (bthen Hb.out hb2 Hb.out.size), ?_, ?_⟩
          · show OwnU _ _ (.slice _ (clen Q) _) _
            rw [e3]
            exact (e1.ext hb2).mono Hq.out.size
          · show OwnU _ _ (.slice _ (clen [(r : Int)]) _) _
            rw [e4]
            exact e2.mono (Nat.le_trans Hq.out.size Hb.out.size)
        · obtain ⟨hcell, hfr⟩ := Hown.out.at_ k (by rw [HQ.out]; omega)
          obtain ⟨b1, o1, rfl, hbw, h1⟩ := (Hh.out.ext Hq.out).addrB Hb.out k (by rw [Hl.out]; omega)
          obtain ⟨x, ex⟩ := Int.eq_ofNat_of_zero_le ((Wf.digits a).dg k).1
          have bx : x < 4294967296 := by have := (Wf.digits a).dg k; omega
          rw [ex] at h1
          have Ex := Lib.hid ex; clear ex
          obtain ⟨z, hz⟩ : ∃ z : Nat, z = r * bB + x := ⟨_, rfl⟩
          have hz2 : z ≤ 18446744073709551615 := by rw [hz, bB_eq]; omega
          have hor2 : bits BinOp.or IntKind.u64 ((r : Int) * 4294967296) (x : Int) = (z : Int) := by rw [or64_hi _ _ (by omega) (by omega) (by omega) (by omega), hz, bB_eq]; omega
          obtain ⟨qq, hqq⟩ : ∃ q : Nat, q = z / b := ⟨_, rfl⟩
          obtain ⟨rr, hrr⟩ : ∃ q : Nat, q = z % b := ⟨_, rfl⟩
          have hq1 : (z : Int) / (b : Int) = (qq : Int) := by rw [hqq]; push_cast; rfl
          have hr1 : (z : Int) % (b : Int) = (rr : Int) := by rw [hrr]; push_cast; rfl
          have hqlt : qq < 4294967296 := by
            rw [hqq, Nat.div_lt_iff_lt_mul hb, hz, Nat.mul_comm, ← bB_eq]
            have : (r + 1) * bB ≤ b * bB := Nat.mul_le_mul_right _ hr
            rw [Nat.add_mul] at this
            rw [bB_eq] at *
            omega
          have hrlt : rr < b := by rw [hrr]; exact Nat.mod_lt _ hb
          have Hz := Lib.hid hz; have Hqq := Lib.hid hqq; have Hrr := Lib.hid hrr; clear hz hqq hrr
          go_wp2
          go_roundw
          case rel =>
            refine ⟨k, rr, Q.set k (qq : Int), by omega, rfl, by rw [hr1], hrlt, Hown.out.store k (by omega) (by omega), by rw [List.length_set]; exact HQ.out, ?_, Hb.out.setCell (Nat.le_refl _) _⟩
            rw [val_drop _ k (by rw [Hl.out]; omega), Ex.out, val_drop _ k (by rw [List.length_set, HQ.out]; omega), dg_set_same _ _ _ (by rw [HQ.out]; omega), drop_set_other, Heq.out]
            simp only [Int.toNat_natCast]
            have h5 := Nat.div_add_mod z b
            rw [← Hqq.out, ← Hrr.out, Hz.out] at h5
            exact short_step bB b _ r x qq rr h5
          case measure => simp [intOf]
    · have hb1 : ((m : Int) == 1) = false := by simp; omega
      go_enter Tryz.func107, Tryz.ntmps107
      go_wp2_with fail
      have hcmp := compare_any w A B n cap m cap' (digits a) (digits b) Hl.out hc (by omega) Hh.out Hr.out hc' (by omega) Hh'.out
      rw [val_digits, val_digits] at hcmp
      refine hcmp.mono ?_
      clear hcmp
      rintro e w1 ⟨rfl, hq⟩
      have Hq := Lib.hid (Drew.below hq); clear hq
      obtain ⟨m', rfl⟩ : ∃ m', m = m' + 2 := ⟨m - 2, by omega⟩
      obtain ⟨t, et⟩ := Int.eq_ofNat_of_zero_le ((Wf.digits b).dg (m' + 1)).1
      have bt : t < 4294967296 := by have := (Wf.digits b).dg (m' + 1); omega
      have t0 : 1 ≤ t := by
        rcases norm_digits b with h | h
        · rw [Hr.out] at h; omega
        · rw [Hr.out, show m' + 2 - 1 = m' + 1 from by omega, et] at h; omega
      obtain ⟨s, hs32, hge, hlt2, hlz⟩ := lz_any t t0 bt
      obtain ⟨bb, oo, rfl, hbl, hyt⟩ := (Hh'.out.ext Hq.out).addrB (Below.refl _ _) (m' + 1) (by rw [Hr.out]; omega)
      rw [et] at hyt
      have Hlz := Lib.hid hlz; clear hlz
      have Hge := Lib.hid hge; have Hlt2 := Lib.hid hlt2; have Et := Lib.hid et; clear hge hlt2 et
      have hfa : a * 2 ^ s < bB ^ (n + 1) := by
        have h1 := val_lt (Wf.digits a)
        rw [val_digits, Hl.out] at h1
        have h2 : 2 ^ s ≤ bB := by have := pow_lt_of s hs32; rw [bB_eq]; omega
        rw [Nat.pow_succ]
        exact Nat.lt_of_lt_of_le (Nat.mul_lt_mul_of_pos_right h1 (Nat.two_pow_pos s)) (Nat.mul_le_mul_left _ h2)
      have hfb : b * 2 ^ s < bB ^ (m' + 2) := by
        have h1 := shifted_fits (digits b) m' s t (Wf.digits b) Hr.out Et.out Hlt2.out (by omega)
        rwa [val_digits] at h1
      have Hfa := Lib.hid hfa; have Hfb := Lib.hid hfb; clear hfa hfb
      clear hmk
      have hmk := run_makeU' ((n : Int) - ((m' : Int) + 2) + 1) (n - (m' + 2) + 1) (by omega) (by omega)
      have Hx := Lib.hid (Hh.out.ext Hq.out)
      have Hy := Lib.hid (Hh'.out.ext Hq.out)
      have hn1 : ((n : Int) + 1) = ((n + 1 : Nat) : Int) := by omega
      have HN1 := Lib.hid hn1; clear hn1
      go_wp2_with (go_at_call 119; refine (Hlz.out _).mono ?_; rintro e w' ⟨rfl, rfl⟩)
      have own0 := own_madeU w1 w1.heap.size (n - (m' + 2) + 1) (Nat.le_refl _) (by omega)
      have hb0 : Below w1.heap.size w1 (w1.alloc (.cells (madeCells #[.int .u32 0] (n - (m' + 2) + 1)) 67)) := (Below.refl _ _).alloc (Nat.le_refl _) _
      have hsz0 : w1.heap.size < (w1.alloc (.cells (madeCells #[.int .u32 0] (n - (m' + 2) + 1)) 67)).heap.size := by simp
      generalize w1.alloc (.cells (madeCells #[.int .u32 0] (n - (m' + 2) + 1)) 67) = w2 at own0 hb0 hsz0 ⊢
      refine (lift_any' w2 A n cap (digits a) s (n + 1) _ (by omega) Hl.out hc (by omega) (Hx.out.ext hb0) hs32 (.inr rfl) (by rw [val_digits]; exact Hfa.out) (by omega)).mono ?_
      rintro e w3 ⟨gu, cu, U0, rfl, hb3, hu, hUl, hUv, hgu, hcu, hgu3⟩
      have HB3 := Lib.hid (bthen hb0 hb3 (by omega))
      have hown3 := own0.ext hb3
      have Hown3 := Lib.hid hown3; have Hu := Lib.hid hu; have HUl := Lib.hid hUl; have HUv := Lib.hid hUv
      have hsz3 := hb3.size
      clear own0 hb0 hb3 hown3 hu hUl hUv
      go_wp2_with fail
      refine (lift_any' w3 _ (m' + 2) cap' (digits b) s (m' + 2) _ (by omega) Hr.out hc' (by omega) (Hy.out.ext HB3.out) hs32 (.inl rfl) (by rw [val_digits]; exact Hfb.out) (by omega)).mono ?_
      rintro e w4 ⟨gv, cv, V, rfl, hb4, hv, hVl, hVv, hgv, hcv, hgv4⟩
      have HB4 := Lib.hid (bthen HB3.out hb4 (by omega))
      have Hown4 := Lib.hid (Hown3.out.ext hb4); have Hu4 := Lib.hid (Hu.out.ext hb4)
      have HV := Lib.hid hv.ru; have HVl := Lib.hid hVl; have HVv := Lib.hid hVv
      have hsz4 := hb4.size
      have htopV := shifted_top (digits b) V m' s t (Wf.digits b) hv.2 Hr.out hVl Et.out Hge.out hVv
      have HtopV := Lib.hid htopV
      have hVlt : val V < bB ^ (m' + 2) := by rw [hVv, val_digits]; exact Hfb.out
      have HVlt := Lib.hid hVlt
      clear Hown3 Hu hb4 hv hVl hVv htopV hVlt hb1
      go_wp2
      have hk0 : val (U0.drop (n - (m' + 2) + 1)) < val V := by
        have h2 := val_lt (Wf.digits a)
        rw [val_digits, Hl.out] at h2
        exact first_small a s n m' U0 V hmn h2 HUl.out (by rw [HUv.out, val_digits]) HVl.out HtopV.out (pow_lt_of s hs32)
      have Hk0 := Lib.hid hk0; clear hk0
      have Hq0 := Lib.hid (show val ((List.replicate (n - (m' + 2) + 1) (0 : Int)).drop (n - (m' + 2) + 1)) = 0 from val_drop_ge _ _ (Nat.le_of_eq List.length_replicate))
      have Hst := Lib.hid (show a * 2 ^ s = val U0 + val V * (bB ^ (n - (m' + 2) + 1) * val ((List.replicate (n - (m' + 2) + 1) (0 : Int)).drop (n - (m' + 2) + 1))) by rw [Hq0.out, HUv.out, val_digits, Nat.mul_zero, Nat.mul_zero, Nat.add_zero])
      go_loopw [14] (fun i wr => ∃ (k : Nat) (U Q : List Int), k ≤ n - (m' + 2) + 1 ∧ i = .int .i64 ((k : Int) - 1) ∧ OwnU w1.heap.size wr (.slice (some ⟨w1.heap.size, 0, none⟩) (n - (m' + 2) + 1) (n - (m' + 2) + 1)) Q ∧ Q.length = n - (m' + 2) + 1 ∧
        OwnU w1.heap.size wr (.slice (some ⟨gu, 0, none⟩) (n + 1) cu) U ∧ U.length = n + 1 ∧ RU wr (some ⟨gv, 0, none⟩) V ∧ val (U.drop k) < val V ∧ a * 2 ^ s = val U + val V * (bB ^ k * val (Q.drop k)) ∧ Below w1.heap.size w1 wr) (fun i _ => (intOf i + 1).toNat)
      case atStart =>
        exact ⟨n - (m' + 2) + 1, U0, List.replicate (n - (m' + 2) + 1) 0, Nat.le_refl _, by rw [show ((n - (m' + 2) + 1 : Nat) : Int) - 1 = (n : Int) - ((m' : Int) + 2) from by omega], Hown4.out, List.length_replicate, Hu4.out.mono (by omega),
          HUl.out, HV.out, Hk0.out, Hst.out, HB4.out⟩
      case round =>
        obtain ⟨k, U, Q, hk, rfl, hownq, hQ, hownu, hU, hv, hlt3, heq, hbl⟩ := hrel
        have HQ := Lib.hid hQ; clear hQ
        have HU := Lib.hid hU; clear hU
        have Heq := Lib.hid heq; clear heq
        have Hownq := Lib.hid hownq; clear hownq
        have Hownu := Lib.hid hownu; clear hownu
        have Hb := Lib.hid hbl; clear hbl
        have Hv := Lib.hid hv; clear hv
        have Hlt3 := Lib.hid hlt3; clear hlt3
        clear Hown4 Hu4 HV
        have hgq : w1.heap.size ≠ gu := by omega
        have hguv : gv ≠ gu := by omega
        have hgqv : gv ≠ w1.heap.size := by omega
        rcases k with _ | k
        · have hlt4 := Hlt3.out
          simp only [List.drop_zero] at hlt4
          have heq1 := Heq.out
          simp only [List.drop_zero, Nat.pow_zero, Nat.one_mul] at heq1
          have hend := quot_end a b s (val U) (val Q) (by rw [HVv.out, val_digits] at hlt4; exact hlt4) (by rw [heq1, HVv.out, val_digits])
          have hUm := val_take_of_lt Hownu.out.2 (m := m' + 2) (Nat.lt_trans hlt4 HVlt.out)
          have Hend := Lib.hid hend; have HUm := Lib.hid hUm; clear hend hUm hlt4 heq1
          have hUt := Hownu.out.take (m' + 2) (by omega)
          have HUt := Lib.hid hUt; clear hUt
          have Hcq := Lib.hid Hownq.out.cut
          have hlen := Lib.hid (show (U.take (m' + 2)).length = m' + 2 by rw [List.length_take, HU.out]; omega)
          have Hd := Lib.hid (Drew.below (Drew.refl wr).step1)
          go_wp2
          go_region_with (first
            | (go_at_call 122; refine (lower_any _ _ (m' + 2) cu (U.take (m' + 2)) s hlen.out (by omega) (HUt.out.ru.ext Hd.out) hs32).mono ?_; rintro e w6 ⟨v6, L6, rfl, hb6, ho6, hl6, hv6⟩; obtain ⟨g6, c6, rfl, _, hc6, _⟩ := ho6.form (by omega); rw [hl6] at ho6 hc6 ⊢; have Ho6 := Lib.hid ho6; have Hb6 := Lib.hid hb6; have Hl6 := Lib.hid hl6; have Hv6 := Lib.hid hv6; clear ho6 hb6 hl6 hv6)
            | (go_at_call 70; first
              | ((with_reducible refine (cut_any _ _ (n - (m' + 2) + 1) (n - (m' + 2) + 1) Q HQ.out (Nat.le_refl _) (by omega) (Hownq.out.ru.ext Hd.out)).mono ?_); rintro e w' ⟨rfl, rfl⟩)
              | (refine (cut_any _ _ (m' + 2) _ L6 Hl6.out hc6 (by omega) Ho6.out.ru).mono ?_; rintro e w' ⟨rfl, rfl⟩)))
          all_goals go_wp2
          all_goals go_ret2
          all_goals have e1 := Hcq.out
          all_goals have e2 := Ho6.out.cut
          all_goals have hvl : val L6 = a % b := by rw [Hv6.out, HUm.out, Hend.out.2]
          all_goals rw [hvl] at e2
          all_goals rw [Hend.out.1] at e1
          all_goals have e3 : clen Q = (digits (a / b)).length := by unfold clen; rw [Hend.out.1]
          all_goals have e4 : clen L6 = (digits (a % b)).length := by unfold clen; rw [hvl]
          all_goals have hb7 := bnext Hd.out Hb6.out
          all_goals have hsz7 := Hd.out.size
          all_goals (refine ⟨_, _, rfl, bnext Hq.out (bthen Hb.out hb7 Hb.out.size), ?_, ?_⟩)
          · show OwnU _ _ (.slice _ (clen Q) _) _
            rw [e3]
            exact (e1.ext hb7).mono Hq.out.size
          · show OwnU _ _ (.slice _ (clen L6) _) _
            rw [e4]
            exact e2.mono (Nat.le_trans Hq.out.size (Nat.le_trans Hb.out.size hsz7))
          · show OwnU _ _ (.slice _ (clen Q) _) _
            rw [e3]
            exact (e1.ext hb7).mono Hq.out.size
          · show OwnU _ _ (.slice _ (clen L6) _) _
            rw [e4]
            exact e2.mono (Nat.le_trans Hq.out.size (Nat.le_trans Hb.out.size hsz7))
        · obtain ⟨hcell, hfr⟩ := Hownq.out.at_ k (by rw [HQ.out]; omega)
          have hk' : k + (m' + 2) + 1 - k = m' + 3 := by omega
          have Hk' := Lib.hid hk'; clear hk'
          go_wp2_with fail
          rw [Hk'.out]
          have hsegsm : val ((U.drop k).take (m' + 3)) < bB * val V := by
            have h1 : val ((U.drop k).take (m' + 3)) ≤ val (U.drop k) := by
              have := val_split (U.drop k) (min (m' + 3) (U.drop k).length) (Nat.min_le_right _ _)
              rw [← List.take_take] at this
              rw [List.take_length] at this
              omega
            have h2 := val_drop U k (by rw [HU.out]; omega)
            have h3 := toNat_lt (Hownu.out.2.dg k).2
            have h4 : bB * (val (U.drop (k + 1)) + 1) ≤ bB * val V := Nat.mul_le_mul_left _ Hlt3.out
            rw [Nat.mul_add] at h4
            omega
          refine (digit_any wr w1.heap.size gu (n + 1) cu k m' (cu - k) cv (some ⟨gv, 0, none⟩) U V Hownu.out (by omega) (by omega) Hv.out HVl.out (by rintro b1 o1 e; injection e with e; injection e with e1; omega) HtopV.out hsegsm).mono ?_
          rintro e w5 ⟨U', rfl, hu5, hsame, hrem, hg5⟩
          obtain ⟨qq, hqq⟩ : ∃ qq : Nat, qq = val ((U.drop k).take (m' + 3)) / val V := ⟨_, rfl⟩
          rw [← hqq]
          have hqlt : qq < 4294967296 := by
            rw [hqq, ← bB_eq, Nat.div_lt_iff_lt_mul (by have := Hlt3.out; omega)]
            exact hsegsm
          have hstep := quot_step U U' Q (val V) k m' qq (a * 2 ^ s) Hownu.out.2 (by rw [HU.out]; exact hu5.shape.1) (by rw [HU.out]; omega) (by rw [HQ.out]; omega) HVlt.out Hlt3.out hsame hqq hrem Heq.out
          have Hstep := Lib.hid hstep; clear hstep hqq hrem hsame hsegsm
          have Hq5 := Lib.hid (Hownq.out.grown hg5 hgq)
          have Hu5 := Lib.hid hu5
          have HU5 := Lib.hid hu5.shape.1
          have HV5 := Lib.hid (Hv.out.grown hg5 (by rintro b1 o1 e; injection e with e; injection e with e1; omega))
          have Hb5 := Lib.hid (gb_base Hb.out hg5 (by omega) (by have := Hb.out.size; omega))
          obtain ⟨hcell5, hfr5⟩ := Hq5.out.at_ k (by rw [HQ.out]; omega)
          clear hcell hfr hu5 hg5
          go_wp2
          go_roundw
          case rel =>
            exact ⟨k, U', Q.set k (qq : Int), by omega, rfl, Hq5.out.store k (by omega) (by omega), by rw [List.length_set]; exact HQ.out, Hu5.out.grown (gb_set _ _ _ _) hgq.symm, HU5.out, HV5.out.grown (gb_set _ _ _ _) (by rintro b1 o1 e; injection e with e; injection e with e1; omega),
              Hstep.out.1, Hstep.out.2, Hb5.out.setCell (Nat.le_refl _) _⟩
          case measure => simp [intOf]
end Go.Proofs.YtckiojofncdoeaaGreatDoor
