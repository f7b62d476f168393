/- nat: leading, shorten, small, Gcd, DivMod. -/
import Derived.Test.YtckiojofncdoeaaGreatDoorNatG
namespace Go.Proofs.YtckiojofncdoeaaGreatDoor
open Go.RowKit

theorem leadin_any (w : World) (g : Nat) (A : Option Addr) (n cap : Nat) (x : List Int) (i : Nat) (z : Int) (hz : z = (i : Int)) (hl : x.length = n) (_hs : n ≤ 1073741824) (_hi : i ≤ 1073741824) (h : RU w A x) (hcell : w.cell? ⟨g, 0, none⟩ = some (.slice A n cap)) :
    Calls Tryz.prog 129 #[.int .i64 z, .pointer (some ⟨g, 0, none⟩)] w fun e w' => w = w' ∧ e = .returned (.int .u64 (dg x i)) := by
  subst hz
  have Hl := Lib.hid hl; clear hl
  have Hh := Lib.hid h; clear h
  go_enter Tryz.func129, Tryz.ntmps129
  by_cases hlt : i < n
  · obtain ⟨b, o, rfl, hx1⟩ := Hh.out.addr i (by rw [Hl.out]; omega)
    have b1 := Hh.out.wf.dg i
    go_wp2
    go_ret
    exact ⟨rfl, rfl⟩
  · have hz : dg x i = 0 := dg_ge x i (by rw [Hl.out]; omega)
    rw [hz]
    clear hz
    go_wp2
    go_ret
    exact ⟨rfl, rfl⟩

theorem leading_any (w : World) (A : Option Addr) (m cap n s : Nat) (x : List Int) (hl : x.length = m) (_hc : m ≤ cap) (hs : n ≤ 1073741824) (h : RU w A x) (hs32 : s < 32) (hn : 3 ≤ n) (hmn : m ≤ n) (hfit : val x * 2 ^ s < bB ^ n) :
    Calls Tryz.prog 124 #[.slice A m cap, .int .i64 n, .int .u64 s] w fun e w' => Below w.heap.size w w' ∧ ∃ (p : Nat), e = .returned (.int .i64 p) ∧ p = val x * 2 ^ s / (4 * bB ^ (n - 2)) := by
  have Hl := Lib.hid hl; clear hl
  have Hh := Lib.hid h; clear h
  go_enter Tryz.func124, Tryz.ntmps124
  have hmf : ∀ (fn : Fn) (first cap : Array Value) (w : World), (Instr.makeFunc fn first cap).run Tryz.prog w = .ok (.func fn first cap) w := fun _ _ _ _ => rfl
  obtain ⟨d1, e1⟩ := Int.eq_ofNat_of_zero_le (Hh.out.wf.dg (n - 1)).1
  obtain ⟨d2, e2⟩ := Int.eq_ofNat_of_zero_le (Hh.out.wf.dg (n - 2)).1
  obtain ⟨d3, e3⟩ := Int.eq_ofNat_of_zero_le (Hh.out.wf.dg (n - 3)).1
  have b1 : d1 < 4294967296 := by have := Hh.out.wf.dg (n - 1); omega
  have b2 : d2 < 4294967296 := by have := Hh.out.wf.dg (n - 2); omega
  have b3 : d3 < 4294967296 := by have := Hh.out.wf.dg (n - 3); omega
  have E1 := Lib.hid e1; have E2 := Lib.hid e2; have E3 := Lib.hid e3
  clear e1 e2 e3
  obtain ⟨T, hT⟩ : ∃ T : Nat, T = d1 * bB + d2 := ⟨_, rfl⟩
  have hor : bits BinOp.or IntKind.u64 ((d1 : Int) * 4294967296) (d2 : Int) = (T : Int) := by rw [or64_hi _ _ (by omega) (by omega) (by omega) (by omega), hT, bB_eq]; omega
  have hlm := lead_math Hh.out.wf (by rw [Hl.out]; exact hmn) hn hs32 E1.out E2.out E3.out hfit
  rw [← hT] at hlm
  obtain ⟨hl1, hl2, hl3⟩ := hlm
  obtain ⟨Z, hZ⟩ : ∃ Z : Nat, Z = T * 2 ^ s := ⟨_, rfl⟩
  obtain ⟨V, hV⟩ : ∃ V : Nat, V = d3 * 2 ^ s := ⟨_, rfl⟩
  rw [← hZ] at hl1 hl3
  rw [← hV] at hl2 hl3
  have hVb : V < 9223372036854775808 := by
    have h1 := pow_lt_of s hs32
    have : d3 * 2 ^ s ≤ d3 * 2147483648 := Nat.mul_le_mul_left _ h1
    omega
  have hw1 : IntKind.u64.wrap ((T : Int) * 2 ^ s) = (Z : Int) := by
    rw [show ((T : Int) * 2 ^ s) = (Z : Int) from by rw [hZ]; push_cast; rfl, wrap_u64']; omega
  have hw2 : IntKind.u64.wrap ((d3 : Int) * 2 ^ s) = (V : Int) := by
    rw [show ((d3 : Int) * 2 ^ s) = (V : Int) from by rw [hV]; push_cast; rfl, wrap_u64']; omega
  obtain ⟨O, hO⟩ : ∃ O : Nat, O = Z + V / 4294967296 := ⟨_, rfl⟩
  have hor2 : bits BinOp.or IntKind.u64 (Z : Int) ((V : Int) / 4294967296) = (O : Int) := by
    rw [show ((V : Int) / 4294967296) = ((V / 4294967296 : Nat) : Int) from by omega, u64_or_nat _ _ hl1 (by omega), hO, hZ, Nat.mul_comm T, or_disj _ _ s hl2]
  have hO64 : O < 18446744073709551616 := by
    rw [hO, ← hl3, Nat.div_lt_iff_lt_mul (Nat.pow_pos bB_pos)]
    have h1 : bB ^ n = 18446744073709551616 * bB ^ (n - 2) := by
      rw [show (18446744073709551616 : Nat) = bB ^ 2 from rfl, ← Nat.pow_add, show 2 + (n - 2) = n from by omega]
    rw [← h1]
    exact hfit
  have hfin : O / 4 = val x * 2 ^ s / (4 * bB ^ (n - 2)) := by rw [Nat.mul_comm 4, ← Nat.div_div_eq_div_mul, hl3, hO]
  have HT := Lib.hid hT; clear hT
  have Hfin := Lib.hid hfin; clear hfin hO hl3 hZ hV hl1 hl2 hfit
  go_wp2_with fail
  refine (leadin_any _ w.heap.size A m cap x (n - 1) _ (by omega) Hl.out (by omega) (by omega) (Hh.out.ext ((Below.refl _ _).alloc (Nat.le_refl _) _)) (by simp [go_sem])).mono ?_
  rintro e w1 ⟨rfl, rfl⟩
  rw [E1.out]
  go_wp2_with fail
  refine (leadin_any _ w.heap.size A m cap x (n - 2) _ (by omega) Hl.out (by omega) (by omega) (Hh.out.ext ((Below.refl _ _).alloc (Nat.le_refl _) _)) (by simp [go_sem])).mono ?_
  rintro e w1 ⟨rfl, rfl⟩
  rw [E2.out]
  go_wp2_with fail
  refine (leadin_any _ w.heap.size A m cap x (n - 3) _ (by omega) Hl.out (by omega) (by omega) (Hh.out.ext ((Below.refl _ _).alloc (Nat.le_refl _) _)) (by simp [go_sem])).mono ?_
  rintro e w1 ⟨rfl, rfl⟩
  rw [E3.out]
  go_wp2_with fail
  go_ret
  refine ⟨(Below.refl _ _).alloc (Nat.le_refl _) _, O / 4, ?_, Hfin.out⟩
  exact ret_i64 (by omega)

set_option maxRecDepth 100000 in
theorem shorten_any (w : World) (base : Nat) (A B : Option Addr) (n cap m cap' a b : Nat) (hbase : base ≤ w.heap.size) (ho : OwnU base w (.slice A n cap) (digits a)) (ho' : OwnU base w (.slice B m cap') (digits b))
    (hs : n ≤ 1073741824) (hm : 3 ≤ m) (hba : b ≤ a) :
    Calls Tryz.prog 108 #[.slice A n cap, .slice B m cap'] w fun e w' => ∃ u v c d, e = .returned (.tuple #[u, v]) ∧ Below w.heap.size w w' ∧ OwnU base w' u (digits c) ∧ OwnU base w' v (digits d) ∧ d ≤ c ∧ c ≤ a ∧ d < b ∧ Nat.gcd c d = Nat.gcd a b := by
  have sh := ho.shape
  have sh' := ho'.shape
  have hc := sh.2
  have hc' := sh'.2
  have Hl := Lib.hid sh.1
  have Hr := Lib.hid sh'.1
  clear sh sh'
  have Ho := Lib.hid ho; have Ho' := Lib.hid ho'
  have Hh := Lib.hid ho.ru; have Hh' := Lib.hid ho'.ru
  clear ho ho'
  have hmn : m ≤ n := by
    rcases Nat.lt_or_ge n m with h | h
    · exfalso
      have := val_lt_of_shorter (Wf.digits a) (Wf.digits b) (norm_digits _) (by rw [Hl.out, Hr.out]; exact h)
      rw [val_digits, val_digits] at this
      omega
    · exact h
  have hb0 : 0 < b := by
    rcases Nat.eq_zero_or_pos b with h | h
    · have := (digits_nil_iff b).2 h
      rw [Hr.out] at this
      omega
    · exact h
  obtain ⟨t, et⟩ := Int.eq_ofNat_of_zero_le ((Wf.digits a).dg (n - 1)).1
  have bt : t < 4294967296 := by have := (Wf.digits a).dg (n - 1); omega
  have t0 : 1 ≤ t := by
    rcases norm_digits a with h | h
    · rw [Hl.out] at h; omega
    · rw [Hl.out, et] at h; omega
  obtain ⟨s, hs32, hge, hlt2, hlz⟩ := lz_any t t0 bt
  have Hlz := Lib.hid hlz; clear hlz
  have hfa : a * 2 ^ s < bB ^ n := by
    obtain ⟨n', rfl⟩ : ∃ n', n = n' + 2 := ⟨n - 2, by omega⟩
    have h1 := shifted_fits (digits a) n' s t (Wf.digits a) Hl.out et hlt2 (by omega)
    rwa [val_digits] at h1
  have hS : 0 < 2 ^ s := Nat.two_pow_pos s
  have hfb : b * 2 ^ s < bB ^ n := Nat.lt_of_le_of_lt (Nat.mul_le_mul_right _ hba) hfa
  have han : a < bB ^ n := by
    have h1 := val_lt (Wf.digits a)
    rwa [val_digits, Hl.out] at h1
  obtain ⟨bb, oo, rfl, hbl, hyt⟩ := Hh.out.addrB (Below.refl _ _) (n - 1) (by rw [Hl.out]; omega)
  rw [et] at hyt
  clear et hge hlt2
  have Hfa := Lib.hid hfa; have Hfb := Lib.hid hfb; have Han := Lib.hid han; have HS := Lib.hid hS; clear hfa hfb han hS
  go_enter Tryz.func108, Tryz.ntmps108
  go_wp2_with (go_at_call 119; refine (Hlz.out _).mono ?_; rintro e w' ⟨rfl, rfl⟩)
  refine (leading_any w _ n cap n s (digits a) Hl.out hc hs Hh.out hs32 (by omega) (Nat.le_refl _) (by rw [val_digits]; exact Hfa.out)).mono ?_
  rintro e w1 ⟨hb1, p, rfl, hp⟩
  rw [val_digits] at hp
  obtain ⟨x', hx, hx0, hxK, hp1⟩ := lead_split (by omega) Hfa.out hp
  have HX := Lib.hid hx; clear hx hp
  go_wp2_with fail
  refine (leading_any w1 _ m cap' n s (digits b) Hr.out hc' hs (Hh'.out.ext hb1) hs32 (by omega) hmn (by rw [val_digits]; exact Hfb.out)).mono ?_
  rintro e w2 ⟨hb2, q, rfl, hq⟩
  rw [val_digits] at hq
  obtain ⟨y', hy, hy0, hyK, hq1⟩ := lead_split (by omega) Hfb.out hq
  have HY := Lib.hid hy; clear hy hq
  have HB2 := Lib.hid (bnext hb1 hb2); clear hb1 hb2
  go_wp2_with fail
  refine (cofactors_any w2 ((a * 2 ^ s : Nat) : Int) ((b * 2 ^ s : Nat) : Int) _ p x' q y' HX.out HY.out hx0 hxK hy0 hyK (by omega) (by omega) (by omega) (by omega) (by exact_mod_cast Nat.mul_le_mul_right _ hba) (by omega)).mono ?_
  rintro e w3 ⟨rfl, P, Q, A, B1, C, D, rfl, hinv⟩
  rw [Int.natCast_mul, Int.natCast_mul] at hinv
  have bA := hinv.ba; have bB1 := hinv.bb; have bC := hinv.bc; have bD := hinv.bd
  have hsg := hinv.sg
  obtain ⟨u, v, hu, hv, hvu, hua, hgcd, hprog⟩ := short_math (by exact_mod_cast HS.out) hinv
  have Hu := Lib.hid hu; have Hv := Lib.hid hv; have Hg := Lib.hid hgcd; clear hu hv hgcd hinv HX HY hx0 hxK hy0 hyK hp1 hq1
  by_cases hB : B1 = 0
  · subst hB
    clear hsg hprog
    go_wp2_with fail
    refine (divide_any w2 _ B n cap m cap' a b hb0 Hl.out hc hs (Hh.out.ext HB2.out) Hr.out hc' (by omega) (Hh'.out.ext HB2.out)).mono ?_
    rintro e w4 ⟨q4, r4, rfl, hb4, _, ho4⟩
    go_wp2_with fail
    go_ret2
    refine ⟨_, _, b, a % b, rfl, bnext HB2.out hb4, Ho'.out.ext (bnext HB2.out hb4), ho4.mono (Nat.le_trans hbase HB2.out.size), Nat.le_of_lt (Nat.mod_lt _ hb0), hba, Nat.mod_lt _ hb0, ?_⟩
    rw [Nat.gcd_comm b, ← Nat.gcd_rec, Nat.gcd_comm]
  · have hBb : (B1 == 0) = false := by simpa using hB
    obtain ⟨hub, hvu'⟩ := hprog hB
    clear hB hprog
    go_wp2_with fail
    refine (combine_any w2 _ B n cap m cap' (digits a) (digits b) A B1 Hl.out hc hs (Hh.out.ext HB2.out) Hr.out hc' hmn (Hh'.out.ext HB2.out) bA bB1 (by omega) (by rw [val_digits, val_digits, Hu.out]; omega) (by rw [val_digits, val_digits, Hu.out]; have := Han.out; omega)).mono ?_
    rintro e w4 ⟨u4, rfl, hb4, ho4⟩
    rw [val_digits, val_digits, Hu.out, Int.toNat_natCast] at ho4
    have Ho4 := Lib.hid ho4; clear ho4
    have HB4 := Lib.hid (bnext HB2.out hb4); clear hb4
    go_wp2_with fail
    refine (combine_any w4 _ B n cap m cap' (digits a) (digits b) C D Hl.out hc hs (Hh.out.ext HB4.out) Hr.out hc' hmn (Hh'.out.ext HB4.out) bC bD (by omega) (by rw [val_digits, val_digits, Hv.out]; omega) (by rw [val_digits, val_digits, Hv.out]; have := Han.out; omega)).mono ?_
    rintro e w5 ⟨u5, rfl, hb5, ho5⟩
    rw [val_digits, val_digits, Hv.out, Int.toNat_natCast] at ho5
    go_wp2_with fail
    go_ret2
    exact ⟨_, _, u, v, rfl, bnext HB4.out hb5, (Ho4.out.ext hb5).mono (Nat.le_trans hbase HB2.out.size), ho5.mono (Nat.le_trans hbase HB4.out.size), hvu, hua, by omega, Hg.out⟩
end Go.Proofs.YtckiojofncdoeaaGreatDoor
