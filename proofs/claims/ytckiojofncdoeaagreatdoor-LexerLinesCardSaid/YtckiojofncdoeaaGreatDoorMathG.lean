/- Lehmer's steps of Euclid's algorithm, in plain integers. -/
import Derived.Test.YtckiojofncdoeaaGreatDoorDig
namespace Go.Proofs.YtckiojofncdoeaaGreatDoor

def lim31 : Int := 2147483647
structure LInv (X Y K p0 x' q0 y' p q a b c d : Int) : Prop where
  hp : p = a * p0 + b * q0
  hq : q = c * p0 + d * q0
  sg : (0 ≤ a ∧ b ≤ 0 ∧ c ≤ 0 ∧ 0 ≤ d) ∨ (a ≤ 0 ∧ 0 ≤ b ∧ 0 ≤ c ∧ d ≤ 0)
  pa : 0 ≤ p + a
  pb : 0 ≤ p + b
  qc : 0 ≤ q + c
  qd : 0 ≤ q + d
  ba : -2147483647 ≤ a ∧ a ≤ 2147483647
  bb : -2147483647 ≤ b ∧ b ≤ 2147483647
  bc : -2147483647 ≤ c ∧ c ≤ 2147483647
  bd : -2147483647 ≤ d ∧ d ≤ 2147483647
  p1 : p < 4611686018427387904
  q1 : q < 4611686018427387904
  g : Int.gcd (a * X + b * Y) (c * X + d * Y) = Int.gcd X Y
  lo : 0 ≤ c * X + d * Y
  le : c * X + d * Y ≤ a * X + b * Y
  hi : a * X + b * Y ≤ X
  prog : (a = 1 ∧ b = 0 ∧ c = 0 ∧ d = 1) ∨ (a * X + b * Y ≤ Y ∧ c * X + d * Y < a * X + b * Y)

theorem gcd_step (x y f : Int) : Int.gcd y (x - f * y) = Int.gcd x y := by
  rw [Int.gcd_sub_mul_right_right]
  exact Int.gcd_comm _ _

/-- The next member of the sequence lies between 0 and the last one. -/
theorem leh_between (K x' y' q q' c d e g : Int) (hx0 : 0 ≤ x') (hxK : x' ≤ K) (hy0 : 0 ≤ y') (hyK : y' ≤ K) (hK : 0 < K)
    (he : 0 ≤ e) (hg : g ≤ 0) (hc : c ≤ 0) (hd : 0 ≤ d) (h1 : 0 ≤ q' + g) (h2 : q' + e < q + c) :
    0 ≤ q' * K + e * x' + g * y' ∧ q' * K + e * x' + g * y' < q * K + c * x' + d * y' := by
  have a1 : 0 ≤ e * x' := Int.mul_nonneg he hx0
  have a2 : g * K ≤ g * y' := Int.mul_le_mul_of_nonpos_left hg hyK
  have a3 : 0 ≤ (q' + g) * K := Int.mul_nonneg h1 (Int.le_of_lt hK)
  have a4 : (c - e) * K ≤ (c - e) * x' := Int.mul_le_mul_of_nonpos_left (by omega) hxK
  have a5 : 0 ≤ (d - g) * y' := Int.mul_nonneg (by omega) hy0
  have a6 : 0 < (q - q' + (c - e)) * K := Int.mul_pos (by omega) hK
  rw [Int.add_mul] at a3
  rw [Int.sub_mul] at a4 a5
  rw [Int.add_mul, Int.sub_mul] at a6
  rw [Int.sub_mul] at a4
  rw [Int.sub_mul] at a6
  constructor <;> omega

theorem leh_start (X Y K p0 x' q0 y' : Int) (hp0 : 0 ≤ p0) (hq0 : 0 ≤ q0)
    (hp1 : p0 < 4611686018427387904) (hq1 : q0 < 4611686018427387904) (hle : Y ≤ X) (hY0 : 0 ≤ Y) : LInv X Y K p0 x' q0 y' p0 q0 1 0 0 1 := by
  refine ⟨by omega, by omega, .inl (by omega), by omega, by omega, by omega, by omega, by omega, by omega, by omega, by omega, hp1, hq1, ?_, by omega, by omega, by omega, .inl ⟨rfl, rfl, rfl, rfl⟩⟩
  simp

theorem leh_step {X Y K p0 x' q0 y' p q a b c d : Int} (f e g : Int) (hX : X = p0 * K + x') (hY : Y = q0 * K + y') (hx0 : 0 ≤ x') (hxK : x' < K) (hy0 : 0 ≤ y') (hyK : y' < K) (h : LInv X Y K p0 x' q0 y' p q a b c d)
    (h1 : q + c ≠ 0) (h2 : q + d ≠ 0) (hf : f = (p + a) / (q + c)) (hf2 : f = (p + b) / (q + d)) (he : e = a - f * c) (hg : g = b - f * d)
    (be : -2147483647 ≤ e ∧ e ≤ 2147483647) (bg : -2147483647 ≤ g ∧ g ≤ 2147483647) :
    LInv X Y K p0 x' q0 y' q (p - f * q) c d e g ∧ p - f * q < q ∧ 0 ≤ p - f * q ∧ f * q < 4611686018427387904 + 2147483648 ∧ 0 ≤ f * q := by
  have hf0 : 0 ≤ f := by rw [hf]; exact Int.ediv_nonneg h.pa h.qc
  have hqc := h.qc
  have hqd := h.qd
  have m1 : f * (q + c) ≤ p + a := by rw [hf, Int.mul_comm]; exact Int.mul_ediv_self_le h1
  have m2 : p + a < f * (q + c) + (q + c) := by rw [hf, Int.mul_comm]; exact Int.lt_mul_ediv_self_add (by omega)
  have m3 : f * (q + d) ≤ p + b := by rw [hf2, Int.mul_comm]; exact Int.mul_ediv_self_le h2
  have m4 : p + b < f * (q + d) + (q + d) := by rw [hf2, Int.mul_comm]; exact Int.lt_mul_ediv_self_add (by omega)
  rw [Int.mul_add] at m1 m2 m3 m4
  have hp1 := h.p1
  have hq1 := h.q1
  have hval : e * X + g * Y = (a * X + b * Y) - f * (c * X + d * Y) := by
    rw [he, hg]; grind
  have hq' : p - f * q = e * p0 + g * q0 := by rw [he, hg, h.hp, h.hq]; grind
  have hv1 : e * X + g * Y = (p - f * q) * K + e * x' + g * y' := by rw [hq', hX, hY]; grind
  have hv2 : c * X + d * Y = q * K + c * x' + d * y' := by rw [h.hq, hX, hY]; grind
  have hgc : Int.gcd (c * X + d * Y) (e * X + g * Y) = Int.gcd X Y := by rw [hval, gcd_step, h.g]
  have hle := h.le
  have hhi := h.hi
  have hprog := h.prog
  have hK : 0 < K := by omega
  have hsg := h.sg
  have key : (0 ≤ p - f * q ∧ p - f * q < q ∧ 0 ≤ e * X + g * Y ∧ e * X + g * Y < c * X + d * Y) ∧ 0 ≤ q ∧ ((0 ≤ c ∧ d ≤ 0 ∧ e ≤ 0 ∧ 0 ≤ g) ∨ (c ≤ 0 ∧ 0 ≤ d ∧ 0 ≤ e ∧ g ≤ 0)) := by
    rcases hsg with ⟨s1, s2, s3, s4⟩ | ⟨s1, s2, s3, s4⟩
    · have n1 : f * c ≤ 0 := Int.mul_nonpos_of_nonneg_of_nonpos hf0 s3
      have n2 : 0 ≤ f * d := Int.mul_nonneg hf0 s4
      have := leh_between K x' y' q (p - f * q) c d e g hx0 (by omega) hy0 (by omega) hK (by omega) (by omega) s3 s4 (by omega) (by omega)
      rw [← hv1, ← hv2] at this
      exact ⟨⟨by omega, by omega, this⟩, by omega, .inr ⟨s3, s4, by omega, by omega⟩⟩
    · have n1 : 0 ≤ f * c := Int.mul_nonneg hf0 s3
      have n2 : f * d ≤ 0 := Int.mul_nonpos_of_nonneg_of_nonpos hf0 s4
      have := leh_between K y' x' q (p - f * q) d c g e hy0 (by omega) hx0 (by omega) hK (by omega) (by omega) s4 s3 (by omega) (by omega)
      have e1 : (p - f * q) * K + g * y' + e * x' = e * X + g * Y := by omega
      have e2 : q * K + d * y' + c * x' = c * X + d * Y := by omega
      rw [e1, e2] at this
      exact ⟨⟨by omega, by omega, this⟩, by omega, .inl ⟨s3, s4, by omega, by omega⟩⟩
  obtain ⟨⟨k1, k2, k3, k4⟩, k5, k6⟩ := key
  refine ⟨⟨h.hq, hq', k6.symm.elim (fun h => .inr ?_) (fun h => .inl ?_), hqc, hqd, by omega, by omega, h.bc, h.bd, be, bg, hq1, by omega, hgc, k3, by omega, by omega, .inr ⟨?_, k4⟩⟩, k2, k1, by omega, Int.mul_nonneg hf0 k5⟩
  · omega
  · omega
  · rcases hprog with ⟨rfl, rfl, rfl, rfl⟩ | ⟨r1, r2⟩
    · omega
    · omega

theorem lead_math {x : List Int} {n s d1 d2 d3 : Nat} (hw : Wf x) (hl : x.length ≤ n) (hn : 3 ≤ n) (hs : s < 32) (e1 : dg x (n - 1) = (d1 : Int)) (e2 : dg x (n - 2) = (d2 : Int)) (e3 : dg x (n - 3) = (d3 : Int))
    (hfit : val x * 2 ^ s < bB ^ n) : (d1 * bB + d2) * 2 ^ s < 18446744073709551616 ∧ d3 * 2 ^ s / 4294967296 < 2 ^ s ∧ val x * 2 ^ s / bB ^ (n - 2) = (d1 * bB + d2) * 2 ^ s + d3 * 2 ^ s / 4294967296 := by
  obtain ⟨j, rfl⟩ : ∃ j, n = j + 3 := ⟨n - 3, by omega⟩
  rw [show j + 3 - 1 = j + 2 from by omega] at e1
  rw [show j + 3 - 2 = j + 1 from by omega] at e2 ⊢
  rw [show j + 3 - 3 = j from by omega] at e3
  have hv : val x = val (x.take j) + bB ^ j * d3 + bB ^ (j + 1) * d2 + bB ^ (j + 2) * d1 := by
    rw [← val_take_ge x (j + 3) hl, val_take_succ, val_take_succ, val_take_succ, e1, e2, e3]
    simp only [Int.toNat_natCast]
  have hd3 : d3 < bB := by have := (hw.dg j).2; rw [e3] at this; rw [bB_eq]; omega
  have hlo : val (x.take j) < bB ^ j := by
    refine Nat.lt_of_lt_of_le (val_lt (hw.take j)) (Nat.pow_le_pow_right bB_pos ?_)
    rw [List.length_take]
    omega
  obtain ⟨M, hM⟩ : ∃ M, bB = 2 ^ s * M := ⟨2 ^ (32 - s), by rw [← Nat.pow_add, show s + (32 - s) = 32 from by omega]; rfl⟩
  have hp : 0 < 2 ^ s := Nat.two_pow_pos s
  have hP : 0 < bB ^ j := Nat.pow_pos bB_pos
  rw [show (4294967296 : Nat) = bB from rfl]
  have h3 : d3 * 2 ^ s / bB < 2 ^ s := by rw [Nat.div_lt_iff_lt_mul bB_pos, Nat.mul_comm (2 ^ s)]; exact Nat.mul_lt_mul_of_pos_right hd3 hp
  have h2 : val x * 2 ^ s = (val (x.take j) * 2 ^ s + bB ^ j * (d3 * 2 ^ s)) + bB ^ (j + 1) * ((d1 * bB + d2) * 2 ^ s) := by
    rw [hv, Nat.pow_succ, show bB ^ (j + 2) = bB ^ j * bB * bB from by rw [Nat.pow_succ, Nat.pow_succ]]
    generalize bB ^ j = P
    generalize bB = B
    generalize 2 ^ s = S
    generalize val (x.take j) = L
    grind
  have hPB : 0 < bB ^ (j + 1) := Nat.pow_pos bB_pos
  have h4 : (val (x.take j) * 2 ^ s + bB ^ j * (d3 * 2 ^ s)) / bB ^ (j + 1) = d3 * 2 ^ s / bB := by
    rw [Nat.pow_succ, ← Nat.div_div_eq_div_mul, Nat.add_mul_div_left _ _ hP, hM, ← Nat.div_div_eq_div_mul, ← Nat.div_div_eq_div_mul, Nat.mul_comm d3, Nat.add_mul_div_left _ _ hp, Nat.mul_div_cancel_left _ hp]
    have : val (x.take j) * 2 ^ s / (2 ^ s * M) ^ j < 2 ^ s := by
      rw [← hM, Nat.div_lt_iff_lt_mul hP, Nat.mul_comm (2 ^ s)]
      exact Nat.mul_lt_mul_of_pos_right hlo hp
    rw [Nat.div_eq_of_lt this, Nat.zero_add]
  have h5 : val x * 2 ^ s / bB ^ (j + 1) = (d1 * bB + d2) * 2 ^ s + d3 * 2 ^ s / bB := by
    rw [h2, Nat.add_mul_div_left _ _ hPB, h4, Nat.add_comm]
  refine ⟨?_, h3, h5⟩
  have h6 : val x * 2 ^ s / bB ^ (j + 1) < bB ^ 2 := by
    rw [Nat.div_lt_iff_lt_mul hPB, ← Nat.pow_add, show 2 + (j + 1) = j + 3 from by omega]
    exact hfit
  rw [h5] at h6
  exact Nat.lt_of_le_of_lt (Nat.le_add_right _ _) h6

theorem mul_le_cancel {x y S : Int} (hS : 0 < S) (h : x * S ≤ y * S) : x ≤ y := Int.le_of_mul_le_mul_right h hS
theorem mul_lt_cancel {x y S : Int} (hS : 0 < S) (h : x * S < y * S) : x < y := Int.lt_of_mul_lt_mul_right h (Int.le_of_lt hS)
theorem short_math {a b : Nat} {S K p0 x' q0 y' p q A B C D : Int} (hS : 0 < S) (h : LInv ((a : Int) * S) ((b : Int) * S) K p0 x' q0 y' p q A B C D) :
    ∃ u v : Nat, A * (a : Int) + B * b = u ∧ C * (a : Int) + D * b = v ∧ v ≤ u ∧ u ≤ a ∧ Nat.gcd u v = Nat.gcd a b ∧ (B ≠ 0 → u ≤ b ∧ v < u) := by
  have e1 : A * ((a : Int) * S) + B * ((b : Int) * S) = (A * a + B * b) * S := by rw [Int.add_mul, Int.mul_assoc, Int.mul_assoc]
  have e2 : C * ((a : Int) * S) + D * ((b : Int) * S) = (C * a + D * b) * S := by rw [Int.add_mul, Int.mul_assoc, Int.mul_assoc]
  have h1 := h.lo
  have h2 := h.le
  have h3 := h.hi
  have h4 := h.g
  have h5 := h.prog
  rw [e1, e2] at h2 h4 h5
  rw [e2] at h1
  rw [e1] at h3
  generalize A * (a : Int) + B * b = u at *
  generalize C * (a : Int) + D * b = v at *
  have k1 : 0 ≤ v := mul_le_cancel hS (by omega)
  have k2 : v ≤ u := mul_le_cancel hS h2
  have k3 : u ≤ a := mul_le_cancel hS h3
  obtain ⟨U, rfl⟩ := Int.eq_ofNat_of_zero_le (Int.le_trans k1 k2)
  obtain ⟨V, rfl⟩ := Int.eq_ofNat_of_zero_le k1
  refine ⟨U, V, rfl, rfl, by omega, by omega, ?_, ?_⟩
  · rw [Int.gcd_mul_right, Int.gcd_mul_right] at h4
    have := Nat.eq_of_mul_eq_mul_right (by omega) h4
    simpa [Int.gcd] using this
  · intro hb
    rcases h5 with ⟨_, h6, _⟩ | ⟨h6, h7⟩
    · exact absurd h6 hb
    · have := mul_le_cancel hS h6
      have := mul_lt_cancel hS h7
      omega

theorem lead_split {X n p : Nat} (hn : 3 ≤ n) (h : X < bB ^ n) (hp : p = X / (4 * bB ^ (n - 2))) :
    ∃ r : Int, (X : Int) = (p : Int) * ((4 * bB ^ (n - 2) : Nat) : Int) + r ∧ 0 ≤ r ∧ r < ((4 * bB ^ (n - 2) : Nat) : Int) ∧ p < 4611686018427387904 := by
  have hK : 0 < 4 * bB ^ (n - 2) := Nat.mul_pos (by decide) (Nat.pow_pos bB_pos)
  have h1 : bB ^ n = 4611686018427387904 * (4 * bB ^ (n - 2)) := by
    rw [← Nat.mul_assoc, show (4611686018427387904 * 4 : Nat) = bB ^ 2 from rfl, ← Nat.pow_add, show 2 + (n - 2) = n from by omega]
  have h2 : p < 4611686018427387904 := by rw [hp, Nat.div_lt_iff_lt_mul hK, ← h1]; exact h
  have h3 := Nat.div_add_mod X (4 * bB ^ (n - 2))
  have h4 := Nat.mod_lt X hK
  rw [← hp] at h3
  refine ⟨((X % (4 * bB ^ (n - 2)) : Nat) : Int), ?_, by omega, by omega, h2⟩
  generalize 4 * bB ^ (n - 2) = K at *
  rw [← h3, Nat.mul_add_mod, Nat.mod_mod]
  push_cast
  rw [Int.mul_comm]

theorem fd_bound (f d : Int) (hf : -2147483647 ≤ f ∧ f ≤ 2147483647) (hd0 : 0 ≤ d) (hd : d < 4294967296) :
    -9223372030412324865 ≤ f * d ∧ f * d ≤ 9223372030412324865 ∧ (0 ≤ f → 0 ≤ f * d) ∧ (f ≤ 0 → f * d ≤ 0) := by
  have h1 : f * d ≤ 2147483647 * d := Int.mul_le_mul_of_nonneg_right hf.2 hd0
  have h2 : -2147483647 * d ≤ f * d := Int.mul_le_mul_of_nonneg_right hf.1 hd0
  exact ⟨by omega, by omega, fun h => Int.mul_nonneg h hd0, fun h => Int.mul_nonpos_of_nonpos_of_nonneg h hd0⟩

theorem comb_step (x y R : List Int) (k : Nat) (f g c t : Int) (hk : k < R.length) (hx : Wf x) (hy : Wf y) (ht : t = f * dg x k + c + g * dg y k)
    (h : (val (R.take k) : Int) + (bB : Int) ^ k * c = f * val (x.take k) + g * val (y.take k)) :
    (val ((R.set k (t % 4294967296)).take (k + 1)) : Int) + (bB : Int) ^ (k + 1) * (t / 4294967296) = f * val (x.take (k + 1)) + g * val (y.take (k + 1)) := by
  rw [val_set_take R k _ hk, val_take_succ x k, val_take_succ y k]
  have e1 := Int.toNat_of_nonneg (hx.dg k).1
  have e2 := Int.toNat_of_nonneg (hy.dg k).1
  have e3 := Int.toNat_of_nonneg (show 0 ≤ t % 4294967296 by omega)
  push_cast
  rw [e1, e2, e3]
  have e4 : t % 4294967296 = t - (bB : Int) * (t / 4294967296) := by rw [bB_eq]; omega
  rw [e4, Int.pow_succ]
  generalize t / 4294967296 = u at *
  generalize (bB : Int) = B at *
  generalize B ^ k = P at *
  rw [ht]
  grind

theorem comb_end {n : Nat} {x y R : List Int} {f g c : Int} (hR : Wf R) (hl : R.length = n) (h : (val (R.take n) : Int) + (bB : Int) ^ n * c = f * val (x.take n) + g * val (y.take n))
    (hx : x.length = n) (hy : y.length ≤ n) (h0 : 0 ≤ f * (val x : Int) + g * val y) (h1 : f * (val x : Int) + g * val y < ((bB ^ n : Nat) : Int)) : (val R : Int) = f * val x + g * val y := by
  rw [val_take_ge R n (by omega), val_take_ge x n (by omega), val_take_ge y n hy] at h
  have h2 := val_lt hR
  rw [hl] at h2
  obtain ⟨P, hP⟩ : ∃ P : Nat, P = bB ^ n := ⟨_, rfl⟩
  have hB : (bB : Int) ^ n = (P : Int) := by rw [hP]; push_cast; rfl
  have hp : 0 < P := by rw [hP]; exact Nat.pow_pos bB_pos
  rw [hB] at h
  rw [← hP] at h1 h2
  have hc : c = 0 := by
    rcases Int.lt_trichotomy c 0 with h3 | h3 | h3
    · have : (P : Int) * c ≤ P * (-1) := Int.mul_le_mul_of_nonneg_left (by omega) (by omega)
      omega
    · exact h3
    · have : (P : Int) * 1 ≤ P * c := Int.mul_le_mul_of_nonneg_left (by omega) (by omega)
      omega
  rw [hc] at h
  omega
end Go.Proofs.YtckiojofncdoeaaGreatDoor
