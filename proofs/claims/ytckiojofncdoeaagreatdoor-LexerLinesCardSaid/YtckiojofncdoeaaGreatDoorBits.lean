/- Numbers: shifts and ors of uint32 and uint64 as the walk spells them. -/
import Derived.Test.YtckiojofncdoeaaGreatDoorHeap
import Derived.Laws.BitsAllLaws
namespace Go.Proofs.YtckiojofncdoeaaGreatDoor

theorem wrap_u64' (n : Int) : IntKind.u64.wrap n = n % 18446744073709551616 := by
  unfold IntKind.wrap
  simp [IntKind.bits, IntKind.signed]
theorem or_disj (a q s : Nat) (h : q < 2 ^ s) : (2 ^ s * a) ||| q = 2 ^ s * a + q := (Nat.two_pow_add_eq_or_of_lt h a).symm
theorem mod_shift (N s : Nat) (hs : s ≤ 32) : N * 2 ^ s % 4294967296 = 2 ^ s * (N % 2 ^ (32 - s)) := by
  have e : (4294967296 : Nat) = 2 ^ s * 2 ^ (32 - s) := by rw [← Nat.pow_add, show s + (32 - s) = 32 from by omega]
  rw [e, Nat.mul_comm N, Nat.mul_mod_mul_left]
theorem pow_lt_of (s : Nat) (hs : s < 32) : 2 ^ s ≤ 2147483648 := by
  have : 2 ^ s ≤ 2 ^ 31 := Nat.pow_le_pow_right (by decide) (by omega)
  simpa using this
/-- one digit of a shift to the left -/
theorem lift_step (d q : Int) (s : Nat) (hs : s < 32) (hd0 : 0 ≤ d) (hd : d < 4294967296) (hq0 : 0 ≤ q) (hq : q < 2 ^ s) :
    ∃ x c : Int, bits .or .u32 (d * 2 ^ s % 4294967296) q = x ∧ IntKind.u64.wrap (d * 2 ^ s) / 4294967296 % 4294967296 = c ∧ 0 ≤ x ∧ x < 4294967296 ∧ 0 ≤ c ∧ c < 2 ^ s ∧
      x.toNat + bB * c.toNat = d.toNat * 2 ^ s + q.toNat := by
  obtain ⟨N, rfl⟩ := Int.eq_ofNat_of_zero_le hd0
  obtain ⟨Q, rfl⟩ := Int.eq_ofNat_of_zero_le hq0
  have hN : N < 4294967296 := by omega
  have hQ : Q < 2 ^ s := by exact_mod_cast hq
  have hp := pow_lt_of s hs
  have hM : N * 2 ^ s < 4294967296 * 2 ^ s := Nat.mul_lt_mul_of_pos_right hN (Nat.two_pow_pos s)
  have hM2 : N * 2 ^ s < 18446744073709551616 := by omega
  have e1 : ((N : Int) * 2 ^ s) = ((N * 2 ^ s : Nat) : Int) := by push_cast; rfl
  have e2 : ((N * 2 ^ s : Nat) : Int) % 4294967296 = ((N * 2 ^ s % 4294967296 : Nat) : Int) := by omega
  have hlt : N * 2 ^ s % 4294967296 < 4294967296 := Nat.mod_lt _ (by decide)
  have hdiv : N * 2 ^ s / 4294967296 < 2 ^ s := by rw [Nat.div_lt_iff_lt_mul (by decide), Nat.mul_comm (2 ^ s)]; exact hM
  have hor : (N * 2 ^ s % 4294967296) ||| Q = N * 2 ^ s % 4294967296 + Q := by
    rw [mod_shift N s (by omega)]
    exact or_disj _ _ _ hQ
  have hsum : N * 2 ^ s % 4294967296 + Q < 4294967296 := by
    rw [← hor]
    exact Nat.or_lt_two_pow (n := 32) hlt (by omega)
  have hw : IntKind.u64.wrap ((N * 2 ^ s : Nat) : Int) / 4294967296 % 4294967296 = ((N * 2 ^ s / 4294967296 : Nat) : Int) := by
    rw [wrap_u64']
    omega
  refine ⟨((N * 2 ^ s % 4294967296 + Q : Nat) : Int), ((N * 2 ^ s / 4294967296 : Nat) : Int), ?_, by rw [e1, hw], by omega, by omega, by omega, by exact_mod_cast hdiv, ?_⟩
  · rw [e1, e2, u32_or_nat _ _ hlt (by omega), hor]
  · simp only [Int.toNat_natCast, bB_eq]
    omega
theorem or64_hi (x y : Int) (hx0 : 0 ≤ x) (hx : x < 4294967296) (hy0 : 0 ≤ y) (hy : y < 4294967296) : bits .or .u64 (x * 4294967296) y = x * 4294967296 + y := by
  obtain ⟨N, rfl⟩ := Int.eq_ofNat_of_zero_le hx0
  obtain ⟨M, rfl⟩ := Int.eq_ofNat_of_zero_le hy0
  have h1 : N * 4294967296 < 18446744073709551616 := by omega
  have e : ((N : Int) * 4294967296) = ((N * 4294967296 : Nat) : Int) := by omega
  rw [e, u64_or_nat _ _ h1 (by omega), Nat.mul_comm, show (4294967296 : Nat) = 2 ^ 32 from rfl, or_disj _ _ 32 (by omega)]
  omega
/-- one step of a subtraction to the base 2^32 in uint64 -/
theorem borrow_step (x y q : Int) (hx0 : 0 ≤ x) (hx : x < 4294967296) (hy0 : 0 ≤ y) (hy : y < 4294967296) (hq0 : 0 ≤ q) (hq : q ≤ 1) :
    ∃ d b : Int, IntKind.u64.wrap (IntKind.u64.wrap (x - q) - y) % 4294967296 = d ∧ IntKind.u64.wrap (IntKind.u64.wrap (x - q) - y) / 9223372036854775808 = b ∧ 0 ≤ d ∧ d < 4294967296 ∧ 0 ≤ b ∧ b ≤ 1 ∧
      x.toNat + 4294967296 * b.toNat = y.toNat + q.toNat + d.toNat := by
  rw [wrap_u64', wrap_u64']
  refine ⟨_, _, rfl, rfl, ?_, ?_, ?_, ?_, ?_⟩ <;> omega
theorem borrow_step0 (x q : Int) (hx0 : 0 ≤ x) (hx : x < 4294967296) (hq0 : 0 ≤ q) (hq : q ≤ 1) :
    ∃ d b : Int, IntKind.u64.wrap (x - q) % 4294967296 = d ∧ IntKind.u64.wrap (x - q) / 9223372036854775808 = b ∧ 0 ≤ d ∧ d < 4294967296 ∧ 0 ≤ b ∧ b ≤ 1 ∧
      x.toNat + 4294967296 * b.toNat = q.toNat + d.toNat := by
  rw [wrap_u64']
  refine ⟨_, _, rfl, rfl, ?_, ?_, ?_, ?_, ?_⟩ <;> omega
/-- the same, the borrow taken last; in natural numbers -/
theorem borrow_stepN (x y q : Nat) (hx : x < 4294967296) (hy : y < 4294967296) (hq : q ≤ 1) :
    ∃ d b : Nat, IntKind.u64.wrap (IntKind.u64.wrap ((x : Int) - (y : Int)) - (q : Int)) % 4294967296 = (d : Int) ∧ IntKind.u64.wrap (IntKind.u64.wrap ((x : Int) - (y : Int)) - (q : Int)) / 9223372036854775808 = (b : Int) ∧ d < 4294967296 ∧ b ≤ 1 ∧
      x + 4294967296 * b = y + q + d := by
  rw [wrap_u64', wrap_u64']
  refine ⟨((((x : Int) - (y : Int)) % 18446744073709551616 - (q : Int)) % 18446744073709551616 % 4294967296).toNat, ((((x : Int) - (y : Int)) % 18446744073709551616 - (q : Int)) % 18446744073709551616 / 9223372036854775808).toNat, ?_, ?_, ?_, ?_, ?_⟩ <;> omega
/-- one digit of a shift to the right -/
theorem low_step (d : Int) (r s : Nat) (hs : s < 32) (hd0 : 0 ≤ d) (hd : d < 4294967296) (hr : r < 2 ^ s) :
    ∃ (x : Int) (r' : Nat), bits .or .u32 (d / 2 ^ s) ((r : Int) * 2 ^ (32 - s) % 4294967296) = x ∧ IntKind.u64.wrap (d * 2 ^ (32 - s)) % 4294967296 = ((r' * 2 ^ (32 - s) % 4294967296 : Nat) : Int) ∧ 0 ≤ x ∧ x < 4294967296 ∧ r' < 2 ^ s ∧
      d.toNat + bB * r = x.toNat * 2 ^ s + r' := by
  obtain ⟨N, rfl⟩ := Int.eq_ofNat_of_zero_le hd0
  have hN : N < 4294967296 := by omega
  have ep : 2 ^ (32 - s) * 2 ^ s = 4294967296 := by rw [← Nat.pow_add, show 32 - s + s = 32 from by omega]
  have hp : 0 < 2 ^ s := Nat.two_pow_pos s
  have hpt : 0 < 2 ^ (32 - s) := Nat.two_pow_pos _
  have ht : 2 ^ (32 - s) ≤ 4294967296 := by rw [← ep]; exact Nat.le_mul_of_pos_right _ hp
  have hM2 : N * 2 ^ (32 - s) < 18446744073709551616 := by
    have h1 : N * 2 ^ (32 - s) ≤ N * 4294967296 := Nat.mul_le_mul_left _ ht
    omega
  have e1 : ((N : Int) * 2 ^ (32 - s)) = ((N * 2 ^ (32 - s) : Nat) : Int) := by push_cast; rfl
  have e0 : ((r : Int) * 2 ^ (32 - s)) = ((r * 2 ^ (32 - s) : Nat) : Int) := by push_cast; rfl
  have e3 : ((N : Int) / 2 ^ s) = ((N / 2 ^ s : Nat) : Int) := by push_cast; rfl
  have em : ∀ a : Nat, a < 2 ^ s → a * 2 ^ (32 - s) % 4294967296 = 2 ^ (32 - s) * a := by
    intro a ha
    rw [mod_shift a (32 - s) (by omega), show 32 - (32 - s) = s from by omega, Nat.mod_eq_of_lt ha]
  have hlow : N % 2 ^ s < 2 ^ s := Nat.mod_lt _ hp
  have hq : N / 2 ^ s < 2 ^ (32 - s) := by rw [Nat.div_lt_iff_lt_mul hp, ep]; exact hN
  have hor : (N / 2 ^ s) ||| (r * 2 ^ (32 - s) % 4294967296) = 2 ^ (32 - s) * r + N / 2 ^ s := by
    rw [em r hr, Nat.or_comm]
    exact or_disj _ _ _ hq
  have hq2 : N / 2 ^ s < 4294967296 := Nat.lt_of_le_of_lt (Nat.div_le_self _ _) hN
  have hr2 : r * 2 ^ (32 - s) % 4294967296 < 4294967296 := Nat.mod_lt _ (by decide)
  have hsum : 2 ^ (32 - s) * r + N / 2 ^ s < 4294967296 := by
    rw [← hor]
    exact Nat.or_lt_two_pow (n := 32) hq2 hr2
  refine ⟨((2 ^ (32 - s) * r + N / 2 ^ s : Nat) : Int), N % 2 ^ s, ?_, ?_, by omega, by omega, hlow, ?_⟩
  · rw [e0, e3, show ((r * 2 ^ (32 - s) : Nat) : Int) % 4294967296 = ((r * 2 ^ (32 - s) % 4294967296 : Nat) : Int) from by omega, u32_or_nat _ _ hq2 hr2, hor]
  · rw [e1, wrap_u64', em _ hlow, ← show N * 2 ^ (32 - s) % 4294967296 = 2 ^ (32 - s) * (N % 2 ^ s) from by rw [mod_shift N (32 - s) (by omega), show 32 - (32 - s) = s from by omega]]
    omega
  · simp only [Int.toNat_natCast]
    rw [Nat.add_mul, Nat.mul_right_comm, ep, bB_eq]
    have := Nat.div_add_mod N (2 ^ s)
    rw [Nat.mul_comm] at this
    omega
end Go.Proofs.YtckiojofncdoeaaGreatDoor
