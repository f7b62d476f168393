/- Numbers: facts for the walk of divide. -/
import Derived.Test.YtckiojofncdoeaaGreatDoorKnuth
namespace Go.Proofs.YtckiojofncdoeaaGreatDoor

theorem first_small (a s n m : Nat) (U V : List Int) (hm : m + 2 ≤ n) (ha : a < bB ^ n) (hU : U.length = n + 1) (hUv : val U = a * 2 ^ s) (hVl : V.length = m + 2) (htop : 2147483648 ≤ dg V (m + 1)) (hs : 2 ^ s ≤ 2147483648) :
    val (U.drop (n - (m + 2) + 1)) < val V := by
  have h1 := val_split U (n - (m + 2) + 1) (by omega)
  obtain ⟨K, hK⟩ : ∃ K, K = 2147483648 := ⟨_, rfl⟩
  rw [← hK] at hs
  have htop' : K ≤ (dg V (m + 1)).toNat := by omega
  clear hK
  have h3 : bB ^ (n - (m + 2) + 1) * val (U.drop (n - (m + 2) + 1)) ≤ a * 2 ^ s := by rw [← hUv, h1]; exact Nat.le_add_left _ _
  have h4 : a * 2 ^ s < bB ^ n * 2 ^ s := Nat.mul_lt_mul_of_pos_right ha (Nat.two_pow_pos s)
  have e1 : bB ^ n = bB ^ (n - (m + 2) + 1) * bB ^ (m + 1) := by rw [← Nat.pow_add, show n - (m + 2) + 1 + (m + 1) = n from by omega]
  have h5 : val (U.drop (n - (m + 2) + 1)) < bB ^ (m + 1) * 2 ^ s := by
    have h6 : bB ^ (n - (m + 2) + 1) * val (U.drop (n - (m + 2) + 1)) < bB ^ (n - (m + 2) + 1) * (bB ^ (m + 1) * 2 ^ s) := by
      rw [← Nat.mul_assoc, ← e1]
      exact Nat.lt_of_le_of_lt h3 h4
    exact Nat.lt_of_mul_lt_mul_left h6
  have h8 : val V = val (V.take (m + 1)) + bB ^ (m + 1) * (dg V (m + 1)).toNat := by rw [← val_take_ge V (m + 2) (Nat.le_of_eq hVl), val_take_succ]
  have h9 : bB ^ (m + 1) * K ≤ bB ^ (m + 1) * (dg V (m + 1)).toNat := Nat.mul_le_mul_left _ htop'
  have h10 : bB ^ (m + 1) * 2 ^ s ≤ bB ^ (m + 1) * K := Nat.mul_le_mul_left _ hs
  exact Nat.lt_of_lt_of_le h5 (Nat.le_trans h10 (Nat.le_trans h9 (by rw [h8]; exact Nat.le_add_left _ _)))
end Go.Proofs.YtckiojofncdoeaaGreatDoor
