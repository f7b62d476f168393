/- lexer: Number. -/
import Derived.Test.YtckiojofncdoeaaGreatDoorLexB
import Derived.Test.YtckiojofncdoeaaGreatDoorRatF
namespace Go.Proofs.YtckiojofncdoeaaGreatDoor
open Go.RowKit

def numAbs (l : List UInt8) : Option Rat :=
  if (lead l).length < 1 ∨ 30 < (lead l).length then none else
  match l.drop (lead l).length with
  | [] => some ((dec (lead l) : Nat) : Rat)
  | c :: r =>
    if (lead r).length < 1 ∨ 30 < (lead r).length then none else
    if r.drop (lead r).length ≠ [] then none else
    if c = 46 then some (((dec (lead l) : Nat) : Rat) + ((dec (lead r) : Nat) : Rat) / (((10 : Nat) : Rat) ^ (lead r).length))
    else if c = 47 then (if dec (lead r) = 0 then none else some (((dec (lead l) : Nat) : Rat) / ((dec (lead r) : Nat) : Rat)))
    else none
def numOf (l : List UInt8) : Option Rat := (numAbs (Lib.trimPrefix l [45])).map fun q => if Lib.hasPrefix l [45] then -q else q

section
variable {l r : List UInt8} {c : UInt8}
theorem numAbs_bad (h : (lead l).length < 1 ∨ 30 < (lead l).length) : numAbs l = none := by unfold numAbs; rw [if_pos h]
theorem numAbs_one (h : ¬ ((lead l).length < 1 ∨ 30 < (lead l).length)) (hd : l.drop (lead l).length = []) : numAbs l = some ((dec (lead l) : Nat) : Rat) := by unfold numAbs; rw [if_neg h, hd]
theorem numAbs_cons (h : ¬ ((lead l).length < 1 ∨ 30 < (lead l).length)) (hd : l.drop (lead l).length = c :: r) : numAbs l =
    if (lead r).length < 1 ∨ 30 < (lead r).length then none else
    if r.drop (lead r).length ≠ [] then none else
    if c = 46 then some (((dec (lead l) : Nat) : Rat) + ((dec (lead r) : Nat) : Rat) / (((10 : Nat) : Rat) ^ (lead r).length))
    else if c = 47 then (if dec (lead r) = 0 then none else some (((dec (lead l) : Nat) : Rat) / ((dec (lead r) : Nat) : Rat)))
    else none := by unfold numAbs; rw [if_neg h, hd]
end

theorem fr_nat_div (P Q : Nat) (hQ : Q ≠ 0) : ((P : Nat) : Rat) / ((Q : Nat) : Rat) = fr false P Q := by
  have h := fr_div ((P : Nat) : Rat) ((Q : Nat) : Rat) (by rw [Rat.num_natCast]; omega)
  rw [← h]
  have e1 : decide (((P : Nat) : Rat).num < 0) = false := (fr_natCast P).1
  have e2 : decide (((Q : Nat) : Rat).num < 0) = false := (fr_natCast Q).1
  rw [e1, e2, (fr_natCast P).2.1, (fr_natCast Q).2.1, (fr_natCast P).2.2, (fr_natCast Q).2.2, Nat.mul_one, Nat.one_mul]
  rfl
theorem fr_small {P Q i j : Nat} (hQ : Q ≠ 0) (hP : P < 10 ^ i) (hQj : Q < 10 ^ j) {k : Nat} (hi : i ≤ k) (hj : j ≤ k) : (digits (fr false P Q).num.natAbs).length ≤ k ∧ (digits (fr false P Q).den).length ≤ k := by
  have h1 : (fr false P Q).num.natAbs ≤ P := by unfold fr; rw [mkR_abs _ _ _ hQ]; exact Nat.div_le_self _ _
  have h2 : (fr false P Q).den ≤ Q := by unfold fr; rw [mkR_den _ _ _ hQ]; exact Nat.div_le_self _ _
  exact ⟨dec_len _ i k (Nat.lt_of_le_of_lt h1 hP) hi, dec_len _ j k (Nat.lt_of_le_of_lt h2 hQj) hj⟩
theorem fr_dot (V V2 T : Nat) (hT : T ≠ 0) : ((V : Nat) : Rat) + ((V2 : Nat) : Rat) / ((T : Nat) : Rat) = fr false (V * T + V2) T := by
  rw [← fr_nat_div _ _ hT]
  have hT' : ((T : Nat) : Rat) ≠ 0 := fun h => hT (by exact_mod_cast h)
  rw [Rat.natCast_add, Rat.natCast_mul]
  grind
theorem pow_cast (m : Nat) : ((10 : Nat) : Rat) ^ m = ((10 ^ m : Nat) : Rat) := by rw [Rat.natCast_pow]
theorem dec_lead_lt {l : List UInt8} (h : (lead l).length ≤ 30) : dec (lead l) < 10 ^ 30 :=
  Nat.lt_of_lt_of_le (dec_lt (lead_dig l)) (Nat.pow_le_pow_right (by decide) h)
theorem nat_small {V : Nat} (h : V < 10 ^ 30) : (digits ((V : Nat) : Rat).num.natAbs).length ≤ 100 ∧ (digits ((V : Nat) : Rat).den).length ≤ 100 := by
  rw [(fr_natCast V).2.1, (fr_natCast V).2.2]
  exact ⟨dec_len V 30 100 h (by decide), dec_len 1 1 100 (by decide) (by decide)⟩
theorem dot_small {V V2 m : Nat} (h : V < 10 ^ 30) (h2 : V2 < 10 ^ 30) (hm : m ≤ 30) : (digits (((V : Nat) : Rat) + ((V2 : Nat) : Rat) / (((10 : Nat) : Rat) ^ m)).num.natAbs).length ≤ 100 ∧ (digits (((V : Nat) : Rat) + ((V2 : Nat) : Rat) / (((10 : Nat) : Rat) ^ m)).den).length ≤ 100 := by
  have hT : 10 ^ m ≤ 10 ^ 30 := Nat.pow_le_pow_right (by decide) hm
  have hT0 : 10 ^ m ≠ 0 := Nat.ne_of_gt (Nat.pow_pos (by decide))
  rw [pow_cast, fr_dot _ _ _ hT0]
  refine fr_small (i := 61) (j := 31) hT0 ?_ (Nat.lt_of_le_of_lt hT (by decide)) (by decide) (by decide)
  have h3 : V * 10 ^ m ≤ 10 ^ 30 * 10 ^ 30 := Nat.mul_le_mul (Nat.le_of_lt h) hT
  have h4 : (10 : Nat) ^ 30 * 10 ^ 30 + 10 ^ 30 < 10 ^ 61 := by decide
  omega
theorem quo_small {V2 m : Nat} (h2 : V2 < 10 ^ 30) (hm : m ≤ 30) : (digits (((V2 : Nat) : Rat) / (((10 : Nat) : Rat) ^ m)).num.natAbs).length ≤ 100 ∧ (digits (((V2 : Nat) : Rat) / (((10 : Nat) : Rat) ^ m)).den).length ≤ 100 := by
  have hT : 10 ^ m ≤ 10 ^ 30 := Nat.pow_le_pow_right (by decide) hm
  have hT0 : 10 ^ m ≠ 0 := Nat.ne_of_gt (Nat.pow_pos (by decide))
  rw [pow_cast, fr_nat_div _ _ hT0]
  exact fr_small (i := 30) (j := 31) hT0 h2 (Nat.lt_of_le_of_lt hT (by decide)) (by decide) (by decide)
theorem ten_small {m : Nat} (hm : m ≤ 30) : (digits (((10 : Nat) : Rat) ^ m).num.natAbs).length ≤ 100 ∧ (digits (((10 : Nat) : Rat) ^ m).den).length ≤ 100 := by
  have hT : 10 ^ m ≤ 10 ^ 30 := Nat.pow_le_pow_right (by decide) hm
  rw [pow_cast, (fr_natCast _).2.1, (fr_natCast _).2.2]
  exact ⟨dec_len _ 31 100 (Nat.lt_of_le_of_lt hT (by decide)) (by decide), dec_len 1 1 100 (by decide) (by decide)⟩
theorem frac_small {V V2 : Nat} (h : V < 10 ^ 30) (h2 : V2 < 10 ^ 30) (h0 : V2 ≠ 0) : (digits (((V : Nat) : Rat) / ((V2 : Nat) : Rat)).num.natAbs).length ≤ 100 ∧ (digits (((V : Nat) : Rat) / ((V2 : Nat) : Rat)).den).length ≤ 100 := by
  rw [fr_nat_div _ _ h0]
  exact fr_small (i := 30) (j := 30) h0 h h2 (by decide) (by decide)
end Go.Proofs.YtckiojofncdoeaaGreatDoor
