/- Long division: the guess of a digit of the quotient, and what it is corrected to. Plain numbers. -/
import Derived.Test.YtckiojofncdoeaaGreatDoorDig
namespace Go.Proofs.YtckiojofncdoeaaGreatDoor

/-- the true digit is at most the guess of the two top digits -/
theorem guess_ge (u v top v1 p : Nat) (hv1 : 0 < v1) (hu : u < (top + 1) * p) (hv : v1 * p ≤ v) : u / v ≤ top / v1 := by
  rw [Nat.le_div_iff_mul_le hv1]
  have h1 : u / v * v ≤ u := Nat.div_mul_le_self u v
  have h2 : u / v * (v1 * p) ≤ u / v * v := Nat.mul_le_mul_left _ hv
  have h3 : u / v * v1 * p < (top + 1) * p := by rw [Nat.mul_assoc]; omega
  have := Nat.lt_of_mul_lt_mul_right h3
  omega
/-- a guess that the third digit refutes is too great -/
theorem guess_lt (u v q V2 U3 p : Nat) (hv : V2 * p ≤ v) (hu : u < (U3 + 1) * p) (ht : U3 < q * V2) : u / v < q := by
  have h1 : u < q * V2 * p := Nat.lt_of_lt_of_le hu (Nat.mul_le_mul_right _ ht)
  have h2 : q * V2 * p ≤ q * v := by rw [Nat.mul_assoc]; exact Nat.mul_le_mul_left _ hv
  rcases Nat.eq_zero_or_pos v with h0 | h0
  · subst h0; omega
  · rw [Nat.div_lt_iff_lt_mul h0]; omega
/-- a guess that the third digit bears out is too great by one at most -/
theorem guess_le (b u v q V2 U3 p : Nat) (hv : v < (V2 + 1) * p) (hpv : b * p ≤ v) (hu : U3 * p ≤ u) (hq : q < b) (ht : q * V2 ≤ U3) : q ≤ u / v + 1 := by
  have h0 : 0 < v := by
    rcases Nat.eq_zero_or_pos v with h | h
    · subst h
      have hb : 0 < b := by omega
      have : p = 0 := by
        rcases Nat.eq_zero_or_pos p with h | h
        · exact h
        · have := Nat.mul_pos hb h; omega
      subst this
      omega
    · exact h
  have h1 : q * v ≤ q * (V2 * p) + q * p := by
    have h2 : v ≤ V2 * p + p := by rw [Nat.add_mul] at hv; omega
    have := Nat.mul_le_mul_left q h2
    rwa [Nat.mul_add] at this
  have h2 : q * (V2 * p) ≤ U3 * p := by rw [← Nat.mul_assoc]; exact Nat.mul_le_mul_right _ ht
  have h3 : q * p ≤ b * p := Nat.mul_le_mul_right _ (Nat.le_of_lt hq)
  have h4 : q * v ≤ u + v := by omega
  rcases q with _ | q
  · exact Nat.zero_le _
  · have h5 : q * v ≤ u := by rw [Nat.add_mul] at h4; omega
    have := (Nat.le_div_iff_mul_le h0).2 h5
    omega
/-- what is left of the guess, the first way: it was right -/
theorem rem_right (u v q w : Nat) (h : w + q * v = u) (hq : q = u / v ∨ q = u / v + 1) (hv : 0 < v) : q = u / v ∧ w = u % v := by
  have h1 := Nat.div_add_mod u v
  have h2 := Nat.mod_lt u hv
  rcases hq with rfl | rfl
  · refine ⟨rfl, ?_⟩
    rw [Nat.mul_comm] at h
    omega
  · rw [Nat.add_mul, Nat.mul_comm] at h
    omega
/-- the second way: one too great -/
theorem rem_one_less (u v q w : Nat) (h : w + q * v = u + v) (hlt : u < q * v) (hq : q = u / v ∨ q = u / v + 1) (hv : 0 < v) : q = u / v + 1 ∧ w = u % v := by
  have h1 := Nat.div_add_mod u v
  have h2 := Nat.mod_lt u hv
  rcases hq with rfl | rfl
  · have := Nat.div_mul_le_self u v
    omega
  · refine ⟨rfl, ?_⟩
    rw [Nat.add_mul, Nat.mul_comm] at h
    omega
theorem sub_total (B P a q v u x y s d b : Nat) (h2 : a + q * v = u + P * (y + s)) (hs : x + B * b = y + s + d) : (a + P * d) + q * v = (u + P * x) + P * B * b := by
  have h : P * (x + B * b) = P * (y + s + d) := by rw [hs]
  grind
theorem sub_step (B P a q V u x vd y s d p b : Nat) (h2 : a + q * V = u + P * (y + s)) (hp : p = q * vd + y) (hs : x + B * b = p % B + s + d) : (a + P * d) + q * (V + P * vd) = (u + P * x) + P * B * (p / B + b) := by
  have h1 : d + q * vd + y + s = x + B * (p / B + b) := by
    have := Nat.mod_add_div p B
    rw [Nat.mul_add]
    omega
  have h : P * (d + q * vd + y + s) = P * (x + B * (p / B + b)) := by rw [h1]
  grind
/-- the end of adding back: the carry leaves the segment, and what is left is the remainder -/
theorem add_back (B P u v q w2 a d c : Nat) (hq : q = u / v ∨ q = u / v + 1) (hv : 0 < v) (hw : a + P * d + q * v = u + P * B) (hlt : a + P * d < P * B) (hs : w2 + P * c = a + v) (hw2 : w2 < P) (hd : d < B) (hc : c ≤ 1) :
    q = u / v + 1 ∧ w2 + P * ((d + c) % B) = u % v := by
  have hlt' : u < q * v := by omega
  have e : d + c = (d + c) % B + B * ((d + c) / B) := by have := Nat.mod_add_div (d + c) B; omega
  have h1 : w2 + P * (d + c) = a + v + P * d := by rw [Nat.mul_add]; omega
  have h2 : w2 + P * ((d + c) % B) + P * B * ((d + c) / B) = a + v + P * d := by
    rw [← h1]
    have := congrArg (P * ·) e
    simp only [Nat.mul_add, ← Nat.mul_assoc] at this
    rw [Nat.mul_add] 
    omega
  have hq1 : q * v ≤ u + v := by
    rcases hq with rfl | rfl
    · have := Nat.div_mul_le_self u v; omega
    · rw [Nat.add_mul]; have := Nat.div_mul_le_self u v; omega
  have hmod : (d + c) % B < B := Nat.mod_lt _ (by omega)
  have hseg : w2 + P * ((d + c) % B) < P * B := by
    have : P * ((d + c) % B + 1) ≤ P * B := Nat.mul_le_mul_left _ hmod
    rw [Nat.mul_add] at this
    omega
  have hone : (d + c) / B = 1 := by
    rcases Nat.lt_or_ge ((d + c) / B) 1 with h | h
    · have h0 : (d + c) / B = 0 := Nat.lt_one_iff.1 h
      rw [h0, Nat.mul_zero] at h2
      omega
    · have h3 : (d + c) / B < 2 := by rw [Nat.div_lt_iff_lt_mul (by omega)]; omega
      exact Nat.le_antisymm (Nat.lt_succ_iff.1 h3) h
  rw [hone, Nat.mul_one] at h2
  exact rem_one_less u v q _ (by omega) hlt' hq hv
theorem short_step (B b V r x q s : Nat) (h : b * q + s = r * B + x) : x + B * (b * V + r) = b * (q + B * V) + s := by
  have e1 : B * (b * V + r) = b * (B * V) + r * B := by rw [Nat.mul_add, Nat.mul_left_comm, Nat.mul_comm B r]
  rw [e1, Nat.mul_add]
  omega
/-- What the guess of a digit rests on. -/
structure GuessFacts (u v top v1 v0 u0 : Nat) : Prop where
  first : u / v ≤ top / v1
  refuted : ∀ q r, top = q * v1 + r → r * bB + u0 < q * v0 → u / v < q
  borne : ∀ q r, top = q * v1 + r → q * v0 ≤ r * bB + u0 → q < bB → q ≤ u / v + 1
  small : u / v < bB
  far : ∀ q r, top = q * v1 + r → bB ≤ r → q < bB
  most : top / v1 ≤ bB + 1
theorem guess_facts (S V : List Int) (m : Nat) (hS : Wf S) (hV : Wf V) (hSl : S.length = m + 3) (hVl : V.length = m + 2) (u2 u1 u0 v1 v0 : Nat) (e2 : dg S (m + 2) = u2) (e1 : dg S (m + 1) = u1) (e0 : dg S m = u0)
    (f1 : dg V (m + 1) = v1) (f0 : dg V m = v0) (htop : 2147483648 ≤ v1) (hlt : val S < bB * val V) : GuessFacts (val S) (val V) (u2 * bB + u1) v1 v0 u0 := by
  have hv0lt : v0 < bB := by have := hV.dg m; rw [bB_eq]; omega
  have hu0lt : u0 < bB := by have := hS.dg m; rw [bB_eq]; omega
  have hu1lt : u1 < bB := by have := hS.dg (m + 1); rw [bB_eq]; omega
  have hp : 0 < bB ^ m := Nat.pow_pos bB_pos
  have hVm : val V = val (V.take m) + bB ^ m * (v1 * bB + v0) := by
    rw [← val_take_ge V (m + 2) (by omega), val_take_succ, val_take_succ, f1, f0, Int.toNat_natCast, Int.toNat_natCast, Nat.pow_succ, Nat.mul_add, Nat.mul_comm v1, ← Nat.mul_assoc]
    omega
  have hSm : val S = val (S.take m) + bB ^ m * ((u2 * bB + u1) * bB + u0) := by
    rw [← val_take_ge S (m + 3) (by omega), val_take_succ, val_take_succ, val_take_succ, e2, e1, e0, Int.toNat_natCast, Int.toNat_natCast, Int.toNat_natCast]
    grind
  have hVr : val (V.take m) < bB ^ m := by have := val_lt (hV.take m); rwa [List.length_take, Nat.min_eq_left (by omega)] at this
  have hSr : val (S.take m) < bB ^ m := by have := val_lt (hS.take m); rwa [List.length_take, Nat.min_eq_left (by omega)] at this
  have hVp : (v1 * bB + v0) * bB ^ m ≤ val V := by rw [hVm, Nat.mul_comm]; omega
  have hVq : val V < (v1 * bB + v0 + 1) * bB ^ m := by rw [hVm, Nat.mul_comm, Nat.add_mul _ 1]; omega
  have hSp : ((u2 * bB + u1) * bB + u0) * bB ^ m ≤ val S := by rw [hSm, Nat.mul_comm]; omega
  have hSq : val S < ((u2 * bB + u1) * bB + u0 + 1) * bB ^ m := by rw [hSm, Nat.mul_comm, Nat.add_mul _ 1]; omega
  have hbp : bB * bB ^ m ≤ val V := by
    refine Nat.le_trans (Nat.mul_le_mul_right _ ?_) hVp
    have : 1 * bB ≤ v1 * bB := Nat.mul_le_mul_right _ (by omega)
    omega
  have hv : 0 < val V := Nat.lt_of_lt_of_le (Nat.mul_pos bB_pos hp) hbp
  have hsmall : val S / val V < bB := by rw [Nat.div_lt_iff_lt_mul hv]; exact hlt
  have hS1 : val S < (u2 * bB + u1 + 1) * bB ^ (m + 1) := by
    refine Nat.lt_of_lt_of_le hSq ?_
    rw [Nat.pow_succ, Nat.mul_comm (bB ^ m), ← Nat.mul_assoc]
    refine Nat.mul_le_mul_right _ ?_
    rw [Nat.add_mul _ 1]
    omega
  have hV1 : v1 * bB ^ (m + 1) ≤ val V := by
    refine Nat.le_trans ?_ hVp
    rw [Nat.pow_succ, Nat.mul_comm (bB ^ m), ← Nat.mul_assoc]
    exact Nat.mul_le_mul_right _ (Nat.le_add_right _ _)
  have hu2 : u2 ≤ v1 := by
    rcases Nat.lt_or_ge v1 u2 with h | h
    · exfalso
      have h1 : (v1 + 1) * bB * bB * bB ^ m ≤ ((u2 * bB + u1) * bB + u0) * bB ^ m := by
        refine Nat.mul_le_mul_right _ ?_
        have h2 : (v1 + 1) * bB ≤ u2 * bB := Nat.mul_le_mul_right _ h
        have h3 : (v1 + 1) * bB * bB ≤ (u2 * bB + u1) * bB := Nat.mul_le_mul_right _ (by omega)
        omega
      have h2 : bB * val V ≤ bB * ((v1 * bB + v0 + 1) * bB ^ m) := Nat.mul_le_mul_left _ (Nat.le_of_lt hVq)
      have h3 : bB * ((v1 * bB + v0 + 1) * bB ^ m) ≤ (v1 + 1) * bB * bB * bB ^ m := by
        rw [← Nat.mul_assoc, Nat.mul_comm bB (v1 * bB + v0 + 1)]
        refine Nat.mul_le_mul_right _ (Nat.mul_le_mul_right _ ?_)
        rw [Nat.add_mul]
        omega
      omega
    · exact h
  refine ⟨guess_ge _ _ _ v1 (bB ^ (m + 1)) (by omega) hS1 hV1, ?_, ?_, hsmall, ?_, ?_⟩
  · intro q r htq h
    refine guess_lt _ _ q (v1 * bB + v0) ((u2 * bB + u1) * bB + u0) (bB ^ m) hVp hSq ?_
    rw [htq, Nat.mul_add, ← Nat.mul_assoc, Nat.add_mul]
    omega
  · intro q r htq h hq
    refine guess_le bB _ _ q (v1 * bB + v0) ((u2 * bB + u1) * bB + u0) (bB ^ m) hVq hbp hSp hq ?_
    rw [htq, Nat.mul_add, ← Nat.mul_assoc, Nat.add_mul]
    omega
  · intro q r htq hr
    have h1 : u2 * bB ≤ v1 * bB := Nat.mul_le_mul_right _ hu2
    have h2 : q * v1 < bB * v1 := by rw [Nat.mul_comm bB v1]; omega
    exact Nat.lt_of_mul_lt_mul_right h2
  · have h1 : u2 * bB ≤ v1 * bB := Nat.mul_le_mul_right _ hu2
    have h2 : (u2 * bB + u1) / v1 < bB + 2 := by
      rw [Nat.div_lt_iff_lt_mul (by omega), Nat.add_mul, Nat.mul_comm bB v1]
      rw [bB_eq] at hu1lt
      omega
    omega
/-- the divisor, shifted so that its top bit is set -/
theorem shifted_fits (Y : List Int) (m s t : Nat) (hw : Wf Y) (hl : Y.length = m + 2) (ht : dg Y (m + 1) = t) (hlt : t * 2 ^ s < 4294967296) (hs : s ≤ 32) : val Y * 2 ^ s < bB ^ (m + 2) := by
  have h1 : t < 2 ^ (32 - s) := by
    have e : 2 ^ (32 - s) * 2 ^ s = 4294967296 := by rw [← Nat.pow_add, show 32 - s + s = 32 from by omega]
    rw [← e] at hlt
    exact Nat.lt_of_mul_lt_mul_right hlt
  have h2 := val_lt (hw.take (m + 1))
  rw [List.length_take, Nat.min_eq_left (by omega)] at h2
  have h3 : val Y = val (Y.take (m + 1)) + bB ^ (m + 1) * t := by
    rw [← val_take_ge Y (m + 2) (by omega), val_take_succ, ht, Int.toNat_natCast]
  have h4 : val Y < bB ^ (m + 1) * (t + 1) := by rw [Nat.mul_add]; omega
  have h5 : bB ^ (m + 1) * (t + 1) ≤ bB ^ (m + 1) * 2 ^ (32 - s) := Nat.mul_le_mul_left _ h1
  have h6 : val Y * 2 ^ s < bB ^ (m + 1) * 2 ^ (32 - s) * 2 ^ s := Nat.mul_lt_mul_of_pos_right (by omega) (Nat.two_pow_pos s)
  have e : bB ^ (m + 1) * 2 ^ (32 - s) * 2 ^ s = bB ^ (m + 2) := by
    rw [Nat.mul_assoc, ← Nat.pow_add, show 32 - s + s = 32 from by omega, Nat.pow_succ bB (m + 1)]; rfl
  omega
theorem shifted_top (Y V : List Int) (m s t : Nat) (_hw : Wf Y) (hV : Wf V) (hl : Y.length = m + 2) (hVl : V.length = m + 2) (ht : dg Y (m + 1) = t) (hge : 2147483648 ≤ t * 2 ^ s) (hv : val V = val Y * 2 ^ s) : 2147483648 ≤ dg V (m + 1) := by
  have h2 := val_lt (hV.take (m + 1))
  rw [List.length_take, Nat.min_eq_left (by omega)] at h2
  have h3 : val V = val (V.take (m + 1)) + bB ^ (m + 1) * (dg V (m + 1)).toNat := by rw [← val_take_ge V (m + 2) (by omega), val_take_succ]
  have h4 : val Y = val (Y.take (m + 1)) + bB ^ (m + 1) * t := by
    rw [← val_take_ge Y (m + 2) (by omega), val_take_succ, ht, Int.toNat_natCast]
  have h5 : bB ^ (m + 1) * (t * 2 ^ s) ≤ val V := by
    rw [hv, h4, Nat.add_mul, Nat.mul_assoc]
    exact Nat.le_add_left _ _
  have h6 : bB ^ (m + 1) * 2147483648 ≤ bB ^ (m + 1) * (t * 2 ^ s) := Nat.mul_le_mul_left _ hge
  have h7 : bB ^ (m + 1) * 2147483648 < bB ^ (m + 1) * ((dg V (m + 1)).toNat + 1) := by
    have e7 : bB ^ (m + 1) * ((dg V (m + 1)).toNat + 1) = bB ^ (m + 1) * (dg V (m + 1)).toNat + bB ^ (m + 1) := by rw [Nat.mul_add, Nat.mul_one]
    omega
  have := Nat.lt_of_mul_lt_mul_left h7
  have := hV.dg (m + 1)
  omega
/-- one digit of the quotient -/
theorem quot_step (U U' Q : List Int) (V j m q A : Nat) (hU : Wf U) (hl : U'.length = U.length) (hj : j + m + 3 ≤ U.length) (hjq : j < Q.length) (hV : V < bB ^ (m + 2)) (hk : val (U.drop (j + 1)) < V)
    (hsame : ∀ i, i < j ∨ j + m + 2 < i → dg U' i = dg U i) (hq : q = val ((U.drop j).take (m + 3)) / V) (hr : val ((U'.drop j).take (m + 3)) = val ((U.drop j).take (m + 3)) % V)
    (hA : A = val U + V * (bB ^ (j + 1) * val (Q.drop (j + 1)))) : val (U'.drop j) < V ∧ A = val U' + V * (bB ^ j * val ((Q.set j (q : Int)).drop j)) := by
  have hdrop : val (U.drop j) = (dg U j).toNat + bB * val (U.drop (j + 1)) := val_drop U j (by omega)
  have hx := toNat_lt (hU.dg j).2
  have hsmall : val (U.drop j) < bB ^ (m + 3) := by
    rw [hdrop, Nat.pow_succ bB (m + 2), Nat.mul_comm (bB ^ (m + 2))]
    have : bB * (val (U.drop (j + 1)) + 1) ≤ bB * bB ^ (m + 2) := Nat.mul_le_mul_left _ (by omega)
    rw [Nat.mul_add] at this
    omega
  have hseg := val_take_of_lt (hU.drop j) hsmall
  have hz : ∀ i, m + 3 ≤ i → dg (U'.drop j) i = 0 := by
    intro i hi
    rw [dg_drop, hsame _ (by omega), ← dg_drop]
    exact zeros_of_lt (hU.drop j) hsmall i hi
  have hseg' : val ((U'.drop j).take (m + 3)) = val (U'.drop j) := val_take_of_zeros _ _ fun i hi _ => hz i hi
  rw [hseg] at hq hr
  rw [hseg'] at hr
  have hV0 : 0 < V := by omega
  refine ⟨by rw [hr]; exact Nat.mod_lt _ hV0, ?_⟩
  have e1 := val_split U j (by omega)
  have e2 := val_split U' j (by omega)
  have e3 : U'.take j = U.take j := take_congr_dg j (by omega) (by omega) fun i hi => hsame i (.inl hi)
  have e4 : val ((Q.set j (q : Int)).drop j) = q + bB * val (Q.drop (j + 1)) := by
    rw [val_drop _ j (by rw [List.length_set]; exact hjq), dg_set_same _ _ _ hjq, drop_set_other, Int.toNat_natCast]
  have e5 := Nat.div_add_mod (val (U.drop j)) V
  rw [← hq] at e5
  rw [hA, e4, e1, e2, e3, hr, Nat.pow_succ]
  have : val (U.drop j) = V * q + val (U.drop j) % V := e5.symm
  generalize val (U.drop j) % V = r at *
  rw [this]
  grind
/-- what is left at the end -/
theorem quot_end (a b s U Q : Nat) (hlt : U < b * 2 ^ s) (h : a * 2 ^ s = U + b * 2 ^ s * Q) : Q = a / b ∧ U / 2 ^ s = a % b := by
  have hp := Nat.two_pow_pos s
  have hb : 0 < b := by
    rcases Nat.eq_zero_or_pos b with h0 | h0
    · subst h0; omega
    · exact h0
  have h1 : b * Q * 2 ^ s ≤ a * 2 ^ s := by rw [h]; rw [Nat.mul_right_comm]; exact Nat.le_add_left _ _
  have h2 := Nat.le_of_mul_le_mul_right h1 hp
  have h3 : U = (a - b * Q) * 2 ^ s := by
    rw [Nat.sub_mul, h, Nat.mul_right_comm b Q]
    omega
  have h4 : a - b * Q < b := by
    rw [h3] at hlt
    exact Nat.lt_of_mul_lt_mul_right hlt
  have h5 : a = b * Q + (a - b * Q) := by omega
  have hq : Q = a / b := by
    rw [h5, Nat.mul_add_div hb, Nat.div_eq_of_lt h4, Nat.add_zero]
  refine ⟨hq, ?_⟩
  rw [h3, Nat.mul_div_cancel _ hp]
  have := Nat.div_add_mod a b
  rw [← hq] at this
  omega
end Go.Proofs.YtckiojofncdoeaaGreatDoor
