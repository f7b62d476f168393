/- Rationals as a sign, a numerator and a denominator. Pure. -/
namespace Go.Proofs.YtckiojofncdoeaaGreatDoor

def sg (s : Bool) (n : Nat) : Int := if s then -(n : Int) else n
theorem sg_abs (s : Bool) (n : Nat) : (sg s n).natAbs = n := by cases s <;> simp [sg]
theorem sg_neg (s : Bool) (n : Nat) : decide (sg s n < 0) = (s && decide (0 < n)) := by
  cases s
  · simp [sg]
  · simp [sg]
theorem sg_self (z : Int) : sg (decide (z < 0)) z.natAbs = z := by
  unfold sg; by_cases h : z < 0 <;> simp [h] <;> omega
theorem sg_zero (s : Bool) : sg s 0 = 0 := by cases s <;> rfl
theorem sg_mul (s t : Bool) (a b : Nat) : sg s a * sg t b = sg (!(s == t)) (a * b) := by
  cases s <;> cases t <;> simp [sg] <;> grind
theorem sg_and (s : Bool) (n : Nat) : sg (s && decide (0 < n)) n = sg s n := by
  cases s
  · simp
  · by_cases h : 0 < n
    · simp [h]
    · obtain rfl : n = 0 := by omega
      simp [sg]
theorem mkR_num (s : Bool) (P Q : Nat) (hQ : Q ≠ 0) : (mkRat (sg s P) Q).num = sg s (P / Nat.gcd P Q) := by
  rw [Rat.num_mkRat, if_neg hQ, sg_abs, Nat.gcd_comm]
  obtain ⟨k, hk⟩ := Nat.gcd_dvd_left P Q
  have hg : 0 < Nat.gcd P Q := Nat.gcd_pos_of_pos_right _ (Nat.pos_of_ne_zero hQ)
  generalize Nat.gcd P Q = g at *
  subst hk
  rw [Nat.mul_div_cancel_left _ hg]
  have hg' : (g : Int) ≠ 0 := by omega
  cases s
  · show ((g * k : Nat) : Int) / (g : Int) = (k : Int)
    rw [Int.natCast_mul, Int.mul_ediv_cancel_left _ hg']
  · show (-((g * k : Nat) : Int)) / (g : Int) = -(k : Int)
    rw [Int.natCast_mul, ← Int.mul_neg, Int.mul_ediv_cancel_left _ hg']
theorem mkR_den (s : Bool) (P Q : Nat) (hQ : Q ≠ 0) : (mkRat (sg s P) Q).den = Q / Nat.gcd P Q := by
  rw [Rat.den_mkRat, if_neg hQ, sg_abs, Nat.gcd_comm]
theorem mkR_abs (s : Bool) (P Q : Nat) (hQ : Q ≠ 0) : (mkRat (sg s P) Q).num.natAbs = P / Nat.gcd P Q := by rw [mkR_num s P Q hQ, sg_abs]
theorem mkR_pos (P Q : Nat) (hQ : Q ≠ 0) : decide (0 < P / Nat.gcd P Q) = decide (0 < P) := by
  obtain ⟨k, hk⟩ := Nat.gcd_dvd_left P Q
  have hg : 0 < Nat.gcd P Q := Nat.gcd_pos_of_pos_right _ (Nat.pos_of_ne_zero hQ)
  generalize Nat.gcd P Q = g at *
  subst hk
  rw [Nat.mul_div_cancel_left _ hg]
  rcases Nat.eq_zero_or_pos k with h | h
  · subst h; rfl
  · have : 0 < g * k := Nat.mul_pos hg h
    simp [h, this]
theorem mkR_neg (s : Bool) (P Q : Nat) (hQ : Q ≠ 0) : decide ((mkRat (sg s P) Q).num < 0) = (s && decide (0 < P)) := by
  rw [mkR_num s P Q hQ, sg_neg, mkR_pos P Q hQ]
/-- the rational of a pair -/
def fr (s : Bool) (P Q : Nat) : Rat := mkRat (sg s P) Q
theorem fr_self (q : Rat) : fr (decide (q.num < 0)) q.num.natAbs q.den = q := by unfold fr; rw [sg_self, Rat.mkRat_self]
theorem fr_whole {s : Bool} {P Q : Nat} (hQ : Q ≠ 0) (h : P % Q = 0) : decide ((fr s P Q).num < 0) = (s && decide (0 < P / Q)) ∧ (fr s P Q).num.natAbs = P / Q ∧ (fr s P Q).den = 1 := by
  have hd : Q ∣ P := Nat.dvd_of_mod_eq_zero h
  have hg : Nat.gcd P Q = Q := Nat.gcd_eq_right hd
  refine ⟨?_, ?_, ?_⟩
  · rw [fr, mkR_num s P Q hQ, hg, sg_neg]
  · rw [fr, mkR_abs s P Q hQ, hg]
  · rw [fr, mkR_den s P Q hQ, hg, Nat.div_self (Nat.pos_of_ne_zero hQ)]
theorem fr_low {s : Bool} {P Q g : Nat} (hQ : Q ≠ 0) (hg : g = Nat.gcd Q (P % Q)) : decide ((fr s P Q).num < 0) = (s && decide (0 < P)) ∧ (fr s P Q).num.natAbs = P / g ∧ (fr s P Q).den = Q / g := by
  have e : g = Nat.gcd P Q := by rw [hg, Nat.gcd_comm, Nat.gcd_comm P Q, ← Nat.gcd_rec Q P, Nat.gcd_comm]
  subst e
  exact ⟨mkR_neg s P Q hQ, mkR_abs s P Q hQ, mkR_den s P Q hQ⟩
theorem fr_add (x y : Rat) : fr (decide (x.num * y.den + y.num * x.den < 0)) (x.num * y.den + y.num * x.den).natAbs (x.den * y.den) = x + y := by
  rw [fr, sg_self, ← Rat.mkRat_add_mkRat _ _ x.den_nz y.den_nz, Rat.mkRat_self, Rat.mkRat_self]
theorem fr_div (x y : Rat) (hy : y.num ≠ 0) : fr (!(decide (x.num < 0) == decide (y.num < 0))) (x.num.natAbs * y.den) (x.den * y.num.natAbs) = x / y := by
  have e : fr (!(decide (x.num < 0) == decide (y.num < 0))) (x.num.natAbs * y.den) (x.den * y.num.natAbs) = mkRat x.num x.den * mkRat (sg (decide (y.num < 0)) y.den) y.num.natAbs := by
    rw [Rat.mkRat_mul_mkRat, fr, ← sg_mul, sg_self]
  have e2 : mkRat (sg (decide (y.num < 0)) y.den) y.num.natAbs * y = 1 := by
    conv => lhs; rhs; rw [← Rat.mkRat_self y]
    rw [Rat.mkRat_mul_mkRat]
    have h3 : sg (decide (y.num < 0)) y.den * y.num = ((y.num.natAbs * y.den : Nat) : Int) := by
      unfold sg
      have := y.den_pos
      by_cases h : y.num < 0
      · simp only [h, decide_true, if_true]
        rw [Int.natCast_mul, show ((y.num.natAbs : Nat) : Int) = - y.num from by omega]; grind
      · simp only [h, decide_false]
        rw [Int.natCast_mul, show ((y.num.natAbs : Nat) : Int) = y.num from by omega]; grind
    have h4 : y.num.natAbs * y.den ≠ 0 := Nat.mul_ne_zero (by omega) y.den_nz
    rw [h3]
    have := Rat.mkRat_mul_left (n := 1) (d := 1) h4
    rw [Int.mul_one, Nat.mul_one] at this
    rw [this]; rfl
  have hy0 : y ≠ 0 := fun h => hy (by rw [h]; rfl)
  rw [e, Rat.mkRat_self]
  grind
theorem fr_int {x y : Rat} (hx : x.den = 1) (hy : y.den = 1) : (x + y).num = x.num + y.num ∧ (x + y).den = 1 := by
  have h : x + y = ((x.num + y.num : Int) : Rat) := by
    have ex : x = (x.num : Rat) := by
      have := Rat.mkRat_self x; rw [hx] at this; rw [← this]; simp [Rat.mkRat_one] 
    have ey : y = (y.num : Rat) := by
      have := Rat.mkRat_self y; rw [hy] at this; rw [← this]; simp [Rat.mkRat_one] 
    rw [Rat.intCast_add, ← ex, ← ey]
  rw [h]
  exact ⟨Rat.num_intCast _, Rat.den_intCast _⟩
theorem fr_natCast (n : Nat) : decide (((n : Nat) : Rat).num < 0) = false ∧ ((n : Nat) : Rat).num.natAbs = n ∧ ((n : Nat) : Rat).den = 1 := by
  refine ⟨?_, by simp, by simp⟩
  rw [Rat.num_natCast]
  exact decide_eq_false (by omega)
theorem fr_pow (q : Rat) (n : Nat) : (q ^ n).num = q.num ^ n ∧ (q ^ n).den = q.den ^ n := ⟨Rat.num_pow _ _, Rat.den_pow _ _⟩
theorem fr_neg (q : Rat) : decide ((-q).num < 0) = (!decide (q.num < 0) && decide (0 < q.num.natAbs)) ∧ (-q).num.natAbs = q.num.natAbs ∧ (-q).den = q.den := by
  refine ⟨?_, by simp, by simp⟩
  rw [Rat.neg_num]
  generalize q.num = z
  by_cases h : z < 0
  · rw [decide_eq_true h, decide_eq_false (show ¬ -z < 0 by omega)]; rfl
  · by_cases h2 : z = 0
    · subst h2; rfl
    · rw [decide_eq_false h, decide_eq_true (show -z < 0 by omega), decide_eq_true (show 0 < z.natAbs by omega)]; rfl
end Go.Proofs.YtckiojofncdoeaaGreatDoor
