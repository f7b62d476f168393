/- Numbers to the base 2^32 as lists of digits, the lowest first: their values, the canonical list of a value. Plain lists and numbers: no program. -/
namespace Go.Proofs.YtckiojofncdoeaaGreatDoor

/-- the base -/
def bB : Nat := 4294967296
theorem bB_eq : bB = 4294967296 := rfl
theorem bB_pos : 0 < bB := by decide

/-- digit k, 0 behind the end -/
def dg (l : List Int) (k : Nat) : Int := l.getD k 0
def Wf (l : List Int) : Prop := ∀ x ∈ l, 0 ≤ x ∧ x < 4294967296

def val : List Int → Nat
  | [] => 0
  | x :: l => x.toNat + bB * val l

def digits (n : Nat) : List Int := if _h : n = 0 then [] else ((n % bB : Nat) : Int) :: digits (n / bB)
termination_by n
decreasing_by exact Nat.div_lt_self (by omega) (by decide)

theorem digits_zero : digits 0 = [] := by rw [digits]; simp
theorem digits_pos {n : Nat} (h : n ≠ 0) : digits n = ((n % bB : Nat) : Int) :: digits (n / bB) := by rw [digits]; simp [h]
theorem val_nil : val [] = 0 := rfl
theorem val_cons (x : Int) (l : List Int) : val (x :: l) = x.toNat + bB * val l := rfl

theorem dg_nil (k : Nat) : dg [] k = 0 := rfl
theorem dg_cons_zero (x : Int) (l : List Int) : dg (x :: l) 0 = x := rfl
theorem dg_cons_succ (x : Int) (l : List Int) (k : Nat) : dg (x :: l) (k + 1) = dg l k := rfl
theorem dg_ge (l : List Int) (k : Nat) (h : l.length ≤ k) : dg l k = 0 := by
  simp [dg, List.getD_eq_getElem?_getD, List.getElem?_eq_none h]
theorem dg_lt (l : List Int) (k : Nat) (h : k < l.length) : dg l k = l[k] := by
  simp [dg, List.getD_eq_getElem?_getD, List.getElem?_eq_getElem h]
theorem dg_get? (l : List Int) (k : Nat) (h : k < l.length) : l[k]? = some (dg l k) := by rw [dg_lt l k h]; exact List.getElem?_eq_getElem h
theorem dg_append_left (l m : List Int) (k : Nat) (h : k < l.length) : dg (l ++ m) k = dg l k := by
  simp [dg, List.getD_eq_getElem?_getD, List.getElem?_append_left h]
theorem dg_append_right (l m : List Int) (k : Nat) : dg (l ++ m) (l.length + k) = dg m k := by
  simp [dg, List.getD_eq_getElem?_getD, List.getElem?_append_right (Nat.le_add_right _ _)]
theorem dg_take (l : List Int) (m k : Nat) (h : k < m) : dg (l.take m) k = dg l k := by
  simp [dg, List.getD_eq_getElem?_getD, h]
theorem dg_drop (l : List Int) (m k : Nat) : dg (l.drop m) k = dg l (m + k) := by
  simp [dg, List.getD_eq_getElem?_getD]
theorem dg_set_same (l : List Int) (k : Nat) (x : Int) (h : k < l.length) : dg (l.set k x) k = x := by
  simp [dg, List.getD_eq_getElem?_getD, h]
theorem dg_set_other (l : List Int) (k j : Nat) (x : Int) (h : k ≠ j) : dg (l.set k x) j = dg l j := by
  simp [dg, List.getD_eq_getElem?_getD, h]
theorem dg_replicate (n k : Nat) : dg (List.replicate n 0) k = 0 := by
  simp only [dg, List.getD_eq_getElem?_getD, List.getElem?_replicate]; split <;> rfl

theorem Wf.nil : Wf [] := fun _ h => by cases h
theorem Wf.cons {x : Int} {l : List Int} (h0 : 0 ≤ x) (h1 : x < 4294967296) (h : Wf l) : Wf (x :: l) := fun y hy => by
  rcases List.mem_cons.1 hy with rfl | hy
  · exact ⟨h0, h1⟩
  · exact h y hy
theorem Wf.head {x : Int} {l : List Int} (h : Wf (x :: l)) : 0 ≤ x ∧ x < 4294967296 := h x (by simp)
theorem Wf.tail {x : Int} {l : List Int} (h : Wf (x :: l)) : Wf l := fun y hy => h y (by simp [hy])
theorem Wf.append {l m : List Int} (h : Wf l) (k : Wf m) : Wf (l ++ m) := fun y hy => by
  rcases List.mem_append.1 hy with hy | hy
  · exact h y hy
  · exact k y hy
theorem Wf.one {x : Int} (h0 : 0 ≤ x) (h1 : x < 4294967296) : Wf [x] := Wf.cons h0 h1 Wf.nil
theorem Wf.take {l : List Int} (h : Wf l) (k : Nat) : Wf (l.take k) := fun y hy => h y (List.mem_of_mem_take hy)
theorem Wf.drop {l : List Int} (h : Wf l) (k : Nat) : Wf (l.drop k) := fun y hy => h y (List.mem_of_mem_drop hy)
theorem Wf.zeros (n : Nat) : Wf (List.replicate n 0) := fun y hy => by rw [List.eq_of_mem_replicate hy]; omega
theorem Wf.set {l : List Int} (h : Wf l) (k : Nat) {x : Int} (h0 : 0 ≤ x) (h1 : x < 4294967296) : Wf (l.set k x) := fun y hy => by
  rcases List.mem_or_eq_of_mem_set hy with hy | rfl
  · exact h y hy
  · exact ⟨h0, h1⟩
theorem Wf.dg {l : List Int} (h : Wf l) (k : Nat) : 0 ≤ dg l k ∧ dg l k < 4294967296 := by
  by_cases hk : k < l.length
  · rw [dg_lt l k hk]; exact h _ (List.getElem_mem hk)
  · rw [dg_ge l k (by omega)]; omega
theorem Wf.digits (n : Nat) : Wf (digits n) := by
  induction n using Nat.strongRecOn with
  | _ n ih =>
    by_cases h : n = 0
    · subst h; rw [digits_zero]; exact Wf.nil
    · rw [digits_pos h]
      have hlt := Nat.mod_lt n bB_pos
      rw [bB_eq] at hlt
      exact Wf.cons (by omega) (by rw [bB_eq]; omega) (ih _ (Nat.div_lt_self (by omega) (by decide)))

theorem val_digits (n : Nat) : val (digits n) = n := by
  induction n using Nat.strongRecOn with
  | _ n ih =>
    by_cases h : n = 0
    · subst h; rw [digits_zero]; rfl
    · rw [digits_pos h, val_cons, ih _ (Nat.div_lt_self (by omega) (by decide))]
      simp only [Int.toNat_natCast]
      exact Nat.mod_add_div n bB

theorem val_append (l m : List Int) : val (l ++ m) = val l + bB ^ l.length * val m := by
  induction l with
  | nil => simp [val_nil]
  | cons x l ih => rw [List.cons_append, val_cons, val_cons, ih, List.length_cons, Nat.pow_succ, Nat.mul_add, ← Nat.mul_assoc, Nat.mul_comm bB (bB ^ l.length)]; omega
theorem val_one (x : Int) : val [x] = x.toNat := by rw [val_cons, val_nil]; omega
theorem val_zeros (n : Nat) : val (List.replicate n 0) = 0 := by
  induction n with
  | zero => rfl
  | succ n ih => rw [List.replicate_succ, val_cons, ih]; rfl
theorem val_take_succ (l : List Int) (k : Nat) : val (l.take (k + 1)) = val (l.take k) + bB ^ k * (dg l k).toNat := by
  by_cases h : k < l.length
  · rw [List.take_succ_eq_append_getElem h, val_append, val_one, dg_lt l k h, List.length_take, Nat.min_eq_left (by omega)]
  · rw [dg_ge l k (by omega), List.take_of_length_le (by omega), List.take_of_length_le (by omega)]; simp
theorem val_take_all (l : List Int) : val (l.take l.length) = val l := by rw [List.take_length]
theorem val_take_ge (l : List Int) (k : Nat) (h : l.length ≤ k) : val (l.take k) = val l := by rw [List.take_of_length_le h]
theorem val_split (l : List Int) (k : Nat) (h : k ≤ l.length) : val l = val (l.take k) + bB ^ k * val (l.drop k) := by
  have := val_append (l.take k) (l.drop k)
  rwa [List.take_append_drop, List.length_take, Nat.min_eq_left h] at this
theorem toNat_lt {x : Int} (h1 : x < 4294967296) : x.toNat < bB := by rw [bB_eq]; omega
theorem val_lt {l : List Int} (h : Wf l) : val l < bB ^ l.length := by
  induction l with
  | nil => simp [val_nil]
  | cons x l ih =>
    have hx := toNat_lt h.head.2
    have hl := ih h.tail
    rw [val_cons, List.length_cons, Nat.pow_succ, Nat.mul_comm (bB ^ l.length) bB]
    have : bB * (val l + 1) ≤ bB * bB ^ l.length := Nat.mul_le_mul_left _ hl
    rw [Nat.mul_add] at this
    omega

/-- the top digit is not 0 -/
def Norm (l : List Int) : Prop := l.length = 0 ∨ dg l (l.length - 1) ≠ 0
theorem Norm.nil : Norm [] := .inl rfl
theorem norm_cons {x : Int} {l : List Int} (h : Norm (x :: l)) : Norm l := by
  rcases h with h | h
  · simp at h
  · rcases l with _ | ⟨y, l⟩
    · exact Norm.nil
    · refine .inr ?_
      simpa [dg_cons_succ] using h
theorem val_pos {l : List Int} (hw : Wf l) (h : Norm l) (hl : l ≠ []) : 0 < val l := by
  induction l with
  | nil => exact absurd rfl hl
  | cons x l ih =>
    rw [val_cons]
    rcases l with _ | ⟨y, l⟩
    · rcases h with h | h
      · simp at h
      · have : dg [x] ([x].length - 1) = x := rfl
        rw [this] at h
        have := hw.head
        omega
    · have := ih hw.tail (norm_cons h) (by simp)
      have := Nat.mul_pos bB_pos this
      omega
theorem digits_val {l : List Int} (hw : Wf l) (h : Norm l) : digits (val l) = l := by
  induction l with
  | nil => rw [val_nil, digits_zero]
  | cons x l ih =>
    have hp := val_pos hw h (by simp)
    have hx := toNat_lt hw.head.2
    rw [digits_pos (by omega), val_cons, Nat.add_mul_mod_self_left, Nat.mod_eq_of_lt hx, Nat.add_mul_div_left _ _ bB_pos, Nat.div_eq_of_lt hx, Nat.zero_add, ih hw.tail (norm_cons h),
      Int.toNat_of_nonneg hw.head.1]
theorem norm_digits (n : Nat) : Norm (digits n) := by
  induction n using Nat.strongRecOn with
  | _ n ih =>
    by_cases h : n = 0
    · subst h; rw [digits_zero]; exact Norm.nil
    · rw [digits_pos h]
      rcases ih _ (Nat.div_lt_self (by omega) (by decide) : n / bB < n) with h1 | h1
      · refine .inr ?_
        have h0 : digits (n / bB) = [] := List.eq_nil_of_length_eq_zero h1
        have hz : n / bB = 0 := by have := val_digits (n / bB); rw [h0, val_nil] at this; exact this.symm
        rw [h0]
        show ((n % bB : Nat) : Int) ≠ 0
        have := Nat.mod_add_div n bB
        rw [hz] at this
        omega
      · refine .inr ?_
        have hl : 0 < (digits (n / bB)).length := by
          rcases Nat.eq_zero_or_pos (digits (n / bB)).length with h2 | h2
          · exact absurd (by rw [List.eq_nil_of_length_eq_zero h2]; rfl) h1
          · exact h2
        rw [List.length_cons]
        have e : (digits (n / bB)).length + 1 - 1 = ((digits (n / bB)).length - 1) + 1 := by omega
        rw [e, dg_cons_succ]
        exact h1
theorem val_take_of_zeros (l : List Int) (m : Nat) (h : ∀ j, m ≤ j → j < l.length → dg l j = 0) : val (l.take m) = val l := by
  have key : ∀ d k, k + d = l.length → m ≤ k → val (l.take k) = val l := by
    intro d
    induction d with
    | zero => intro k hk _; exact val_take_ge l k (by omega)
    | succ d ih =>
      intro k hk hm
      rw [← ih (k + 1) (by omega) (by omega), val_take_succ, h k hm (by omega)]
      simp
  by_cases hm : m ≤ l.length
  · exact key (l.length - m) m (by omega) (Nat.le_refl _)
  · exact val_take_ge l m (by omega)
theorem norm_take {l : List Int} {m : Nat} (hm : m ≤ l.length) (h : m = 0 ∨ dg l (m - 1) ≠ 0) : Norm (l.take m) := by
  have hl : (l.take m).length = m := by rw [List.length_take]; omega
  rcases h with h | h
  · exact .inl (by omega)
  · by_cases h0 : m = 0
    · exact .inl (by omega)
    · refine .inr ?_
      rw [hl, dg_take _ _ _ (by omega)]
      exact h
/-- what is left in front of the zeros at the end is canonical -/
theorem digits_take {l : List Int} (hw : Wf l) {m : Nat} (hm : m ≤ l.length) (h : ∀ j, m ≤ j → j < l.length → dg l j = 0) (h1 : m = 0 ∨ dg l (m - 1) ≠ 0) : digits (val l) = l.take m := by
  rw [← val_take_of_zeros l m h]
  exact digits_val (hw.take m) (norm_take hm h1)
theorem digits_length_le {n k : Nat} (h : n < bB ^ k) : (digits n).length ≤ k := by
  induction k generalizing n with
  | zero => have : n = 0 := by simpa using h
            subst this; simp [digits_zero]
  | succ k ih =>
    by_cases h0 : n = 0
    · subst h0; simp [digits_zero]
    · rw [digits_pos h0, List.length_cons]
      have : n / bB < bB ^ k := by rw [Nat.div_lt_iff_lt_mul bB_pos]; rwa [Nat.pow_succ] at h
      have := ih this
      omega
theorem digits_nil_iff (n : Nat) : (digits n).length = 0 ↔ n = 0 := by
  constructor
  · intro h
    have := val_digits n
    rw [List.eq_nil_of_length_eq_zero h, val_nil] at this
    exact this.symm
  · rintro rfl; rw [digits_zero]; rfl
theorem le_of_digits_length {n k : Nat} (h : k < (digits n).length) : bB ^ k ≤ n := by
  rcases Nat.lt_or_ge n (bB ^ k) with h1 | h1
  · have := digits_length_le h1; omega
  · exact h1
theorem digits_inj {m n : Nat} (h : digits m = digits n) : m = n := by rw [← val_digits m, h, val_digits]
theorem digits_length_val {l : List Int} (hw : Wf l) : (digits (val l)).length ≤ l.length := digits_length_le (val_lt hw)
theorem digits_one {n : Nat} (h0 : n ≠ 0) (h : n < bB) : digits n = [(n : Int)] := by
  rw [digits_pos h0, Nat.mod_eq_of_lt h, Nat.div_eq_of_lt h, digits_zero]
/-- comparing normal lists of one length from the top -/
theorem val_lt_of_top {l m : List Int} (hl : Wf l) (hm : Wf m) (hlen : l.length = m.length) (k : Nat) (hk : k < l.length) (heq : ∀ j, k < j → j < l.length → dg l j = dg m j) (hlt : dg l k < dg m k) : val l < val m := by
  have key : ∀ d i, i + d = l.length → k < i → val (l.take i) < val (m.take i) → val l < val m := by
    intro d
    induction d with
    | zero => intro i hi _ h; rwa [val_take_ge l i (by omega), val_take_ge m i (by omega)] at h
    | succ d ih =>
      intro i hi hki h
      refine ih (i + 1) (by omega) (by omega) ?_
      rw [val_take_succ, val_take_succ, heq i hki (by omega)]
      omega
  refine key (l.length - (k + 1)) (k + 1) (by omega) (by omega) ?_
  rw [val_take_succ, val_take_succ]
  have h1 := val_lt (hl.take k)
  rw [List.length_take, Nat.min_eq_left (by omega)] at h1
  have h2 : (dg l k).toNat + 1 ≤ (dg m k).toNat := by have := hl.dg k; have := hm.dg k; omega
  have h3 : bB ^ k * ((dg l k).toNat + 1) ≤ bB ^ k * (dg m k).toNat := Nat.mul_le_mul_left _ h2
  rw [Nat.mul_add] at h3
  omega
theorem ext_dg {l m : List Int} (hlen : l.length = m.length) (h : ∀ j, j < l.length → dg l j = dg m j) : l = m := by
  apply List.ext_getElem hlen
  intro i h1 h2
  rw [← dg_lt l i h1, ← dg_lt m i h2]
  exact h i h1
theorem val_lt_of_shorter {l m : List Int} (hl : Wf l) (hm : Wf m) (hn : Norm m) (h : l.length < m.length) : val l < val m := by
  have h1 := val_lt hl
  have h2 : m.length - 1 < (digits (val m)).length := by rw [digits_val hm hn]; omega
  have h3 := le_of_digits_length h2
  have h4 : bB ^ l.length ≤ bB ^ (m.length - 1) := Nat.pow_le_pow_right bB_pos (by omega)
  omega
theorem take_set_succ (l : List Int) (k : Nat) (x : Int) (h : k < l.length) : (l.set k x).take (k + 1) = l.take k ++ [x] := by
  rw [List.take_succ_eq_append_getElem (by simpa using h)]
  simp [List.take_set_of_le]
theorem val_set_take (l : List Int) (k : Nat) (x : Int) (h : k < l.length) : val ((l.set k x).take (k + 1)) = val (l.take k) + bB ^ k * x.toNat := by
  rw [take_set_succ l k x h, val_append, val_one, List.length_take, Nat.min_eq_left (by omega)]
theorem val_set (l : List Int) (k : Nat) (x : Int) (h : k < l.length) : val (l.set k x) + bB ^ k * (dg l k).toNat = val l + bB ^ k * x.toNat := by
  have h1 := val_split (l.set k x) (k + 1) (by rw [List.length_set]; omega)
  have h2 := val_split l (k + 1) (by omega)
  have h3 : (l.set k x).drop (k + 1) = l.drop (k + 1) := by simp [List.drop_set]
  rw [val_set_take l k x h, h3] at h1
  rw [val_take_succ] at h2
  omega
theorem val_drop (l : List Int) (k : Nat) (h : k < l.length) : val (l.drop k) = (dg l k).toNat + bB * val (l.drop (k + 1)) := by
  rw [List.drop_eq_getElem_cons h, val_cons, dg_lt l k h]
theorem val_drop_ge (l : List Int) (k : Nat) (h : l.length ≤ k) : val (l.drop k) = 0 := by rw [List.drop_of_length_le h, val_nil]
theorem drop_set_other (l : List Int) (k : Nat) (x : Int) : (l.set k x).drop (k + 1) = l.drop (k + 1) := by simp [List.drop_set]
theorem drop_set_in (l : List Int) (j t : Nat) (x : Int) : (l.set (j + t) x).drop j = (l.drop j).set t x := by
  rw [List.drop_set, if_neg (by omega), Nat.add_sub_cancel_left]
/-- a digit is stored, the rest is carried on -/
theorem carry_step (l : List Int) (k : Nat) (t : Int) (h : k < l.length) (h0 : 0 ≤ t) :
    val ((l.set k (t % 4294967296)).take (k + 1)) + bB ^ (k + 1) * (t / 4294967296).toNat = val (l.take k) + bB ^ k * t.toNat := by
  rw [val_set_take l k _ h, Nat.pow_succ, Nat.mul_assoc, Nat.add_assoc, ← Nat.mul_add]
  have : (t % 4294967296).toNat + bB * (t / 4294967296).toNat = t.toNat := by rw [bB_eq]; omega
  rw [this]
theorem carry_end (l : List Int) (k : Nat) (c : Int) (h : l.length = k + 1) (_h0 : 0 ≤ c) : val (l.set k c) = val (l.take k) + bB ^ k * c.toNat := by
  have := val_set_take l k c (by omega)
  rwa [List.take_of_length_le (by simp [h])] at this
theorem zeros_of_lt {l : List Int} (hw : Wf l) {m : Nat} (h : val l < bB ^ m) : ∀ i, m ≤ i → dg l i = 0 := by
  intro i hi
  by_cases hl : i < l.length
  · have h1 := val_split l i (by omega)
    have h2 := val_drop l i hl
    have h3 : bB ^ m ≤ bB ^ i := Nat.pow_le_pow_right bB_pos hi
    have h4 := hw.dg i
    rcases Nat.eq_zero_or_pos (dg l i).toNat with h5 | h5
    · omega
    · have h6 : bB ^ i * 1 ≤ bB ^ i * val (l.drop i) := Nat.mul_le_mul_left _ (by omega)
      omega
  · exact dg_ge l i (by omega)
theorem val_take_of_lt {l : List Int} (hw : Wf l) {m : Nat} (h : val l < bB ^ m) : val (l.take m) = val l :=
  val_take_of_zeros l m fun j h1 _ => zeros_of_lt hw h j h1
theorem val_zero_of (l : List Int) (h : ∀ i, i < l.length → dg l i = 0) : val l = 0 := by
  have := val_take_of_zeros l 0 (fun j _ h2 => h j h2)
  simpa [val_nil] using this.symm
theorem take_congr_dg {l m : List Int} (k : Nat) (hl : k ≤ l.length) (hm : k ≤ m.length) (h : ∀ i, i < k → dg l i = dg m i) : l.take k = m.take k := by
  apply ext_dg
  · rw [List.length_take, List.length_take]; omega
  · intro i hi
    rw [List.length_take] at hi
    rw [dg_take _ _ _ (by omega), dg_take _ _ _ (by omega)]
    exact h i (by omega)
theorem take_append_one (l : List Int) (x : Int) : (l ++ [x]).take (l.length + 1) = l ++ [x] := by
  rw [List.take_of_length_le (by simp)]
/-- The length in front of the zeros at the end. -/
def clen (l : List Int) : Nat := (digits (val l)).length
theorem clen_le {l : List Int} (h : Wf l) : clen l ≤ l.length := digits_length_val h
theorem clen_eq {l : List Int} (hw : Wf l) {m : Nat} (hm : m ≤ l.length) (h : ∀ j, m ≤ j → j < l.length → dg l j = 0) (h1 : m = 0 ∨ dg l (m - 1) ≠ 0) : m = clen l := by
  unfold clen
  rw [digits_take hw hm h h1, List.length_take]
  omega
/-- The canonical list is the beginning of the list. -/
theorem digits_is_take {l : List Int} (hw : Wf l) : digits (val l) = l.take (clen l) := by
  have key : ∀ d m, m + d = l.length → (∀ j, l.length - d ≤ j → j < l.length → dg l j = 0) → ∃ m', m' ≤ l.length ∧ (∀ j, m' ≤ j → j < l.length → dg l j = 0) ∧ (m' = 0 ∨ dg l (m' - 1) ≠ 0) := by
    intro d m
    induction m generalizing d with
    | zero => intro h hz; exact ⟨0, Nat.zero_le _, fun j _ hj => hz j (by omega) hj, .inl rfl⟩
    | succ m ih =>
      intro h hz
      by_cases h0 : dg l m = 0
      · refine ih (d + 1) (by omega) fun j hj hl => ?_
        by_cases hjm : j = m
        · subst hjm; exact h0
        · exact hz j (by omega) hl
      · exact ⟨m + 1, by omega, fun j hj hl => hz j (by omega) hl, .inr (by simpa using h0)⟩
  obtain ⟨m, h1, h2, h3⟩ := key 0 l.length (by omega) (fun j hj hl => by omega)
  rw [← clen_eq hw h1 h2 h3]
  exact digits_take hw h1 h2 h3
theorem digits_take' {l : List Int} (hw : Wf l) : digits (val l) = l.take (digits (val l)).length := digits_is_take hw
end Go.Proofs.YtckiojofncdoeaaGreatDoor
