/- Decimal digits as bytes. Pure. -/
import Derived.Laws.Strings
import Derived.Lib.PathFns
namespace Go.Proofs.YtckiojofncdoeaaGreatDoor

def dec (l : List UInt8) : Nat := l.foldl (fun v c => 10 * v + (c.toNat - 48)) 0
def AllDig (l : List UInt8) : Prop := ∀ c ∈ l, 48 ≤ c.toNat ∧ c.toNat ≤ 57
theorem dec_nil : dec [] = 0 := rfl
theorem dec_foldl (l : List UInt8) : ∀ v : Nat, l.foldl (fun v c => 10 * v + (c.toNat - 48)) v = v * 10 ^ l.length + dec l := by
  induction l with
  | nil => intro v; simp [dec]
  | cons c l ih =>
    intro v
    have h1 := ih (10 * v + (c.toNat - 48))
    have h2 := ih (10 * 0 + (c.toNat - 48))
    simp only [List.foldl_cons, dec, List.length_cons] at *
    rw [h1, h2, Nat.pow_succ]
    generalize 10 ^ l.length = P
    grind
theorem dec_append (l m : List UInt8) : dec (l ++ m) = dec l * 10 ^ m.length + dec m := by
  unfold dec
  rw [List.foldl_append, dec_foldl]
  rfl
theorem dec_one (c : UInt8) : dec [c] = c.toNat - 48 := by simp [dec]
theorem dec_take_succ (l : List UInt8) (k : Nat) (h : k < l.length) : dec (l.take (k + 1)) = dec (l.take k) * 10 + ((l[k]).toNat - 48) := by
  rw [List.take_succ_eq_append_getElem h, dec_append, dec_one]
  simp
theorem dec_split (l : List UInt8) (k : Nat) : dec l = dec (l.take k) * 10 ^ (l.drop k).length + dec (l.drop k) := by
  rw [← dec_append, List.take_append_drop]
theorem AllDig.take {l : List UInt8} (h : AllDig l) (k : Nat) : AllDig (l.take k) := fun c hc => h c (List.mem_of_mem_take hc)
theorem AllDig.drop {l : List UInt8} (h : AllDig l) (k : Nat) : AllDig (l.drop k) := fun c hc => h c (List.mem_of_mem_drop hc)
theorem AllDig.at_ {l : List UInt8} (h : AllDig l) (k : Nat) (hk : k < l.length) : 48 ≤ (l[k]).toNat ∧ (l[k]).toNat ≤ 57 := h _ (List.getElem_mem hk)
theorem dec_lt {l : List UInt8} (h : AllDig l) : dec l < 10 ^ l.length := by
  have key : ∀ n (l : List UInt8), l.length = n → AllDig l → dec l < 10 ^ n := by
    intro n
    induction n with
    | zero => intro l hl _; rw [List.eq_nil_of_length_eq_zero hl]; decide
    | succ n ih =>
      intro l hl h
      have h1 := ih (l.take n) (by rw [List.length_take]; omega) (h.take n)
      have h2 := dec_take_succ l n (by omega)
      rw [List.take_of_length_le (by omega)] at h2
      have h3 := h.at_ n (by omega)
      rw [h2, Nat.pow_succ]
      generalize dec (l.take n) = D at *
      omega
  exact key _ l rfl h
theorem byte_at (T : ByteArray) (i : Nat) (h : i < T.size) : T[i] = T.data.toList[i]'(by simpa using h) := by
  rw [Array.getElem_toList]
  rfl
theorem drop_bytes (T : ByteArray) (k : Nat) : (T.extract k T.size).data.toList = T.data.toList.drop k := by
  rw [Lib.extract_data, List.take_of_length_le]
  rw [List.length_drop, Array.length_toList]
  exact Nat.le_refl _
theorem bytes_size (T : ByteArray) : T.data.toList.length = T.size := by rw [Array.length_toList]; rfl
theorem bytes_nil {T : ByteArray} (h : T.size = 0) : T.data.toList = [] := List.eq_nil_of_length_eq_zero (by rw [bytes_size]; exact h)
end Go.Proofs.YtckiojofncdoeaaGreatDoor
