/- integer: Add. -/
import Derived.Test.YtckiojofncdoeaaGreatDoorIntB
import Derived.Test.YtckiojofncdoeaaGreatDoorMathR
namespace Go.Proofs.YtckiojofncdoeaaGreatDoor
open Go.RowKit

theorem sg_add_same (s : Bool) (a b : Nat) : decide (sg s a + sg s b < 0) = (s && decide (0 < a + b)) ∧ (sg s a + sg s b).natAbs = a + b := by
  cases s
  · simp [sg]; omega
  · simp [sg]; omega
theorem sg_add_lt {s t : Bool} (h : (s == t) = false) {a b : Nat} (hab : a < b) : decide (sg s a + sg t b < 0) = (t && decide (0 < b - a)) ∧ (sg s a + sg t b).natAbs = b - a := by
  cases s <;> cases t
  · cases h
  · simp [sg]; omega
  · simp [sg]; omega
  · cases h
theorem sg_add_ge {s t : Bool} (h : (s == t) = false) {a b : Nat} (hab : b ≤ a) : decide (sg s a + sg t b < 0) = (s && decide (0 < a - b)) ∧ (sg s a + sg t b).natAbs = a - b := by
  cases s <;> cases t
  · cases h
  · simp [sg]; omega
  · simp [sg]; omega
  · cases h

theorem iadd_any (w : World) (s t : Bool) (A B : Option Addr) (n cap m cap' : Nat) (l r : List Int) (hl : l.length = n) (hc : n ≤ cap) (hs : n ≤ 1073741824) (h : RU w A l)
    (hr : r.length = m) (hc' : m ≤ cap') (hs' : m ≤ 1073741824) (h' : RU w B r) :
    Calls Tryz.prog 60 #[.agg #[.bool s, .slice A n cap], .agg #[.bool t, .slice B m cap']] w fun e w' =>
      ∃ v, e = .returned (.agg #[.bool (decide (sg s (val l) + sg t (val r) < 0)), v]) ∧ Below w.heap.size w w' ∧ OwnU w.heap.size w' v (digits (sg s (val l) + sg t (val r)).natAbs) := by
  have Hl := Lib.hid hl; clear hl
  have Hh := Lib.hid h; clear h
  have Hr := Lib.hid hr; clear hr
  have Hh' := Lib.hid h'; clear h'
  obtain ⟨b0, hb0⟩ : ∃ b0 : Bool, b0 = (s == t) := ⟨_, rfl⟩
  go_enter Tryz.func60, Tryz.ntmps60
  have Hw := Lib.hid (bthree (w := w) (.cells #[.bool s, .slice A n cap] 29) (.cells #[.bool t, .slice B m cap'] 29) (.cells #[.bool false, .slice none 0 0] 29))
  have Hp := Lib.hid (push3 w (.cells #[.bool s, .slice A n cap] 29) (.cells #[.bool t, .slice B m cap'] 29) (.cells #[.bool false, .slice none 0 0] 29))
  cases b0
  · have hst := hb0.symm; clear hb0
    go_wp2_with fail
    generalize ((w.alloc (.cells #[.bool s, .slice A n cap] 29)).alloc (.cells #[.bool t, .slice B m cap'] 29)).alloc (.cells #[.bool false, .slice none 0 0] 29) = W at *
    have hB : w.heap.size + 1 + 1 ≤ W.heap.size := by rw [Hp.out.2.2.2]; omega
    have hB1 : w.heap.size + 1 + 1 < W.heap.size := by rw [Hp.out.2.2.2]; omega
    refine (compare_any _ A B n cap m cap' l r Hl.out hc (by omega) (Hh.out.ext Hw.out) Hr.out hc' (by omega) (Hh'.out.ext Hw.out)).mono ?_
    rintro e w5 ⟨rfl, hq⟩
    have Hb5 := Lib.hid (Drew.below hq)
    have Hb0 := Lib.hid (bnext (Drew.below hq) (Drew.below (Drew.refl w5).step1))
    obtain ⟨c1, c2, c3, c4⟩ := cells22 (Below.le Hb5.out hB) (by omega) (by omega) Hp.out.1 Hp.out.2.1
    clear hq
    rcases Nat.lt_or_ge (val l) (val r) with hlt | hge
    · rw [cmpN_lt hlt]
      have Hz := Lib.hid (sg_add_lt hst hlt).1
      have Hm := Lib.hid (sg_add_lt hst hlt).2
      clear hlt hst
      go_wp2
      go_region_held3 (fun w' => w'.cell? ⟨w.heap.size, 0, none⟩ = some (.bool s) ∧ w'.cell? ⟨w.heap.size, 1, none⟩ = some (.slice A n cap) ∧ w'.cell? ⟨w.heap.size + 1, 0, none⟩ = some (.bool t) ∧ w'.cell? ⟨w.heap.size + 1, 1, none⟩ = some (.slice B m cap'))
        (first
          | exact cells22 (Below.le Hb0.out hB) (by omega) (by omega) Hp.out.1 Hp.out.2.1
          | exact cells22 (Below.le Hb6.out hB) (by omega) (by omega) Hp.out.1 Hp.out.2.1
          | exact cells22 (Below.le Hb7.out hB) (by omega) (by omega) Hp.out.1 Hp.out.2.1
          | exact cells22 (((Below.le Hb7.out hB).setCell (Nat.le_refl _) _).setCell (Nat.le_refl _) _) (by omega) (by omega) Hp.out.1 Hp.out.2.1)
        (first
        | (go_at_call 92; refine (sub_any _ B A m cap' n cap r l Hr.out hc' (by omega) (Hh'.out.ext (bnext Hw.out Hb0.out)) Hl.out hc (by omega) (Hh.out.ext (bnext Hw.out Hb0.out))).mono ?_; rintro e w6 ⟨v6, rfl, hb6, ho6⟩; obtain ⟨A6, c6, rfl, hc6, _⟩ := ho6.rv; have Hb6 := Lib.hid (bnext Hb0.out hb6); have Ho6 := Lib.hid ho6; clear hb6 ho6)
        | (go_at_call 87; refine (signed_any' _ _ A6 (digits (val r - val l)).length c6).mono ?_; rintro e w7 ⟨b7, rfl, hbb, hb7⟩; have Ho7 := Lib.hid (Ho6.out.ext hb7); have Hb7 := Lib.hid (bnext Hb6.out hb7); clear hb7 Ho6;
            obtain ⟨k1, k3⟩ := cells2 Hb7.out hB1 Hp.out.2.2.1; have k2 := thaw' Hb7.out hB1 Hp.out.2.2.1 0; have k4 := thaw' Hb7.out hB1 Hp.out.2.2.1 1))
      all_goals go_wp2
      all_goals (refine bodyPost_ret (v := .agg #[.bool b7, .slice A6 (digits (val r - val l)).length c6]) ?_ rfl ⟨.slice A6 (digits (val r - val l)).length c6, ?_, ?_, ?_⟩)
      all_goals first
        | (rw [results_cell1 rfl]; simp [go_sem, asAddr, Result.andThen, k1, k3]; done)
        | (rw [hbb.out, pos_len, Hz.out]; done)
        | exact ((bnext Hw.out Hb7.out).setCell (Nat.le_trans (Nat.le_succ _) (Nat.le_succ _)) _).setCell (Nat.le_trans (Nat.le_succ _) (Nat.le_succ _)) _
        | (rw [Hm.out]; exact ((Ho7.out.setBelow (by show w.heap.size + 1 + 1 < _; exact Nat.lt_of_lt_of_le hB1 Hb0.out.size) _).setBelow (by show w.heap.size + 1 + 1 < _; exact Nat.lt_of_lt_of_le hB1 Hb0.out.size) _).mono (bnext Hw.out Hb0.out).size)
    · have Hz := Lib.hid (sg_add_ge hst hge).1
      have Hm := Lib.hid (sg_add_ge hst hge).2
      have hne : (cmpN (val l) (val r) == -1) = false := by
        unfold cmpN
        rw [if_neg (by omega)]
        split <;> rfl
      generalize cmpN (val l) (val r) = cm at *
      clear hge hst
      go_wp2
      go_region_held3 (fun w' => w'.cell? ⟨w.heap.size, 0, none⟩ = some (.bool s) ∧ w'.cell? ⟨w.heap.size, 1, none⟩ = some (.slice A n cap) ∧ w'.cell? ⟨w.heap.size + 1, 0, none⟩ = some (.bool t) ∧ w'.cell? ⟨w.heap.size + 1, 1, none⟩ = some (.slice B m cap'))
        (first
          | exact cells22 (Below.le Hb0.out hB) (by omega) (by omega) Hp.out.1 Hp.out.2.1
          | exact cells22 (Below.le Hb6.out hB) (by omega) (by omega) Hp.out.1 Hp.out.2.1
          | exact cells22 (Below.le Hb7.out hB) (by omega) (by omega) Hp.out.1 Hp.out.2.1
          | exact cells22 (((Below.le Hb7.out hB).setCell (Nat.le_refl _) _).setCell (Nat.le_refl _) _) (by omega) (by omega) Hp.out.1 Hp.out.2.1)
        (first
        | (go_at_call 92; refine (sub_any _ A B n cap m cap' l r Hl.out hc (by omega) (Hh.out.ext (bnext Hw.out Hb0.out)) Hr.out hc' (by omega) (Hh'.out.ext (bnext Hw.out Hb0.out))).mono ?_; rintro e w6 ⟨v6, rfl, hb6, ho6⟩; obtain ⟨A6, c6, rfl, hc6, _⟩ := ho6.rv; have Hb6 := Lib.hid (bnext Hb0.out hb6); have Ho6 := Lib.hid ho6; clear hb6 ho6)
        | (go_at_call 87; refine (signed_any' _ _ A6 (digits (val l - val r)).length c6).mono ?_; rintro e w7 ⟨b7, rfl, hbb, hb7⟩; have Ho7 := Lib.hid (Ho6.out.ext hb7); have Hb7 := Lib.hid (bnext Hb6.out hb7); clear hb7 Ho6;
            obtain ⟨k1, k3⟩ := cells2 Hb7.out hB1 Hp.out.2.2.1; have k2 := thaw' Hb7.out hB1 Hp.out.2.2.1 0; have k4 := thaw' Hb7.out hB1 Hp.out.2.2.1 1))
      all_goals go_wp2
      all_goals (refine bodyPost_ret (v := .agg #[.bool b7, .slice A6 (digits (val l - val r)).length c6]) ?_ rfl ⟨.slice A6 (digits (val l - val r)).length c6, ?_, ?_, ?_⟩)
      all_goals first
        | (rw [results_cell1 rfl]; simp [go_sem, asAddr, Result.andThen, k1, k3]; done)
        | (rw [hbb.out, pos_len, Hz.out]; done)
        | exact ((bnext Hw.out Hb7.out).setCell (Nat.le_trans (Nat.le_succ _) (Nat.le_succ _)) _).setCell (Nat.le_trans (Nat.le_succ _) (Nat.le_succ _)) _
        | (rw [Hm.out]; exact ((Ho7.out.setBelow (by show w.heap.size + 1 + 1 < _; exact Nat.lt_of_lt_of_le hB1 Hb0.out.size) _).setBelow (by show w.heap.size + 1 + 1 < _; exact Nat.lt_of_lt_of_le hB1 Hb0.out.size) _).mono (bnext Hw.out Hb0.out).size)
  · have hst := hb0.symm; clear hb0
    have e1 : s = t := by simpa using hst
    subst e1
    go_wp2
    generalize ((w.alloc (.cells #[.bool s, .slice A n cap] 29)).alloc (.cells #[.bool s, .slice B m cap'] 29)).alloc (.cells #[.bool false, .slice none 0 0] 29) = W at *
    have hB : w.heap.size + 1 + 1 ≤ W.heap.size := by rw [Hp.out.2.2.2]; omega
    have hB1 : w.heap.size + 1 + 1 < W.heap.size := by rw [Hp.out.2.2.2]; omega
    have Hb0 := Lib.hid (Drew.below (Drew.refl W).step1)
    have Hz := Lib.hid (sg_add_same s (val l) (val r)).1
    have Hm := Lib.hid (sg_add_same s (val l) (val r)).2
    go_region_held3 (fun w' => w'.cell? ⟨w.heap.size, 0, none⟩ = some (.bool s) ∧ w'.cell? ⟨w.heap.size, 1, none⟩ = some (.slice A n cap) ∧ w'.cell? ⟨w.heap.size + 1, 0, none⟩ = some (.bool s) ∧ w'.cell? ⟨w.heap.size + 1, 1, none⟩ = some (.slice B m cap'))
      (first
        | exact cells22 (Below.le Hb0.out hB) (by omega) (by omega) Hp.out.1 Hp.out.2.1
        | exact cells22 (Below.le Hb6.out hB) (by omega) (by omega) Hp.out.1 Hp.out.2.1
        | exact cells22 (Below.le Hb7.out hB) (by omega) (by omega) Hp.out.1 Hp.out.2.1
        | exact cells22 (((Below.le Hb7.out hB).setCell (Nat.le_refl _) _).setCell (Nat.le_refl _) _) (by omega) (by omega) Hp.out.1 Hp.out.2.1)
      (first
      | (go_at_call 91; refine (add_any _ A B n cap m cap' l r Hl.out hc (by omega) (Hh.out.ext (bnext Hw.out Hb0.out)) Hr.out hc' (by omega) (Hh'.out.ext (bnext Hw.out Hb0.out))).mono ?_; rintro e w6 ⟨v6, rfl, hb6, ho6⟩; obtain ⟨A6, c6, rfl, hc6, _⟩ := ho6.rv; have Hb6 := Lib.hid (bnext Hb0.out hb6); have Ho6 := Lib.hid ho6; clear hb6 ho6)
      | (go_at_call 87; refine (signed_any' _ _ A6 (digits (val l + val r)).length c6).mono ?_; rintro e w7 ⟨b7, rfl, hbb, hb7⟩; have Ho7 := Lib.hid (Ho6.out.ext hb7); have Hb7 := Lib.hid (bnext Hb6.out hb7); clear hb7 Ho6;
          obtain ⟨k1, k3⟩ := cells2 Hb7.out hB1 Hp.out.2.2.1; have k2 := thaw' Hb7.out hB1 Hp.out.2.2.1 0; have k4 := thaw' Hb7.out hB1 Hp.out.2.2.1 1))
    all_goals go_wp2
    all_goals (refine bodyPost_ret (v := .agg #[.bool b7, .slice A6 (digits (val l + val r)).length c6]) ?_ rfl ⟨.slice A6 (digits (val l + val r)).length c6, ?_, ?_, ?_⟩)
    all_goals first
      | (rw [results_cell1 rfl]; simp [go_sem, asAddr, Result.andThen, k1, k3]; done)
      | (rw [hbb.out, pos_len, Hz.out]; done)
      | exact ((bnext Hw.out Hb7.out).setCell (Nat.le_trans (Nat.le_succ _) (Nat.le_succ _)) _).setCell (Nat.le_trans (Nat.le_succ _) (Nat.le_succ _)) _
      | (rw [Hm.out]; exact ((Ho7.out.setBelow (by show w.heap.size + 1 + 1 < _; exact Nat.lt_of_lt_of_le hB1 Hb0.out.size) _).setBelow (by show w.heap.size + 1 + 1 < _; exact Nat.lt_of_lt_of_le hB1 Hb0.out.size) _).mono (bnext Hw.out Hb0.out).size)
end Go.Proofs.YtckiojofncdoeaaGreatDoor
