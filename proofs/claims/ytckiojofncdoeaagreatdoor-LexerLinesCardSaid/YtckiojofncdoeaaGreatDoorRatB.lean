/- rational: lowest. -/
import Derived.Test.YtckiojofncdoeaaGreatDoorRatA
namespace Go.Proofs.YtckiojofncdoeaaGreatDoor
open Go.RowKit

theorem push2 (w : World) (o1 o2 : Obj) : ((w.alloc o1).alloc o2).heap[w.heap.size]? = some o1 ∧ ((w.alloc o1).alloc o2).heap[w.heap.size + 1]? = some o2 ∧ ((w.alloc o1).alloc o2).heap.size = w.heap.size + 1 + 1 :=
  ⟨alloc_at1 w o1 o2, alloc_at2 w o1 o2, by simp⟩
theorem cells3 {W w : World} {B g : Nat} {a b c : Value} {t : TypeId} (hb : Below B W w) (hg : g < B) (h : W.heap[g]? = some (.cells #[a, b, c] t (0, 0))) :
    w.cell? ⟨g, 0, none⟩ = some a ∧ w.cell? ⟨g, 1, none⟩ = some b ∧ w.cell? ⟨g, 2, none⟩ = some c := by
  have h1 : w.heap[g]? = _ := (hb.block g hg).trans h
  exact ⟨(cell_at h1 0 _ rfl).1, (cell_at h1 1 _ rfl).1, (cell_at h1 2 _ rfl).1⟩
theorem RatO.of {base : Nat} {w : World} {q : Rat} {b : Bool} {x y : Value} {n d : Nat} (h : decide (q.num < 0) = b ∧ q.num.natAbs = n ∧ q.den = d) (hx : OwnU base w x (digits n)) (hy : OwnU base w y (digits d)) : RatO base w (.agg #[.bool b, x, y]) q := by
  obtain ⟨rfl, rfl, rfl⟩ := h
  exact ⟨x, y, rfl, hx, hy⟩
theorem wf_nil_ru (w : World) : RU w none [] := ⟨Wf.nil, fun h => absurd h (by simp)⟩

theorem lowest_any (w : World) (s : Bool) (A B : Option Addr) (n cap m cap' : Nat) (l r : List Int) (hl : l.length = n) (hc : n ≤ cap) (hs : n ≤ 1073741824) (h : RU w A l)
    (hr : r.length = m) (hc' : m ≤ cap') (hs' : m ≤ 1073741824) (h' : RU w B r) (hQ : val r ≠ 0) :
    Calls Tryz.prog 59 #[.agg #[.bool s, .slice A n cap, .slice B m cap']] w fun e w' =>
      ∃ v, e = .returned v ∧ Below w.heap.size w w' ∧ RatO w.heap.size w' v (fr s (val l) (val r)) := by
  have hQp : 0 < val r := by omega
  have Hf1 := Lib.hid (fun h => fr_whole (s := s) (P := val l) hQ h)
  have Hf2 := Lib.hid (fun (g : Nat) h => fr_low (s := s) (P := val l) (g := g) hQ h)
  have hmodl : (digits (val l % val r)).length ≤ m := by
    have h1 := digits_length_mono (Nat.le_of_lt (Nat.mod_lt (val l) hQp))
    have h2 := digits_length_val h'.wf
    omega
  have hdivl : (digits (val l / val r)).length ≤ n := by
    have h1 := digits_length_mono (Nat.div_le_self (val l) (val r))
    have h2 := digits_length_val h.wf
    omega
  have hgl : (digits (Nat.gcd (val r) (val l % val r))).length ≤ m := by
    have h1 := digits_length_mono (Nat.gcd_le_left (val l % val r) hQp)
    have h2 := digits_length_val h'.wf
    omega
  obtain ⟨P, hP⟩ : ∃ P, P = val l := ⟨_, rfl⟩
  obtain ⟨Q, hQe⟩ : ∃ Q, Q = val r := ⟨_, rfl⟩
  rw [← hP, ← hQe] at Hf1 Hf2 hmodl hdivl hgl ⊢
  rw [← hQe] at hQ hQp
  have EP := Lib.hid hP; have EQ := Lib.hid hQe; clear hP hQe
  have Hl := Lib.hid hl; clear hl
  have Hh := Lib.hid h; clear h
  have Hr := Lib.hid hr; clear hr
  have Hh' := Lib.hid h'; clear h'
  have HQp := Lib.hid hQp
  clear hQ hQp
  go_enter Tryz.func59, Tryz.ntmps59
  go_wp2_with fail
  have Hw := Lib.hid (btwo (w := w) (.cells #[.bool s, .slice A n cap, .slice B m cap'] 77) (.cells #[.bool false, .slice none 0 0, .slice none 0 0] 31))
  have Hp := Lib.hid (push2 w (.cells #[.bool s, .slice A n cap, .slice B m cap'] 77) (.cells #[.bool false, .slice none 0 0, .slice none 0 0] 31))
  generalize ((w.alloc (.cells #[.bool s, .slice A n cap, .slice B m cap'] 77)).alloc (.cells #[.bool false, .slice none 0 0, .slice none 0 0] 31)) = W at *
  have hB0 : w.heap.size < W.heap.size := by rw [Hp.out.2.2]; omega
  have hB1 : w.heap.size + 1 < W.heap.size := by rw [Hp.out.2.2]; omega
  have hB : w.heap.size + 1 ≤ W.heap.size := by omega
  refine (divmod_any W A B n cap m cap' l r Hl.out hc hs (Hh.out.ext Hw.out) Hr.out hc' hs' (Hh'.out.ext Hw.out)).mono ?_
  rintro e w1 ⟨hb1, ⟨h0, _⟩ | ⟨_, q, r1, rfl, ho1, ho2⟩⟩
  · exact absurd h0 (by rw [← EQ.out]; have := HQp.out; omega)
  rw [← EP.out, ← EQ.out] at ho1 ho2
  obtain ⟨A1, c1, rfl, hc1, _⟩ := ho1.rv
  obtain ⟨A2, c2, rfl, hc2, _⟩ := ho2.rv
  have Hb1 := Lib.hid hb1; have Ho1 := Lib.hid ho1; have Ho2 := Lib.hid ho2; clear hb1 ho1 ho2
  obtain ⟨a1, a2, a3⟩ := cells3 Hb1.out hB0 Hp.out.1
  by_cases hz : P % Q = 0
  · have hz0 : (digits (P % Q)).length = 0 := (digits_nil_iff _).2 hz
    have Hf := Lib.hid (Hf1.out hz)
    generalize digits (P % Q) = dm at *
    rw [hz0] at hc2 ⊢
    clear hz hz0 hmodl Ho2
    go_wp2_with fail
    refine (itrim_any w1 s A1 _ c1 (digits (P / Q)) rfl hc1 (by omega) Ho1.out.ru).mono ?_
    rintro e w2 ⟨v2, rfl, hb2, ho2⟩
    rw [val_digits] at ho2 ⊢
    obtain ⟨A3, c3, rfl, hc3, _⟩ := ho2.rv
    have Hb2 := Lib.hid (bnext Hb1.out hb2); have Ho3 := Lib.hid ho2; clear hb2 ho2
    generalize (s && decide (0 < P / Q)) = b1 at *
    go_wp2_with fail
    refine (whole_any w2 b1 A3 _ c3).mono ?_
    rintro e w3 ⟨g3, rfl, hb3, ho3⟩
    rw [show [(1 : Int)] = digits 1 from (digits_one (by decide) (by decide)).symm] at ho3
    have Hb3 := Lib.hid (bnext Hb2.out hb3); have Ho4 := Lib.hid (Ho3.out.ext hb3); have Ho5 := Lib.hid ho3
    have hle1 : w.heap.size + 1 < w2.heap.size := Nat.lt_of_lt_of_le hB1 Hb2.out.size
    have hle2 : w.heap.size + 1 < w1.heap.size := Nat.lt_of_lt_of_le hB1 Hb1.out.size
    obtain ⟨k1, k2, k3⟩ := cells3 Hb3.out hB1 Hp.out.2.1
    have k4 := thaw' Hb3.out hB1 Hp.out.2.1 0; have k5 := thaw' Hb3.out hB1 Hp.out.2.1 1; have k6 := thaw' Hb3.out hB1 Hp.out.2.1 2
    clear hb3 ho3 Ho3
    go_wp2
    refine bodyPost_ret (v := .agg #[.bool b1, .slice A3 (digits (P / Q)).length c3, .slice (some ⟨g3, 0, none⟩) 1 1]) ?_ rfl ⟨_, rfl, ?_, ?_⟩
    · rw [results_cell1 rfl]; simp [go_sem, asAddr, Result.andThen, k1, k2, k3]
    · exact bset3 (bnext Hw.out Hb3.out) (Nat.le_succ _) _ _ _
    · refine RatO.of Hf.out ?_ ?_
      · exact (Ho4.out.set3 hle2 _ _ _).mono (Nat.le_of_lt (Nat.lt_of_succ_lt hle2))
      · exact (Ho5.out.set3 hle1 _ _ _).mono (Nat.le_of_lt (Nat.lt_of_succ_lt hle1))
  · have hz0 : 0 < (digits (P % Q)).length := by
      rcases Nat.eq_zero_or_pos (digits (P % Q)).length with h | h
      · exact absurd ((digits_nil_iff _).1 h) hz
      · exact h
    have hzb : (((digits (P % Q)).length : Int) == 0) = false := by rw [beq_eq_false_iff_ne]; omega
    go_wp2_with fail
    refine (gcd_any w1 B A2 m cap' _ c2 r (digits (P % Q)) Hr.out hc' hs' (Hh'.out.ext (bnext Hw.out Hb1.out)) rfl hc2 (by omega) Ho2.out.ru).mono ?_
    rintro e w2 ⟨v2, rfl, hb2, ho2⟩
    rw [val_digits, ← EQ.out] at ho2
    have hg0 : 0 < Nat.gcd Q (P % Q) := Nat.gcd_pos_of_pos_left _ HQp.out
    have Hf := Lib.hid (Hf2.out _ rfl)
    have hgP : P ≠ 0 := fun h => hz (by rw [h, Nat.zero_mod])
    generalize Nat.gcd Q (P % Q) = g at *
    obtain ⟨A3, c3, rfl, hc3, _⟩ := ho2.rv
    have Hb2 := Lib.hid (bnext Hb1.out hb2); have Ho3 := Lib.hid ho2; clear hb2 ho2
    obtain ⟨b1, b2, b3⟩ := cells3 Hb2.out hB0 Hp.out.1
    clear Hf1 Hf2 hzb hz0 hz
    go_wp2_with fail
    refine (isOne_any w2 A3 c3 g Ho3.out.ru).mono ?_
    rintro e w3 ⟨rfl, hb3⟩
    have Hb3 := Lib.hid (bnext Hb2.out hb3); have Ho4 := Lib.hid (Ho3.out.ext hb3); clear hb3
    obtain ⟨d1, d2, d3⟩ := cells3 Hb3.out hB0 Hp.out.1
    by_cases hg : g = 1
    · rw [decide_eq_true hg]
      rw [hg, Nat.div_one, Nat.div_one] at Hf
      clear hg
      have hle0 : w.heap.size + 1 ≤ W.heap.size := hB
      have Hb4 := Lib.hid (bnext Hb3.out (Drew.below (Drew.refl w3).step1))
      go_wp2
      go_region_held3 (fun w' => w'.cell? ⟨w.heap.size, 0, none⟩ = some (.bool s) ∧ w'.cell? ⟨w.heap.size, 1, none⟩ = some (.slice A n cap) ∧ w'.cell? ⟨w.heap.size, 2, none⟩ = some (.slice B m cap'))
        (first
          | exact cells3 (Below.le Hb4.out hB) (Nat.lt_succ_self _) Hp.out.1
          | exact cells3 (Below.le Hb5.out hB) (Nat.lt_succ_self _) Hp.out.1
          | exact cells3 (Below.le Hb6.out hB) (Nat.lt_succ_self _) Hp.out.1
          | exact cells3 (bset3 (Below.le Hb6.out hB) (Nat.le_refl _) _ _ _) (Nat.lt_succ_self _) Hp.out.1)
        (first
        | (go_at_call 89; refine (itrim_any _ s A n cap l Hl.out hc (by omega) (Hh.out.ext (bnext Hw.out Hb4.out))).mono ?_; rintro e w5 ⟨v5, rfl, hb5, ho5⟩; rw [← EP.out] at ho5; rw [← EP.out]; obtain ⟨A5, c5, rfl, hc5, _⟩ := ho5.rv; have Hb5 := Lib.hid (bnext Hb4.out hb5); have Ho5 := Lib.hid ho5; clear hb5 ho5)
        | (go_at_call 69; refine (trim_any _ B m cap' r Hr.out hc' (by omega) (Hh'.out.ext (bnext Hw.out Hb5.out))).mono ?_; rintro e w6 ⟨v6, rfl, hb6, ho6⟩; rw [← EQ.out] at ho6; obtain ⟨A6, c6, rfl, hc6, _⟩ := ho6.rv; have Hb6 := Lib.hid (bnext Hb5.out hb6); have Ho6 := Lib.hid ho6; have Ho7 := Lib.hid (Ho5.out.ext hb6); clear hb6 ho6 Ho5;
            obtain ⟨k1, k2, k3⟩ := cells3 Hb6.out hB1 Hp.out.2.1; have k4 := thaw' Hb6.out hB1 Hp.out.2.1 0; have k5 := thaw' Hb6.out hB1 Hp.out.2.1 1; have k6 := thaw' Hb6.out hB1 Hp.out.2.1 2))
      all_goals go_wp2
      all_goals (refine bodyPost_ret (v := .agg #[.bool (s && decide (0 < P)), .slice A5 (digits P).length c5, .slice A6 (digits Q).length c6]) ?_ rfl ⟨_, rfl, ?_, ?_⟩)
      all_goals first
        | (rw [results_cell1 rfl]; simp [go_sem, asAddr, Result.andThen, k1, k2, k3]; done)
        | exact bset3 (bnext Hw.out Hb6.out) (Nat.le_succ _) _ _ _
        | (refine RatO.of Hf.out ((Ho7.out.set3 ?_ _ _ _).mono ?_) ((Ho6.out.set3 ?_ _ _ _).mono ?_)
           · exact Nat.lt_of_lt_of_le hB1 Hb4.out.size
           · exact Nat.le_trans (Nat.le_of_lt hB0) Hb4.out.size
           · exact Nat.lt_of_lt_of_le hB1 Hb5.out.size
           · exact Nat.le_trans (Nat.le_of_lt hB0) Hb5.out.size)
    · rw [decide_eq_false hg]
      have hgQ : 0 < g := hg0
      go_wp2_with fail
      refine (divmod_any w3 A A3 n cap _ c3 l (digits g) Hl.out hc hs (Hh.out.ext (bnext Hw.out Hb3.out)) rfl hc3 (by omega) Ho4.out.ru).mono ?_
      rintro e w4 ⟨hb4, ⟨h0, _⟩ | ⟨_, q4, r4, rfl, ho4, _⟩⟩
      · exact absurd h0 (by rw [val_digits]; omega)
      rw [← EP.out, val_digits] at ho4
      obtain ⟨A4, c4, rfl, hc4, _⟩ := ho4.rv
      have Hb4 := Lib.hid (bnext Hb3.out hb4); have Ho5 := Lib.hid (Ho4.out.ext hb4); have Ho6 := Lib.hid ho4; clear hb4 ho4 Ho4
      obtain ⟨e1, e2, e3⟩ := cells3 Hb4.out hB0 Hp.out.1
      go_wp2_with fail
      refine (divmod_any w4 B A3 m cap' _ c3 r (digits g) Hr.out hc' hs' (Hh'.out.ext (bnext Hw.out Hb4.out)) rfl hc3 (by omega) Ho5.out.ru).mono ?_
      rintro e w5 ⟨hb5, ⟨h0, _⟩ | ⟨_, q5, r5, rfl, ho5, _⟩⟩
      · exact absurd h0 (by rw [val_digits]; omega)
      rw [← EQ.out, val_digits] at ho5
      obtain ⟨A5, c5, rfl, hc5, _⟩ := ho5.rv
      have Hb5 := Lib.hid (bnext Hb4.out hb5); have Ho7 := Lib.hid (Ho6.out.ext hb5); have Ho8 := Lib.hid ho5; clear hb5 ho5 Ho6
      obtain ⟨f1, f2, f3⟩ := cells3 Hb5.out hB0 Hp.out.1
      obtain ⟨k1, k2, k3⟩ := cells3 Hb5.out hB1 Hp.out.2.1
      have k4 := thaw' Hb5.out hB1 Hp.out.2.1 0; have k5 := thaw' Hb5.out hB1 Hp.out.2.1 1; have k6 := thaw' Hb5.out hB1 Hp.out.2.1 2
      go_wp2
      all_goals (refine bodyPost_ret (v := .agg #[.bool s, .slice A4 (digits (P / g)).length c4, .slice A5 (digits (Q / g)).length c5]) ?_ rfl ⟨_, rfl, ?_, ?_⟩)
      all_goals first
        | (rw [results_cell1 rfl]; simp [go_sem, asAddr, Result.andThen, k1, k2, k3]; done)
        | exact bset3 (bnext Hw.out Hb5.out) (Nat.le_succ _) _ _ _
        | (have e7 : (s && decide (0 < P)) = s := by rw [decide_eq_true (Nat.pos_of_ne_zero hgP), Bool.and_true]
           rw [e7] at Hf
           refine RatO.of Hf.out ((Ho7.out.set3 ?_ _ _ _).mono ?_) ((Ho8.out.set3 ?_ _ _ _).mono ?_)
           · exact Nat.lt_of_lt_of_le hB1 Hb3.out.size
           · exact Nat.le_trans (Nat.le_of_lt hB0) Hb3.out.size
           · exact Nat.lt_of_lt_of_le hB1 Hb4.out.size
           · exact Nat.le_trans (Nat.le_of_lt hB0) Hb4.out.size)
end Go.Proofs.YtckiojofncdoeaaGreatDoor
