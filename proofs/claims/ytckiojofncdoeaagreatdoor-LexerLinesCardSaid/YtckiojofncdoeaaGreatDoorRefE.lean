/- reference, layer 2: Div where it is exact; layer 3: reduce, Frac(-1, 4). -/
import Derived.Test.YtckiojofncdoeaaGreatDoorRefD
namespace Go.Proofs.YtckiojofncdoeaaGreatDoor
open Go.RowKit

theorem results_cell2_tmp {fn : Func} {p q u : Tmp} {ty ty' : TypeId} (h : fn.results = #[.cell p ty, .cell q ty', .tmp u]) (tmps : Array Value) (P : Program) (w : World) :
    (results fn tmps).run P w = ((asAddr (tmps.getD p undef)).run P w).andThen fun a w₁ => ((loadVar ty a).run P w₁).andThen fun v w₂ => ((asAddr (tmps.getD q undef)).run P w₂).andThen fun a' w₃ => ((loadVar ty' a').run P w₃).andThen fun v' w₄ => .ok (.tuple #[v, v', tmps.getD u undef]) w₄ := by
  simp only [results, h]
  simp [Sem.run_bind, Result.andThen]
theorem push4 (w : World) (o1 o2 o3 o4 : Obj) : ((((w.alloc o1).alloc o2).alloc o3).alloc o4).heap[w.heap.size]? = some o1 ∧ ((((w.alloc o1).alloc o2).alloc o3).alloc o4).heap[w.heap.size + 1]? = some o2 ∧
    ((((w.alloc o1).alloc o2).alloc o3).alloc o4).heap[w.heap.size + 1 + 1]? = some o3 ∧ ((((w.alloc o1).alloc o2).alloc o3).alloc o4).heap[w.heap.size + 1 + 1 + 1]? = some o4 ∧ ((((w.alloc o1).alloc o2).alloc o3).alloc o4).heap.size = w.heap.size + 1 + 1 + 1 + 1 := by
  obtain ⟨h1, h2, h3, h4⟩ := push3 w o1 o2 o3
  have hb : Below (((w.alloc o1).alloc o2).alloc o3).heap.size (((w.alloc o1).alloc o2).alloc o3) ((((w.alloc o1).alloc o2).alloc o3).alloc o4) := (Below.refl _ _).alloc (Nat.le_refl _) _
  refine ⟨heap_at hb h1, heap_at hb h2, heap_at hb h3, ?_, by simp⟩
  have h := alloc_last (((w.alloc o1).alloc o2).alloc o3) o4
  rwa [h4] at h
theorem bfour {w : World} (o1 o2 o3 o4 : Obj) : Below w.heap.size w ((((w.alloc o1).alloc o2).alloc o3).alloc o4) := bnext (bthree o1 o2 o3) ((Below.refl _ _).alloc (Nat.le_refl _) _)

theorem heap_set2 {w : World} {g i : Nat} {cs : Array Value} {t : TypeId} {fz : Nat × Nat} {v : Value} (h : w.heap[g]? = some (.cells cs t fz)) : (w.setCell ⟨g, i, none⟩ v).heap[g]? = some (.cells (cs.setIfInBounds i v) t fz) := by
  simp [World.setCell, Array.getElem?_modify, h]
theorem heap_set2_ne {w : World} {g k i : Nat} {v : Value} (h : g ≠ k) : (w.setCell ⟨g, i, none⟩ v).heap[k]? = w.heap[k]? := by
  simp [World.setCell, Array.getElem?_modify, h]
theorem cells2g' {w : World} {g : Nat} {a b : Value} {t : TypeId} (h : w.heap[g]? = some (.cells #[a, b] t (0, 0))) :
    w.cell? ⟨g, 0, none⟩ = some a ∧ w.cell? ⟨g, 1, none⟩ = some b ∧ w.frozen? ⟨g, 0, none⟩ = false ∧ w.frozen? ⟨g, 1, none⟩ = false :=
  ⟨(cell_at h 0 _ rfl).1, (cell_at h 1 _ rfl).1, (cell_at h 0 _ rfl).2, (cell_at h 1 _ rfl).2⟩
set_option maxRecDepth 20000 in
theorem set2_heap {w : World} {g : Nat} {a b x y : Value} {t : TypeId} (h : w.heap[g]? = some (.cells #[a, b] t (0, 0))) : ((w.setCell ⟨g, 0, none⟩ x).setCell ⟨g, 1, none⟩ y).heap[g]? = some (.cells #[x, y] t (0, 0)) := heap_set2 (heap_set2 h)
theorem set2_ne {w : World} {g k : Nat} {x y : Value} {o : Obj} (hne : g ≠ k) (h : w.heap[k]? = some o) : ((w.setCell ⟨g, 0, none⟩ x).setCell ⟨g, 1, none⟩ y).heap[k]? = some o := by
  rw [heap_set2_ne hne, heap_set2_ne hne]; exact h
theorem bset2 {B g : Nat} {w w' : World} (h : Below B w w') (hg : B ≤ g) (a b : Value) : Below B w ((w'.setCell ⟨g, 0, none⟩ a).setCell ⟨g, 1, none⟩ b) := (h.setCell hg _).setCell hg _
theorem OwnU.set2 {base g : Nat} {w : World} {v : Value} {l : List Int} (h : OwnU base w v l) (hg : g < base) (a b : Value) : OwnU base ((w.setCell ⟨g, 0, none⟩ a).setCell ⟨g, 1, none⟩ b) v l := (h.setBelow hg _).setBelow hg _

set_option maxHeartbeats 3200000 in
theorem r2div_exact (w : World) (s : Bool) (A B : Option Addr) (n cap m cap' : Nat) (l r : List Int) (hl : l.length = n) (hc : n ≤ cap) (hs : n ≤ 1073741824) (h : RU w A l)
    (hr : r.length = m) (hc' : m ≤ cap') (hs' : m ≤ 1073741824) (h' : RU w B r) (hb : val r < 4294967296) (h0 : val r ≠ 0) (hex : val l % val r = 0) :
    Calls Tryz.prog 66 #[.agg #[.bool s, .slice A n cap], .agg #[.bool false, .slice B m cap']] w fun e w' => ∃ q A4 c4, e = .returned (.tuple #[.agg #[.bool (s && decide (0 < val l)), q], .agg #[.bool false, .slice A4 0 c4], .int .i64 0]) ∧
      Below w.heap.size w w' ∧ OwnU w.heap.size w' q (digits (val l / val r)) := by
  have hcl := digits_length_val h.wf
  rw [hl] at hcl
  have hcr := digits_length_val h'.wf
  rw [hr] at hcr
  have hqp : decide (0 < val l / val r) = decide (0 < val l) := by
    have h1 := Nat.div_add_mod (val l) (val r)
    rw [hex, Nat.add_zero] at h1
    rcases Nat.eq_zero_or_pos (val l) with h2 | h2
    · rw [h2, Nat.zero_div]
    · rw [decide_eq_true h2]
      refine decide_eq_true (Nat.pos_of_ne_zero fun h3 => ?_)
      rw [h3, Nat.mul_zero] at h1
      omega
  obtain ⟨a, ha⟩ : ∃ a, a = val l := ⟨_, rfl⟩
  obtain ⟨d, hd⟩ : ∃ d, d = val r := ⟨_, rfl⟩
  have Ha := Lib.hid ha; have Hd := Lib.hid hd
  rw [← ha, ← hd] at hqp hex ⊢
  rw [← ha] at hcl
  rw [← hd] at hb hcr h0
  obtain ⟨sb, hsb⟩ : ∃ sb : Bool, sb = (s && decide (0 < a)) := ⟨_, rfl⟩
  rw [← hsb]
  have Hsb := Lib.hid hsb; have Hqp := Lib.hid hqp; have Hex := Lib.hid hex; have H0 := Lib.hid h0; have Hbd := Lib.hid hb
  have Hl := Lib.hid hl; have Hr := Lib.hid hr; have Hh := Lib.hid h; have Hh' := Lib.hid h'
  clear hl hr h h' ha hd hsb hqp hex h0 hb
  have Hw := Lib.hid (bfour (w := w) (.cells #[.bool s, .slice A n cap] 29) (.cells #[.bool false, .slice B m cap'] 29) (.cells #[.bool false, .slice none 0 0] 29) (.cells #[.bool false, .slice none 0 0] 29))
  have Hp := Lib.hid (push4 w (.cells #[.bool s, .slice A n cap] 29) (.cells #[.bool false, .slice B m cap'] 29) (.cells #[.bool false, .slice none 0 0] 29) (.cells #[.bool false, .slice none 0 0] 29))
  go_enter Tryz.func66, Tryz.ntmps66
  go_wp2
  generalize ((((w.alloc (.cells #[.bool s, .slice A n cap] 29)).alloc (.cells #[.bool false, .slice B m cap'] 29)).alloc (.cells #[.bool false, .slice none 0 0] 29)).alloc (.cells #[.bool false, .slice none 0 0] 29)) = W at *
  have hB0 : w.heap.size < W.heap.size := by rw [Hp.out.2.2.2.2]; omega
  have hB1 : w.heap.size + 1 < W.heap.size := by rw [Hp.out.2.2.2.2]; omega
  have hB2 : w.heap.size + 1 + 1 < W.heap.size := by rw [Hp.out.2.2.2.2]; omega
  have hB3 : w.heap.size + 1 + 1 + 1 < W.heap.size := by rw [Hp.out.2.2.2.2]; omega
  have Hb0 := Lib.hid (Drew.below (Drew.refl W).step1)
  obtain ⟨k1, k2⟩ := cells2 (Below.refl W.heap.size W) hB0 Hp.out.1
  obtain ⟨k3, k4⟩ := cells2 (Below.refl W.heap.size W) hB1 Hp.out.2.1
  go_region_with (first
    | (go_at_call 68; (first
       | ((with_reducible refine (r2trim_any _ s A n cap l Hl.out hc ?c0 ?c1).mono ?_)
          case c0 => omega
          case c1 => exact Hh.out.ext (bnext Hw.out Hb0.out)
          rintro e w1 ⟨v1, rfl, hb1, ho1⟩
          rw [← Ha.out, ← Hsb.out]
          rw [← Ha.out] at ho1
          obtain ⟨A1, c1, rfl, hc1, _⟩ := ho1.rv
          obtain ⟨k5, k6⟩ := cells2 (bnext Hb0.out hb1) hB1 Hp.out.2.1
          have Hb1 := Lib.hid (bnext Hb0.out hb1); have Ho1 := Lib.hid ho1
          clear hb1 ho1)
       | ((with_reducible refine (r2trim_any _ false B m cap' r Hr.out hc' ?c0 ?c1).mono ?_)
          case c0 => omega
          case c1 => exact Hh'.out.ext (bnext Hw.out Hb1.out)
          rintro e w2 ⟨v2, rfl, hb2, ho2⟩
          rw [Bool.false_and]
          rw [← Hd.out] at ho2
          obtain ⟨A2, c2, rfl, hc2, _⟩ := ho2.rv
          have Hb2 := Lib.hid (bnext Hb1.out hb2); have Ho2 := Lib.hid (Ho1.out.ext hb2); have Ho3 := Lib.hid ho2
          have q1 := cells2g' (heap_at Hb2.out Hp.out.1)
          have q2 := cells2g' (heap_at Hb2.out Hp.out.2.1)
          clear hb2 ho2))))
  all_goals (
    have S1 := set2_ne (x := .bool false) (y := .slice A2 (digits d).length c2) (show w.heap.size + 1 ≠ w.heap.size by omega) (set2_heap (x := .bool sb) (y := .slice A1 (digits a).length c1) (heap_at Hb2.out Hp.out.1))
    have S2 := set2_heap (x := .bool false) (y := .slice A2 (digits d).length c2) (set2_ne (x := .bool sb) (y := .slice A1 (digits a).length c1) (show w.heap.size ≠ w.heap.size + 1 by omega) (heap_at Hb2.out Hp.out.2.1))
    have S3 := set2_ne (x := .bool false) (y := .slice A2 (digits d).length c2) (show w.heap.size + 1 ≠ w.heap.size + 1 + 1 by omega) (set2_ne (x := .bool sb) (y := .slice A1 (digits a).length c1) (show w.heap.size ≠ w.heap.size + 1 + 1 by omega) (heap_at Hb2.out Hp.out.2.2.1))
    have S4 := set2_ne (x := .bool false) (y := .slice A2 (digits d).length c2) (show w.heap.size + 1 ≠ w.heap.size + 1 + 1 + 1 by omega) (set2_ne (x := .bool sb) (y := .slice A1 (digits a).length c1) (show w.heap.size ≠ w.heap.size + 1 + 1 + 1 by omega) (heap_at Hb2.out Hp.out.2.2.2.1))
    have So1 := (Ho2.out.set2 (Nat.lt_of_lt_of_le hB0 Hb0.out.size) (.bool sb) (.slice A1 (digits a).length c1)).set2 (Nat.lt_of_lt_of_le hB1 Hb0.out.size) (.bool false) (.slice A2 (digits d).length c2)
    have So2 := (Ho3.out.set2 (Nat.lt_of_lt_of_le hB0 Hb1.out.size) (.bool sb) (.slice A1 (digits a).length c1)).set2 (Nat.lt_of_lt_of_le hB1 Hb1.out.size) (.bool false) (.slice A2 (digits d).length c2)
    have Sb := bset2 (bset2 (bnext Hw.out Hb2.out) (Nat.le_refl _) (.bool sb) (.slice A1 (digits a).length c1)) (Nat.le_succ _) (.bool false) (.slice A2 (digits d).length c2)
    have Ss : W.heap.size ≤ ((((w2.setCell ⟨w.heap.size, 0, none⟩ (.bool sb)).setCell ⟨w.heap.size, 1, none⟩ (.slice A1 (digits a).length c1)).setCell ⟨w.heap.size + 1, 0, none⟩ (.bool false)).setCell ⟨w.heap.size + 1, 1, none⟩ (.slice A2 (digits d).length c2)).heap.size := by
      have := Hb2.out.size
      simp only [World.setCell, Array.size_modify]
      exact this
    generalize ((((w2.setCell ⟨w.heap.size, 0, none⟩ (.bool sb)).setCell ⟨w.heap.size, 1, none⟩ (.slice A1 (digits a).length c1)).setCell ⟨w.heap.size + 1, 0, none⟩ (.bool false)).setCell ⟨w.heap.size + 1, 1, none⟩ (.slice A2 (digits d).length c2)) = X at *
    have HS1 := Lib.hid S1; have HS2 := Lib.hid S2; have HS3 := Lib.hid S3; have HS4 := Lib.hid S4; have HSo1 := Lib.hid So1; have HSo2 := Lib.hid So2; have HSb := Lib.hid Sb; have HSs := Lib.hid Ss
    have q3 := cells2g' S1; have q4 := cells2g' S2
    clear S1 S2 S3 S4 So1 So2 Sb Ss q1 q2 k1 k2 k3 k4
    go_wp2_with fail
    refine (r1divmod_one X A1 A2 _ c1 _ c2 (digits a) (digits d) rfl hc1 (by omega) HSo1.out.ru rfl hc2 (by omega) HSo2.out.ru (by rw [val_digits]; exact H0.out) (by rw [val_digits]; exact Hbd.out)).mono ?_
    rintro e w3 ⟨v3, v4, rfl, hb3, ho3, ho4⟩
    rw [val_digits, val_digits, Hex.out, digits_zero] at ho4
    rw [val_digits, val_digits] at ho3
    obtain ⟨A3, c3, rfl, hc3, _⟩ := ho3.rv
    obtain ⟨A4, c4, rfl, _, _⟩ := ho4.rv
    simp only [List.length_nil] at ho4 ⊢
    have q5 := cells2g' (heap_at hb3 HS1.out); have q6 := cells2g' (heap_at hb3 HS2.out)
    have Hb3 := Lib.hid hb3; have Ho5 := Lib.hid ho3
    have hdl : (digits (a / d)).length ≤ 1073741824 := Nat.le_trans (digits_length_mono (Nat.div_le_self a d)) (by omega)
    clear hb3 ho3 ho4 q3 q4
    have htr := r2trim_any w3 sb A3 _ c3 (digits (a / d)) rfl hc3 (by omega) Ho5.out.ru
    rw [val_digits, Hqp.out, show (sb && decide (0 < a)) = sb from by rw [Hsb.out]; cases s <;> cases decide (0 < a) <;> rfl] at htr
    have Htr := Lib.hid htr
    clear htr
    cases sb
    · go_wp2_with fail
      refine Htr.out.mono ?_
      rintro e w4 ⟨v5, rfl, hb4, ho5⟩
      obtain ⟨A5, c5, rfl, hc5, _⟩ := ho5.rv
      have q7 := cells2g' (heap_at hb4 (heap_at Hb3.out HS3.out)); have q8 := cells2g' (heap_at hb4 (heap_at Hb3.out HS4.out))
      have T3 := set2_heap (x := .bool false) (y := .slice A5 (digits (a / d)).length c5) (heap_at hb4 (heap_at Hb3.out HS3.out))
      have T4 := set2_ne (x := .bool false) (y := .slice A5 (digits (a / d)).length c5) (show w.heap.size + 1 + 1 ≠ w.heap.size + 1 + 1 + 1 by omega) (heap_at hb4 (heap_at Hb3.out HS4.out))
      have q9 := cells2g' T4
      have HT5 := Lib.hid (cells2g' (set2_ne (x := .bool false) (y := .slice A4 0 c4) (show w.heap.size + 1 + 1 + 1 ≠ w.heap.size + 1 + 1 by omega) T3))
      have HT6 := Lib.hid (cells2g' (set2_heap (x := .bool false) (y := .slice A4 0 c4) T4))
      have Hb4 := Lib.hid hb4; have Ho6 := Lib.hid ho5
      clear hb4 ho5 T3 T4 q5 q6
      go_wp2
      refine bodyPost_ret (v := .tuple #[.agg #[.bool false, .slice A5 (digits (a / d)).length c5], .agg #[.bool false, .slice A4 0 c4], .int .i64 0]) ?_ rfl ⟨_, _, _, rfl, ?_, ?_⟩
      · have t5 := HT5.out
        have t6 := HT6.out
        rw [results_cell2_tmp rfl]; simp [go_sem, asAddr, Result.andThen, t5, t6]
      · exact bset2 (bset2 (bthen HSb.out (bnext Hb3.out Hb4.out) HSb.out.size) (by omega) _ _) (by omega) _ _
      · have hx : w.heap.size + 1 + 1 + 1 < w3.heap.size := Nat.lt_of_lt_of_le (Nat.lt_of_lt_of_le hB3 HSs.out) Hb3.out.size
        exact ((Ho6.out.set2 (Nat.lt_of_succ_lt hx) _ _).set2 hx _ _).mono (by omega)
    · go_wp2_with fail
      refine Htr.out.mono ?_
      rintro e w4 ⟨v5, rfl, hb4, ho5⟩
      obtain ⟨A5, c5, rfl, hc5, _⟩ := ho5.rv
      have q7 := cells2g' (heap_at hb4 (heap_at Hb3.out HS3.out)); have q8 := cells2g' (heap_at hb4 (heap_at Hb3.out HS4.out))
      have T3 := set2_heap (x := .bool true) (y := .slice A5 (digits (a / d)).length c5) (heap_at hb4 (heap_at Hb3.out HS3.out))
      have T4 := set2_ne (x := .bool true) (y := .slice A5 (digits (a / d)).length c5) (show w.heap.size + 1 + 1 ≠ w.heap.size + 1 + 1 + 1 by omega) (heap_at hb4 (heap_at Hb3.out HS4.out))
      have q9 := cells2g' T4
      have HT5 := Lib.hid (cells2g' (set2_ne (x := .bool false) (y := .slice A4 0 c4) (show w.heap.size + 1 + 1 + 1 ≠ w.heap.size + 1 + 1 by omega) T3))
      have HT6 := Lib.hid (cells2g' (set2_heap (x := .bool false) (y := .slice A4 0 c4) T4))
      have Hb4 := Lib.hid hb4; have Ho6 := Lib.hid ho5
      clear hb4 ho5 T3 T4 q5 q6
      go_wp2
      refine bodyPost_ret (v := .tuple #[.agg #[.bool true, .slice A5 (digits (a / d)).length c5], .agg #[.bool false, .slice A4 0 c4], .int .i64 0]) ?_ rfl ⟨_, _, _, rfl, ?_, ?_⟩
      · have t5 := HT5.out
        have t6 := HT6.out
        rw [results_cell2_tmp rfl]; simp [go_sem, asAddr, Result.andThen, t5, t6]
      · exact bset2 (bset2 (bthen HSb.out (bnext Hb3.out Hb4.out) HSb.out.size) (by omega) _ _) (by omega) _ _
      · have hx : w.heap.size + 1 + 1 + 1 < w3.heap.size := Nat.lt_of_lt_of_le (Nat.lt_of_lt_of_le hB3 HSs.out) Hb3.out.size
        exact ((Ho6.out.set2 (Nat.lt_of_succ_lt hx) _ _).set2 hx _ _).mono (by omega))
end Go.Proofs.YtckiojofncdoeaaGreatDoor
