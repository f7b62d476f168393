/- reference, layer 2: Trim, Sign, Same, Of at -1 and 4, Gcd. -/
import Derived.Test.YtckiojofncdoeaaGreatDoorRefB
import Derived.Test.YtckiojofncdoeaaGreatDoorRatC
namespace Go.Proofs.YtckiojofncdoeaaGreatDoor
open Go.RowKit

theorem r2trim_any (w : World) (s : Bool) (A : Option Addr) (n cap : Nat) (l : List Int) (hl : l.length = n) (hc : n ≤ cap) (hs : n ≤ 4294967296) (h : RU w A l) :
    Calls Tryz.prog 68 #[.agg #[.bool s, .slice A n cap]] w fun e w' =>
      ∃ v, e = .returned (.agg #[.bool (s && decide (0 < val l)), v]) ∧ Below w.heap.size w w' ∧ OwnU w.heap.size w' v (digits (val l)) := by
  have Hl := Lib.hid hl; clear hl
  have Hh := Lib.hid h; clear h
  obtain ⟨b, hb⟩ : ∃ b : Bool, b = (s && decide (0 < val l)) := ⟨_, rfl⟩
  rw [← hb]
  have HW := Lib.hid hb; clear hb
  have Hw := Lib.hid (btwo (w := w) (.cells #[.bool s, .slice A n cap] 29) (.cells #[.bool false, .slice none 0 0] 29))
  have Hp := Lib.hid (push2 w (.cells #[.bool s, .slice A n cap] 29) (.cells #[.bool false, .slice none 0 0] 29))
  go_enter Tryz.func68, Tryz.ntmps68
  go_wp2_with fail
  generalize ((w.alloc (.cells #[.bool s, .slice A n cap] 29)).alloc (.cells #[.bool false, .slice none 0 0] 29)) = W at *
  have hB0 : w.heap.size < W.heap.size := by rw [Hp.out.2.2]; omega
  have hB1 : w.heap.size + 1 < W.heap.size := by rw [Hp.out.2.2]; omega
  refine (r1trim_any W A n cap l Hl.out hc hs (Hh.out.ext Hw.out)).mono ?_
  rintro e w1 ⟨v1, rfl, hb1, ho1⟩
  obtain ⟨A1, c1, rfl, hc1, _⟩ := ho1.rv
  have hlen : decide (0 < (digits (val l)).length) = decide (0 < val l) := pos_len _
  obtain ⟨a1, a2⟩ := cells2 hb1 hB0 Hp.out.1
  obtain ⟨k1, k3⟩ := cells2 hb1 hB1 Hp.out.2.1; have k2 := thaw' hb1 hB1 Hp.out.2.1 0; have k4 := thaw' hb1 hB1 Hp.out.2.1 1
  have Hb1 := Lib.hid hb1; have Ho1 := Lib.hid ho1
  clear hb1 ho1
  by_cases hz : 0 < val l
  · rw [decide_eq_true hz] at hlen
    have hz1 : 0 < (digits (val l)).length := of_decide_eq_true hlen
    have hbs : b = s := by rw [HW.out, decide_eq_true hz, Bool.and_true]
    have Hbs := Lib.hid hbs
    clear hlen hbs hz
    cases s
    all_goals go_wp2
    all_goals (refine bodyPost_ret (v := .agg #[.bool _, .slice A1 (digits (val l)).length c1]) ?_ rfl ⟨_, by rw [Hbs.out], ?_, ?_⟩)
    all_goals first
      | (rw [results_cell1 rfl]; simp [go_sem, asAddr, Result.andThen, k1, k3]; done)
      | exact ((bnext Hw.out Hb1.out).setCell (Nat.le_succ _) _).setCell (Nat.le_succ _) _
      | exact ((Ho1.out.setBelow hB1 _).setBelow hB1 _).mono Hw.out.size
  · rw [decide_eq_false hz] at hlen
    have hz1 : (digits (val l)).length = 0 := by
      have := of_decide_eq_false hlen
      omega
    have hbs : b = false := by rw [HW.out, decide_eq_false hz, Bool.and_false]
    have Hbs := Lib.hid hbs
    have hz2 : (((digits (val l)).length : Int) > 0) = False := by rw [hz1]; simp
    have Hz1 := Lib.hid hz1
    clear hlen hbs hz
    rw [hz1] at hc1 ⊢
    have HO : Hid (OwnU W.heap.size w1 (.slice A1 0 c1) (digits (val l))) := Lib.hid (by have := Ho1.out; rw [Hz1.out] at this; exact this)
    clear hz1 hz2 Ho1
    cases s
    all_goals go_wp2
    all_goals (refine bodyPost_ret (v := .agg #[.bool false, .slice A1 0 c1]) ?_ rfl ⟨_, by rw [Hbs.out], ?_, ?_⟩)
    all_goals first
      | (rw [results_cell1 rfl]; simp [go_sem, asAddr, Result.andThen, k1, k3]; done)
      | exact ((bnext Hw.out Hb1.out).setCell (Nat.le_succ _) _).setCell (Nat.le_succ _) _
      | exact ((HO.out.setBelow hB1 _).setBelow hB1 _).mono Hw.out.size

theorem r2same_any (w : World) (s t : Bool) (A B : Option Addr) (n cap m cap' : Nat) (l r : List Int) (hl : l.length = n) (hc : n ≤ cap) (hs : n ≤ 4294967296) (h : RU w A l)
    (hr : r.length = m) (hc' : m ≤ cap') (hs' : m ≤ 4294967296) (h' : RU w B r) :
    Calls Tryz.prog 35 #[.agg #[.bool s, .slice A n cap], .agg #[.bool t, .slice B m cap']] w fun e w' => e = .returned (.bool ((s == t) && decide (l = r))) ∧ Below w.heap.size w w' := by
  have Hl := Lib.hid hl; clear hl
  have Hh := Lib.hid h; clear h
  have Hr := Lib.hid hr; clear hr
  have Hh' := Lib.hid h'; clear h'
  have Hw := Lib.hid (btwo (w := w) (.cells #[.bool s, .slice A n cap] 29) (.cells #[.bool t, .slice B m cap'] 29))
  obtain ⟨d, hd⟩ : ∃ d : Bool, d = decide (l = r) := ⟨_, rfl⟩
  rw [← hd]
  have Hd := Lib.hid hd; clear hd
  go_enter Tryz.func35, Tryz.ntmps35
  by_cases hst : s = t
  · have hb : (s == t) = true := by simpa using hst
    rw [hb]
    clear hst
    go_wp2_with fail
    refine (r1same_any _ A B n cap m cap' l r Hl.out hc hs (Hh.out.ext Hw.out) Hr.out hc' hs' (Hh'.out.ext Hw.out)).mono ?_
    rintro e w1 ⟨rfl, hb1⟩
    rw [← Hd.out]
    have Hb1 := Lib.hid hb1; clear hb1
    go_wp2
    go_ret
    exact ⟨rfl, bnext Hw.out Hb1.out⟩
  · have hb : (s == t) = false := by simpa using hst
    rw [hb]
    clear hst
    go_wp2
    go_ret
    exact ⟨rfl, Hw.out⟩
end Go.Proofs.YtckiojofncdoeaaGreatDoor
