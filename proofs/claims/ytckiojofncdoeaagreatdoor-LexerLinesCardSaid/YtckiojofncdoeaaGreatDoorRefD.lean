/- reference, layer 3: Same; layer 2: Of at -1 and 4, Sign, Gcd. -/
import Derived.Test.YtckiojofncdoeaaGreatDoorRefC
namespace Go.Proofs.YtckiojofncdoeaaGreatDoor
open Go.RowKit

theorem r3same_any (w : World) (s t : Bool) (A B A' B' : Option Addr) (n ca m cb n' ca' m' cb' : Nat) (l r l' r' : List Int) (hl : l.length = n) (hc : n ≤ ca) (hs : n ≤ 4294967296) (h : RU w A l) (hr : r.length = m) (hcr : m ≤ cb) (hsr : m ≤ 4294967296) (hR : RU w B r)
    (hl' : l'.length = n') (hc' : n' ≤ ca') (hs' : n' ≤ 4294967296) (h' : RU w A' l') (hr' : r'.length = m') (hcr' : m' ≤ cb') (hsr' : m' ≤ 4294967296) (hR' : RU w B' r') :
    Calls Tryz.prog 13 #[.agg #[.bool s, .slice A n ca, .slice B m cb], .agg #[.bool t, .slice A' n' ca', .slice B' m' cb']] w fun e w' =>
      e = .returned (.bool ((s == t) && decide (l = l') && decide (r = r'))) ∧ Below w.heap.size w w' := by
  have Hl := Lib.hid hl; have Hh := Lib.hid h; have Hr := Lib.hid hr; have HR := Lib.hid hR; have Hl' := Lib.hid hl'; have Hh' := Lib.hid h'; have Hr' := Lib.hid hr'; have HR' := Lib.hid hR'
  clear hl h hr hR hl' h' hr' hR'
  have Hw := Lib.hid (btwo (w := w) (.cells #[.bool s, .slice A n ca, .slice B m cb] 31) (.cells #[.bool t, .slice A' n' ca', .slice B' m' cb'] 31))
  have Hp := Lib.hid (push2 w (.cells #[.bool s, .slice A n ca, .slice B m cb] 31) (.cells #[.bool t, .slice A' n' ca', .slice B' m' cb'] 31))
  have HS := fun w' => r2same_any w' s t A A' n ca n' ca' l l' Hl.out hc hs
  generalize hb : ((s == t) && decide (l = l')) = b at *
  generalize hd : decide (r = r') = d at *
  have HS2 := Lib.hid HS; have Hd := Lib.hid hd
  clear HS hb hd
  go_enter Tryz.func13, Tryz.ntmps13
  go_wp2_with fail
  generalize ((w.alloc (.cells #[.bool s, .slice A n ca, .slice B m cb] 31)).alloc (.cells #[.bool t, .slice A' n' ca', .slice B' m' cb'] 31)) = W at *
  have hB0 : w.heap.size < W.heap.size := by rw [Hp.out.2.2]; omega
  have hB1 : w.heap.size + 1 < W.heap.size := by rw [Hp.out.2.2]; omega
  refine (HS2.out W (Hh.out.ext Hw.out) Hl'.out hc' hs' (Hh'.out.ext Hw.out)).mono ?_
  rintro e w1 ⟨rfl, hb1⟩
  obtain ⟨a1, a2, a3⟩ := cells3 hb1 hB0 Hp.out.1
  obtain ⟨b1, b2, b3⟩ := cells3 hb1 hB1 Hp.out.2.1
  have Hb1 := Lib.hid hb1; clear hb1
  cases b
  · go_wp2
    go_ret
    exact ⟨rfl, bnext Hw.out Hb1.out⟩
  · go_wp2_with fail
    refine (r1same_any w1 B B' m cb m' cb' r r' Hr.out hcr hsr (HR.out.ext (bnext Hw.out Hb1.out)) Hr'.out hcr' hsr' (HR'.out.ext (bnext Hw.out Hb1.out))).mono ?_
    rintro e w2 ⟨rfl, hb2⟩
    rw [Hd.out]
    have Hb2 := Lib.hid hb2; clear hb2
    go_wp2
    go_ret
    exact ⟨rfl, bnext Hw.out (bnext Hb1.out Hb2.out)⟩

theorem r2of_m1 (w : World) : Calls Tryz.prog 39 #[.int .i64 (-1)] w fun e w' => ∃ v, e = .returned (.agg #[.bool true, v]) ∧ Below w.heap.size w w' ∧ OwnU w.heap.size w' v (digits 1) := by
  have Hlit := Lib.hid (own_litU (w.alloc (.cells #[.bool false, .slice none 0 0] 29)) w.heap.size [(1 : Int), 0] (Wf.cons (by omega) (by omega) (Wf.one (by omega) (by omega))) (by simp) (by simp))
  have Hw := Lib.hid (btwo (w := w) (.cells #[.bool false, .slice none 0 0] 29) (.cells #[.int .u32 1, .int .u32 0] 67))
  have Hp := Lib.hid (push2 w (.cells #[.bool false, .slice none 0 0] 29) (.cells #[.int .u32 1, .int .u32 0] 67))
  go_enter Tryz.func39, Tryz.ntmps39
  go_wp2_with fail
  refine (r2trim_any _ true (some ⟨w.heap.size + 1, 0, none⟩) 2 2 [(1 : Int), 0] rfl (Nat.le_refl _) (by omega) ?_).mono ?_
  · have h := Hlit.out.ru
    simpa using h
  have e1 : val [(1 : Int), 0] = 1 := by rw [val_cons, val_one]; rfl
  rw [e1]
  rintro e w1 ⟨v, rfl, hb1, ho1⟩
  obtain ⟨A1, c1, rfl, hc1, _⟩ := ho1.rv
  have Hb1 := Lib.hid hb1; have Ho1 := Lib.hid ho1; clear hb1 ho1 e1 Hlit
  generalize ((w.alloc (.cells #[.bool false, .slice none 0 0] 29)).alloc (.cells #[.int .u32 1, .int .u32 0] 67)) = W at *
  have hBW : w.heap.size < W.heap.size := by rw [Hp.out.2.2]; omega
  obtain ⟨k1, k3⟩ := cells2 Hb1.out hBW Hp.out.1; have k2 := thaw' Hb1.out hBW Hp.out.1 0; have k4 := thaw' Hb1.out hBW Hp.out.1 1
  go_wp2
  refine bodyPost_ret (v := .agg #[.bool true, .slice A1 (digits 1).length c1]) ?_ rfl ⟨_, rfl, ?_, ?_⟩
  · rw [results_cell1 rfl]; simp [go_sem, asAddr, Result.andThen, k1, k3]
  · exact ((bnext Hw.out Hb1.out).setCell (Nat.le_refl _) _).setCell (Nat.le_refl _) _
  · exact ((Ho1.out.setBelow hBW _).setBelow hBW _).mono (Nat.le_of_lt hBW)

theorem r2of_4 (w : World) : Calls Tryz.prog 39 #[.int .i64 4] w fun e w' => ∃ v, e = .returned (.agg #[.bool false, v]) ∧ Below w.heap.size w w' ∧ OwnU w.heap.size w' v (digits 4) := by
  have Hlit := Lib.hid (own_litU (w.alloc (.cells #[.bool false, .slice none 0 0] 29)) w.heap.size [(4 : Int), 0] (Wf.cons (by omega) (by omega) (Wf.one (by omega) (by omega))) (by simp) (by simp))
  have Hw := Lib.hid (btwo (w := w) (.cells #[.bool false, .slice none 0 0] 29) (.cells #[.int .u32 4, .int .u32 0] 67))
  have Hp := Lib.hid (push2 w (.cells #[.bool false, .slice none 0 0] 29) (.cells #[.int .u32 4, .int .u32 0] 67))
  go_enter Tryz.func39, Tryz.ntmps39
  go_wp2_with fail
  refine (r2trim_any _ false (some ⟨w.heap.size + 1, 0, none⟩) 2 2 [(4 : Int), 0] rfl (Nat.le_refl _) (by omega) ?_).mono ?_
  · have h := Hlit.out.ru
    simpa using h
  have e1 : val [(4 : Int), 0] = 4 := by rw [val_cons, val_one]; rfl
  rw [e1]
  rintro e w1 ⟨v, rfl, hb1, ho1⟩
  obtain ⟨A1, c1, rfl, hc1, _⟩ := ho1.rv
  have Hb1 := Lib.hid hb1; have Ho1 := Lib.hid ho1; clear hb1 ho1 e1 Hlit
  generalize ((w.alloc (.cells #[.bool false, .slice none 0 0] 29)).alloc (.cells #[.int .u32 4, .int .u32 0] 67)) = W at *
  have hBW : w.heap.size < W.heap.size := by rw [Hp.out.2.2]; omega
  obtain ⟨k1, k3⟩ := cells2 Hb1.out hBW Hp.out.1; have k2 := thaw' Hb1.out hBW Hp.out.1 0; have k4 := thaw' Hb1.out hBW Hp.out.1 1
  go_wp2
  refine bodyPost_ret (v := .agg #[.bool false, .slice A1 (digits 4).length c1]) ?_ rfl ⟨_, rfl, ?_, ?_⟩
  · rw [results_cell1 rfl]; simp [go_sem, asAddr, Result.andThen, k1, k3]
  · exact ((bnext Hw.out Hb1.out).setCell (Nat.le_refl _) _).setCell (Nat.le_refl _) _
  · exact ((Ho1.out.setBelow hBW _).setBelow hBW _).mono (Nat.le_of_lt hBW)

theorem r2sign_any (w : World) (s : Bool) (A : Option Addr) (n cap : Nat) (l : List Int) (hl : l.length = n) (hc : n ≤ cap) (hs : n ≤ 4294967296) (h : RU w A l) (h0 : val l ≠ 0) :
    Calls Tryz.prog 64 #[.agg #[.bool s, .slice A n cap]] w fun e w' => e = .returned (.int .i64 (if s then -1 else 1)) ∧ Below w.heap.size w w' := by
  have Hl := Lib.hid hl; clear hl
  have Hh := Lib.hid h; clear h
  have Hw := Lib.hid (show Below w.heap.size w (w.alloc (.cells #[.bool s, .slice A n cap] 29)) from (Below.refl _ _).alloc (Nat.le_refl _) _)
  have Hp := Lib.hid (alloc_last w (.cells #[.bool s, .slice A n cap] 29))
  have hsz : w.heap.size < (w.alloc (.cells #[.bool s, .slice A n cap] 29)).heap.size := by simp
  have hpos : decide (0 < val l) = true := decide_eq_true (by omega)
  have hlen : 0 < (digits (val l)).length := by
    rcases Nat.eq_zero_or_pos (digits (val l)).length with h | h
    · exact absurd ((digits_nil_iff _).1 h) h0
    · exact h
  have Hpos := Lib.hid hpos; clear hpos h0
  go_enter Tryz.func64, Tryz.ntmps64
  go_wp2_with fail
  generalize (w.alloc (.cells #[.bool s, .slice A n cap] 29)) = W at *
  refine (r2trim_any W s A n cap l Hl.out hc hs (Hh.out.ext Hw.out)).mono ?_
  rintro e w1 ⟨v1, rfl, hb1, ho1⟩
  rw [Hpos.out, Bool.and_true]
  obtain ⟨A1, c1, rfl, hc1, _⟩ := ho1.rv
  obtain ⟨k1, k3⟩ := cells2 hb1 hsz Hp.out; have k2 := thaw' hb1 hsz Hp.out 0; have k4 := thaw' hb1 hsz Hp.out 1
  have Hb1 := Lib.hid hb1; clear hb1 ho1
  cases s
  all_goals go_wp2
  all_goals go_ret
  all_goals exact ⟨rfl, ((bnext Hw.out Hb1.out).setCell (Nat.le_refl _) _).setCell (Nat.le_refl _) _⟩

theorem r2gcd_one (w : World) (s t : Bool) (A B : Option Addr) (n cap m cap' : Nat) (l r : List Int) (hl : l.length = n) (hc : n ≤ cap) (hs : n ≤ 1073741824) (h : RU w A l)
    (hr : r.length = m) (hc' : m ≤ cap') (hs' : m ≤ 1073741824) (h' : RU w B r) (hb : val r < 4294967296) :
    Calls Tryz.prog 65 #[.agg #[.bool s, .slice A n cap], .agg #[.bool t, .slice B m cap']] w fun e w' => ∃ v, e = .returned (.agg #[.bool false, v]) ∧ Below w.heap.size w w' ∧ OwnU w.heap.size w' v (digits (Nat.gcd (val l) (val r))) := by
  have Hl := Lib.hid hl; clear hl
  have Hh := Lib.hid h; clear h
  have Hr := Lib.hid hr; clear hr
  have Hh' := Lib.hid h'; clear h'
  have Hw := Lib.hid (bthree (w := w) (.cells #[.bool s, .slice A n cap] 29) (.cells #[.bool t, .slice B m cap'] 29) (.cells #[.bool false, .slice none 0 0] 29))
  have Hp := Lib.hid (push3 w (.cells #[.bool s, .slice A n cap] 29) (.cells #[.bool t, .slice B m cap'] 29) (.cells #[.bool false, .slice none 0 0] 29))
  have Hbv := Lib.hid hb
  clear hb
  go_enter Tryz.func65, Tryz.ntmps65
  go_wp2_with fail
  generalize ((w.alloc (.cells #[.bool s, .slice A n cap] 29)).alloc (.cells #[.bool t, .slice B m cap'] 29)).alloc (.cells #[.bool false, .slice none 0 0] 29) = W at *
  have hB1 : w.heap.size + 1 + 1 < W.heap.size := by rw [Hp.out.2.2.2]; omega
  refine (r1gcd_one W A B n cap m cap' l r Hl.out hc hs (Hh.out.ext Hw.out) Hr.out hc' hs' (Hh'.out.ext Hw.out) Hbv.out).mono ?_
  rintro e w1 ⟨v1, rfl, hb1, ho1⟩
  obtain ⟨A1, c1, rfl, hc1, _⟩ := ho1.rv
  obtain ⟨k1, k3⟩ := cells2 hb1 hB1 Hp.out.2.2.1; have k2 := thaw' hb1 hB1 Hp.out.2.2.1 0; have k4 := thaw' hb1 hB1 Hp.out.2.2.1 1
  have Hb1 := Lib.hid hb1; have Ho1 := Lib.hid ho1; clear hb1 ho1
  go_wp2
  refine bodyPost_ret (v := .agg #[.bool false, .slice A1 (digits (Nat.gcd (val l) (val r))).length c1]) ?_ rfl ⟨_, rfl, ?_, ?_⟩
  · rw [results_cell1 rfl]; simp [go_sem, asAddr, Result.andThen, k1, k3]
  · exact ((bnext Hw.out Hb1.out).setCell (Nat.le_trans (Nat.le_succ _) (Nat.le_succ _)) _).setCell (Nat.le_trans (Nat.le_succ _) (Nat.le_succ _)) _
  · exact ((Ho1.out.setBelow hB1 _).setBelow hB1 _).mono Hw.out.size
end Go.Proofs.YtckiojofncdoeaaGreatDoor
