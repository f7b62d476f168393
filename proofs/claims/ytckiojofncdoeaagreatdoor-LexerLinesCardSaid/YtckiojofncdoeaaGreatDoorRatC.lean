/- rational: flip, Trim, Neg, Of. -/
import Derived.Test.YtckiojofncdoeaaGreatDoorRatB
namespace Go.Proofs.YtckiojofncdoeaaGreatDoor
open Go.RowKit

theorem RatV.cut {w : World} {v : Value} {q : Rat} (h : RatV w v q) : ∃ (b : Bool) (A : Option Addr) (n ca : Nat) (B : Option Addr) (m cb : Nat), v = .agg #[.bool b, .slice A n ca, .slice B m cb] ∧
    Hid (b = decide (q.num < 0) ∧ n = (digits q.num.natAbs).length ∧ m = (digits q.den).length) ∧ n ≤ ca ∧ m ≤ cb ∧ Hid (RU w A (digits q.num.natAbs) ∧ RU w B (digits q.den)) := by
  obtain ⟨A, ca, B, cb, rfl, hca, hcb, hA, hB⟩ := h
  exact ⟨_, A, _, ca, B, _, cb, rfl, Lib.hid ⟨rfl, rfl, rfl⟩, hca, hcb, Lib.hid ⟨hA, hB⟩⟩

theorem flip_any (w : World) (s : Bool) (A B : Option Addr) (n ca m cb : Nat) :
    Calls Tryz.prog 63 #[.agg #[.bool s, .slice A n ca, .slice B m cb]] w fun e w' =>
      e = .returned (.agg #[.bool (!s), .slice A n ca, .slice B m cb]) ∧ Below w.heap.size w w' := by
  go_enter Tryz.func63, Tryz.ntmps63
  go_wp2
  refine bodyPost_ret (v := .agg #[.bool (!s), .slice A n ca, .slice B m cb]) ?_ rfl ⟨rfl, btwo _ _⟩
  rw [results_cell1 rfl]
  simp [go_sem, asAddr, Result.andThen]

theorem run_number_pair (s b : Bool) (A B : Option Addr) (n ca m cb : Nat) (w : World) :
    (Instr.field 79 (.agg #[.bool s, .slice A n ca, .slice B m cb, .bool b]) 0).run Tryz.prog w = .ok (.agg #[.bool s, .slice A n ca, .slice B m cb]) w := by
  kernel_rfl

theorem rtrim_any (w : World) (P d : Nat) (hdn0 : d ≠ 0) (s : Bool) (A B : Option Addr) (ca cb : Nat) (hca : (digits P).length ≤ ca) (hcb : (digits d).length ≤ cb)
    (hs : (digits P).length ≤ 1073741824) (hs' : (digits d).length ≤ 1073741824) (h : RU w A (digits P)) (h' : RU w B (digits d)) :
    Calls Tryz.prog 40 #[.agg #[.bool s, .slice A (digits P).length ca, .slice B (digits d).length cb]] w fun e w' =>
      ∃ v, e = .returned v ∧ Below w.heap.size w w' ∧ RatO w.heap.size w' v (fr s P d) := by
  have Hh := Lib.hid h; clear h
  have Hh' := Lib.hid h'; clear h'
  have hdn := Lib.hid hdn0; clear hdn0
  go_enter Tryz.func40, Tryz.ntmps40
  go_wp2_with fail
  have Hw := Lib.hid (btwo (w := w) (.cells #[.bool s, .slice A (digits P).length ca, .slice B (digits d).length cb] 31) (.cells #[.bool false, .slice none 0 0, .slice none 0 0] 31))
  have Hp := Lib.hid (push2 w (.cells #[.bool s, .slice A (digits P).length ca, .slice B (digits d).length cb] 31) (.cells #[.bool false, .slice none 0 0, .slice none 0 0] 31))
  generalize ((w.alloc (.cells #[.bool s, .slice A (digits P).length ca, .slice B (digits d).length cb] 31)).alloc (.cells #[.bool false, .slice none 0 0, .slice none 0 0] 31)) = W at *
  have hB1 : w.heap.size + 1 < W.heap.size := by rw [Hp.out.2.2]; omega
  refine (read_any W d hdn.out s A B _ ca cb hcb hs' (Hh'.out.ext Hw.out)).mono ?_
  rintro e w1 ⟨rfl, hb1⟩
  have Hb1 := Lib.hid hb1; clear hb1
  generalize decide (d = 1) = bb
  have hfd := run_number_pair s bb A B (digits P).length ca (digits d).length cb
  go_wp2_with fail
  refine (lowest_any w1 s A B _ ca _ cb (digits P) (digits d) rfl hca hs (Hh.out.ext (bnext Hw.out Hb1.out)) rfl hcb hs' (Hh'.out.ext (bnext Hw.out Hb1.out)) (by rw [val_digits]; exact hdn.out)).mono ?_
  rintro e w2 ⟨v, rfl, hb2, ho2⟩
  rw [val_digits, val_digits] at ho2
  obtain ⟨b, A2, n2, c2, B2, m2, d2, rfl, _, _, _, _⟩ := ho2.rv.cut
  have Hb2 := Lib.hid (bnext Hb1.out hb2); have Ho2 := Lib.hid ho2; clear hb2 ho2
  obtain ⟨k1, k2, k3⟩ := cells3 Hb2.out hB1 Hp.out.2.1
  have k4 := thaw' Hb2.out hB1 Hp.out.2.1 0; have k5 := thaw' Hb2.out hB1 Hp.out.2.1 1; have k6 := thaw' Hb2.out hB1 Hp.out.2.1 2
  go_wp2
  refine bodyPost_ret (v := .agg #[.bool b, .slice A2 n2 c2, .slice B2 m2 d2]) ?_ rfl ⟨_, rfl, ?_, ?_⟩
  · rw [results_cell1 rfl]; simp [go_sem, asAddr, Result.andThen, k1, k2, k3]
  · exact bset3 (bnext Hw.out Hb2.out) (Nat.le_succ _) _ _ _
  · exact (Ho2.out.set3 (Nat.lt_of_lt_of_le hB1 Hb1.out.size) _ _ _).mono (bnext Hw.out Hb1.out).size

theorem fr_not (q : Rat) : fr (!decide (q.num < 0)) q.num.natAbs q.den = -q := by
  have h := fr_self q
  conv => rhs; rw [← h]
  unfold fr
  rw [Rat.neg_mkRat]
  congr 1
  cases decide (q.num < 0) <;> simp [sg]

/-- the parts of a rational as the walk meets them -/
theorem rneg_any (w : World) (v : Value) (q : Rat) (hv : RatV w v q) (hs : (digits q.num.natAbs).length ≤ 1073741824) (hs' : (digits q.den).length ≤ 1073741824) :
    Calls Tryz.prog 31 #[v] w fun e w' => ∃ u, e = .returned u ∧ Below w.heap.size w w' ∧ RatO w.heap.size w' u (-q) := by
  have e1 := Lib.hid (fr_not q)
  have hdn := Lib.hid q.den_nz
  obtain ⟨b, A, n, ca, B, m, cb, rfl, hx, hca, hcb, hr⟩ := hv.cut
  obtain ⟨P, hP⟩ : ∃ P, P = q.num.natAbs := ⟨_, rfl⟩
  obtain ⟨D, hD⟩ : ∃ D, D = q.den := ⟨_, rfl⟩
  rw [← hP, ← hD] at hx hr
  rw [← hP] at hs; rw [← hD] at hs'
  have E1 : Hid (fr (!b) P D = -q) := Lib.hid (by rw [hx.out.1, hP, hD]; exact e1.out)
  have Hdn : Hid (D ≠ 0) := Lib.hid (by rw [hD]; exact hdn.out)
  have hn := hx.out.2.1; have hm := hx.out.2.2
  have Hn := Lib.hid hn; have Hm := Lib.hid hm
  rw [← hn] at hs; rw [← hm] at hs'
  clear hx e1 hdn hP hD hn hm
  go_enter Tryz.func31, Tryz.ntmps31
  go_wp2_with fail
  have Hw := Lib.hid (btwo (w := w) (.cells #[.bool b, .slice A n ca, .slice B m cb] 31) (.cells #[.bool false, .slice none 0 0, .slice none 0 0] 31))
  have Hp := Lib.hid (push2 w (.cells #[.bool b, .slice A n ca, .slice B m cb] 31) (.cells #[.bool false, .slice none 0 0, .slice none 0 0] 31))
  generalize ((w.alloc (.cells #[.bool b, .slice A n ca, .slice B m cb] 31)).alloc (.cells #[.bool false, .slice none 0 0, .slice none 0 0] 31)) = W at *
  have hB1 : w.heap.size + 1 < W.heap.size := by rw [Hp.out.2.2]; omega
  refine (flip_any W b A B n ca m cb).mono ?_
  rintro e w1 ⟨rfl, hb1⟩
  have Hb1 := Lib.hid hb1; clear hb1
  generalize hnb : (!b) = nb
  rw [hnb] at E1
  clear hnb
  go_wp2_with fail
  have ht := rtrim_any w1 P D Hdn.out nb A B ca cb (by rw [← Hn.out]; exact hca) (by rw [← Hm.out]; exact hcb) (by rw [← Hn.out]; exact hs) (by rw [← Hm.out]; exact hs') (hr.out.1.ext (bnext Hw.out Hb1.out)) (hr.out.2.ext (bnext Hw.out Hb1.out))
  rw [← Hn.out, ← Hm.out] at ht
  refine ht.mono ?_
  rintro e w2 ⟨v, rfl, hb2, ho2⟩
  rw [E1.out] at ho2
  obtain ⟨b, A2, n2, c2, B2, m2, d2, rfl, _, _, _, _⟩ := ho2.rv.cut
  have Hb2 := Lib.hid (bnext Hb1.out hb2); have Ho2 := Lib.hid ho2; clear hb2 ho2
  obtain ⟨k1, k2, k3⟩ := cells3 Hb2.out hB1 Hp.out.2.1
  have k4 := thaw' Hb2.out hB1 Hp.out.2.1 0; have k5 := thaw' Hb2.out hB1 Hp.out.2.1 1; have k6 := thaw' Hb2.out hB1 Hp.out.2.1 2
  go_wp2
  refine bodyPost_ret (v := .agg #[.bool b, .slice A2 n2 c2, .slice B2 m2 d2]) ?_ rfl ⟨_, rfl, ?_, ?_⟩
  · rw [results_cell1 rfl]; simp [go_sem, asAddr, Result.andThen, k1, k2, k3]
  · exact bset3 (bnext Hw.out Hb2.out) (Nat.le_succ _) _ _ _
  · exact (Ho2.out.set3 (Nat.lt_of_lt_of_le hB1 Hb1.out.size) _ _ _).mono (bnext Hw.out Hb1.out).size
end Go.Proofs.YtckiojofncdoeaaGreatDoor
