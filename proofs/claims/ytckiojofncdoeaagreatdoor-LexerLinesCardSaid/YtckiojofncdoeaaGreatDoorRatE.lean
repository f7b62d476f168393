/- rational: Div. -/
import Derived.Test.YtckiojofncdoeaaGreatDoorRatD
import Derived.Test.YtckiojofncdoeaaGreatDoorReg
namespace Go.Proofs.YtckiojofncdoeaaGreatDoor
open Go.RowKit

theorem cells33 {W w : World} {B g k : Nat} {a b c d e f : Value} {t t' : TypeId} (hb : Below B W w) (hg : g < B) (hk : k < B) (h : W.heap[g]? = some (.cells #[a, b, c] t (0, 0))) (h' : W.heap[k]? = some (.cells #[d, e, f] t' (0, 0))) :
    w.cell? ⟨g, 0, none⟩ = some a ∧ w.cell? ⟨g, 1, none⟩ = some b ∧ w.cell? ⟨g, 2, none⟩ = some c ∧ w.cell? ⟨k, 0, none⟩ = some d ∧ w.cell? ⟨k, 1, none⟩ = some e ∧ w.cell? ⟨k, 2, none⟩ = some f := by
  obtain ⟨h1, h2, h3⟩ := cells3 hb hg h
  obtain ⟨h4, h5, h6⟩ := cells3 hb hk h'
  exact ⟨h1, h2, h3, h4, h5, h6⟩
theorem cells4f {w : World} {g : Nat} {a b c d : Value} {t : TypeId} (h : w.heap[g]? = some (.cells #[a, b, c, d] t (0, 0))) :
    w.cell? ⟨g, 0, none⟩ = some a ∧ w.cell? ⟨g, 1, none⟩ = some b ∧ w.cell? ⟨g, 2, none⟩ = some c ∧ w.cell? ⟨g, 3, none⟩ = some d ∧
    w.frozen? ⟨g, 0, none⟩ = false ∧ w.frozen? ⟨g, 1, none⟩ = false ∧ w.frozen? ⟨g, 2, none⟩ = false ∧ w.frozen? ⟨g, 3, none⟩ = false :=
  ⟨(cell_at h 0 _ rfl).1, (cell_at h 1 _ rfl).1, (cell_at h 2 _ rfl).1, (cell_at h 3 _ rfl).1, (cell_at h 0 _ rfl).2, (cell_at h 1 _ rfl).2, (cell_at h 2 _ rfl).2, (cell_at h 3 _ rfl).2⟩
/-- two loads, two calls in their order, two fresh variables -/
def TwoI (W : World) (V1 R1 V2 R2 : Value) (Z : Obj) (L : Nat → Bool) (vs : List Value) (w : World) : Prop :=
  Below W.heap.size W w ∧ ∃ x1 x2 x3 x4 p q, vs = [x1, x2, x3, x4, p, q] ∧ (L 0 = true → x1 = V1) ∧ (L 1 = true → x2 = R1) ∧ (L 2 = true → x3 = V2) ∧ (L 3 = true → x4 = R2) ∧
    (L 4 = true → ∃ g, p = .pointer (some ⟨g, 0, none⟩) ∧ W.heap.size ≤ g ∧ w.heap[g]? = some Z) ∧ (L 5 = true → ∃ g, q = .pointer (some ⟨g, 0, none⟩) ∧ W.heap.size ≤ g ∧ w.heap[g]? = some Z) ∧
    (L 4 = true → L 5 = true → p ≠ q)
def TwoR (W : World) (V1 R1 V2 R2 : Value) (Z Z' : Obj) (vs : List Value) (w : World) : Prop :=
  Below W.heap.size W w ∧ ∃ g k : Nat, vs = [V1, R1, V2, R2, .pointer (some ⟨g, 0, none⟩), .pointer (some ⟨k, 0, none⟩)] ∧ W.heap.size ≤ g ∧ W.heap.size ≤ k ∧ g ≠ k ∧ w.heap[g]? = some Z ∧ w.heap[k]? = some Z'
section
variable {W : World} {V1 R1 V2 R2 : Value} {Z : Obj} {L : Nat → Bool} {w w' : World}
theorem TwoI.start {x1 x2 x3 x4 p q : Value} : TwoI W V1 R1 V2 R2 Z (fun _ => false) [x1, x2, x3, x4, p, q] W.drew :=
  ⟨Drew.below (Drew.refl W).step1, _, _, _, _, _, _, rfl, fun h => (by cases h), fun h => (by cases h), fun h => (by cases h), fun h => (by cases h), fun h => (by cases h), fun h => (by cases h), fun h => (by cases h)⟩
theorem TwoI.load1 {x1 x2 x3 x4 p q : Value} (h : TwoI W V1 R1 V2 R2 Z L [x1, x2, x3, x4, p, q] w) : TwoI W V1 R1 V2 R2 Z (upd L 0) [V1, x2, x3, x4, p, q] w := by
  obtain ⟨hb, _, _, _, _, _, _, e, h0, h1, h2, h3, h4, h5, h6⟩ := h
  simp only [List.cons.injEq, and_true] at e
  obtain ⟨rfl, rfl, rfl, rfl, rfl, rfl⟩ := e
  exact ⟨hb, _, _, _, _, _, _, rfl, fun _ => rfl, h1, h2, h3, h4, h5, h6⟩
theorem TwoI.load2 {x1 x2 x3 x4 p q : Value} (h : TwoI W V1 R1 V2 R2 Z L [x1, x2, x3, x4, p, q] w) : TwoI W V1 R1 V2 R2 Z (upd L 2) [x1, x2, V2, x4, p, q] w := by
  obtain ⟨hb, _, _, _, _, _, _, e, h0, h1, h2, h3, h4, h5, h6⟩ := h
  simp only [List.cons.injEq, and_true] at e
  obtain ⟨rfl, rfl, rfl, rfl, rfl, rfl⟩ := e
  exact ⟨hb, _, _, _, _, _, _, rfl, h0, h1, fun _ => rfl, h3, h4, h5, h6⟩
theorem TwoI.call1 {x1 x2 x3 x4 p q : Value} (h : TwoI W V1 R1 V2 R2 Z L [x1, x2, x3, x4, p, q] w) (hw : Below w.heap.size w w') : TwoI W V1 R1 V2 R2 Z (upd L 1) [x1, R1, x3, x4, p, q] w' := by
  obtain ⟨hb, _, _, _, _, _, _, e, h0, h1, h2, h3, h4, h5, h6⟩ := h
  simp only [List.cons.injEq, and_true] at e
  obtain ⟨rfl, rfl, rfl, rfl, rfl, rfl⟩ := e
  exact ⟨bnext hb hw, _, _, _, _, _, _, rfl, h0, fun _ => rfl, h2, h3, fun h => (let ⟨g, e, hg, hz⟩ := h4 h; ⟨g, e, hg, heap_at hw hz⟩), fun h => (let ⟨g, e, hg, hz⟩ := h5 h; ⟨g, e, hg, heap_at hw hz⟩), h6⟩
theorem TwoI.call2 {x1 x2 x3 x4 p q : Value} (h : TwoI W V1 R1 V2 R2 Z L [x1, x2, x3, x4, p, q] w) (hw : Below w.heap.size w w') : TwoI W V1 R1 V2 R2 Z (upd L 3) [x1, x2, x3, R2, p, q] w' := by
  obtain ⟨hb, _, _, _, _, _, _, e, h0, h1, h2, h3, h4, h5, h6⟩ := h
  simp only [List.cons.injEq, and_true] at e
  obtain ⟨rfl, rfl, rfl, rfl, rfl, rfl⟩ := e
  exact ⟨bnext hb hw, _, _, _, _, _, _, rfl, h0, h1, h2, fun _ => rfl, fun h => (let ⟨g, e, hg, hz⟩ := h4 h; ⟨g, e, hg, heap_at hw hz⟩), fun h => (let ⟨g, e, hg, hz⟩ := h5 h; ⟨g, e, hg, heap_at hw hz⟩), h6⟩
theorem ptr_ne {g k : Nat} (h : g ≠ k) : Value.pointer (some ⟨g, 0, none⟩) ≠ Value.pointer (some ⟨k, 0, none⟩) := fun e => by
  simp only [Value.pointer.injEq, Option.some.injEq, Addr.mk.injEq, and_true] at e
  exact h e
theorem heap_lt {w : World} {g : Nat} {o : Obj} (h : w.heap[g]? = some o) : g < w.heap.size := (Array.getElem?_eq_some_iff.1 h).1
theorem TwoI.alloc1 {x1 x2 x3 x4 p q : Value} (h : TwoI W V1 R1 V2 R2 Z L [x1, x2, x3, x4, p, q] w) : TwoI W V1 R1 V2 R2 Z (upd L 4) [x1, x2, x3, x4, .pointer (some ⟨w.heap.size, 0, none⟩), q] (w.alloc Z) := by
  obtain ⟨hb, _, _, _, _, _, _, e, h0, h1, h2, h3, h4, h5, h6⟩ := h
  simp only [List.cons.injEq, and_true] at e
  obtain ⟨rfl, rfl, rfl, rfl, rfl, rfl⟩ := e
  have ha : Below w.heap.size w (w.alloc Z) := (Below.refl _ _).alloc (Nat.le_refl _) _
  refine ⟨bnext hb ha, _, _, _, _, _, _, rfl, h0, h1, h2, h3, fun _ => ⟨_, rfl, hb.size, alloc_last w Z⟩, fun h => (let ⟨g, e, hg, hz⟩ := h5 h; ⟨g, e, hg, heap_at ha hz⟩), fun _ h => ?_⟩
  obtain ⟨g, rfl, hg, hz⟩ := h5 h
  exact ptr_ne (Nat.ne_of_gt (heap_lt hz))
theorem TwoI.alloc2 {x1 x2 x3 x4 p q : Value} (h : TwoI W V1 R1 V2 R2 Z L [x1, x2, x3, x4, p, q] w) : TwoI W V1 R1 V2 R2 Z (upd L 5) [x1, x2, x3, x4, p, .pointer (some ⟨w.heap.size, 0, none⟩)] (w.alloc Z) := by
  obtain ⟨hb, _, _, _, _, _, _, e, h0, h1, h2, h3, h4, h5, h6⟩ := h
  simp only [List.cons.injEq, and_true] at e
  obtain ⟨rfl, rfl, rfl, rfl, rfl, rfl⟩ := e
  have ha : Below w.heap.size w (w.alloc Z) := (Below.refl _ _).alloc (Nat.le_refl _) _
  refine ⟨bnext hb ha, _, _, _, _, _, _, rfl, h0, h1, h2, h3, fun h => (let ⟨g, e, hg, hz⟩ := h4 h; ⟨g, e, hg, heap_at ha hz⟩), fun _ => ⟨_, rfl, hb.size, alloc_last w Z⟩, fun h _ => ?_⟩
  obtain ⟨g, rfl, hg, hz⟩ := h4 h
  exact ptr_ne (Nat.ne_of_lt (heap_lt hz))
theorem TwoI.done {vs : List Value} (hL : ∀ i, i < 6 → L i = true) (h : TwoI W V1 R1 V2 R2 Z L vs w) : TwoR W V1 R1 V2 R2 Z Z vs w := by
  obtain ⟨hb, x1, x2, x3, x4, p, q, rfl, h0, h1, h2, h3, h4, h5, h6⟩ := h
  obtain rfl := h0 (hL 0 (by decide)); obtain rfl := h1 (hL 1 (by decide)); obtain rfl := h2 (hL 2 (by decide)); obtain rfl := h3 (hL 3 (by decide))
  obtain ⟨g, rfl, hg, hz⟩ := h4 (hL 4 (by decide)); obtain ⟨k, rfl, hk, hz'⟩ := h5 (hL 5 (by decide))
  exact ⟨hb, g, k, rfl, hg, hk, fun e => h6 (hL 4 (by decide)) (hL 5 (by decide)) (by rw [e]), hz, hz'⟩
end
theorem cells44 {W w : World} {g k : Nat} {a b c d a' b' c' d' : Value} {t t' : TypeId} (hb : Below W.heap.size W w) (h : W.heap[g]? = some (.cells #[a, b, c, d] t (0, 0))) (h' : W.heap[k]? = some (.cells #[a', b', c', d'] t' (0, 0))) :
    w.cell? ⟨g, 0, none⟩ = some a ∧ w.cell? ⟨g, 1, none⟩ = some b ∧ w.cell? ⟨g, 2, none⟩ = some c ∧ w.cell? ⟨g, 3, none⟩ = some d ∧
    w.cell? ⟨k, 0, none⟩ = some a' ∧ w.cell? ⟨k, 1, none⟩ = some b' ∧ w.cell? ⟨k, 2, none⟩ = some c' ∧ w.cell? ⟨k, 3, none⟩ = some d' := by
  have h1 := cells4f (heap_at hb h)
  have h2 := cells4f (heap_at hb h')
  exact ⟨h1.1, h1.2.1, h1.2.2.1, h1.2.2.2.1, h2.1, h2.2.1, h2.2.2.1, h2.2.2.2.1⟩
theorem fresh1 {X Y : World} {o : Obj} (hb : Below (X.alloc o).heap.size (X.alloc o) Y) : Y.heap[X.heap.size]? = some o := heap_at hb (alloc_last X o)
theorem cells2g {w : World} {g : Nat} {a b : Value} {t : TypeId} (h : w.heap[g]? = some (.cells #[a, b] t (0, 0))) :
    w.cell? ⟨g, 0, none⟩ = some a ∧ w.cell? ⟨g, 1, none⟩ = some b ∧ w.frozen? ⟨g, 0, none⟩ = false ∧ w.frozen? ⟨g, 1, none⟩ = false :=
  ⟨(cell_at h 0 _ rfl).1, (cell_at h 1 _ rfl).1, (cell_at h 0 _ rfl).2, (cell_at h 1 _ rfl).2⟩
theorem stores4 {w : World} {g k : Nat} {a b c d : Value} {cs : Array Value} {t t' : TypeId} {z1 z2 z3 z4 : Value} (h : w.heap[g]? = some (.cells #[z1, z2, z3, z4] t (0, 0))) (h' : w.heap[k]? = some (.cells cs t' (0, 0))) (hgk : g ≠ k) :
    ((((w.setCell ⟨g, 0, none⟩ a).setCell ⟨g, 1, none⟩ b).setCell ⟨g, 2, none⟩ c).setCell ⟨g, 3, none⟩ d).heap[g]? = some (.cells #[a, b, c, d] t (0, 0)) ∧
    ((((w.setCell ⟨g, 0, none⟩ a).setCell ⟨g, 1, none⟩ b).setCell ⟨g, 2, none⟩ c).setCell ⟨g, 3, none⟩ d).heap[k]? = some (.cells cs t' (0, 0)) := by
  constructor
  · exact heap_set (heap_set (heap_set (heap_set h)))
  · rw [heap_set_ne hgk, heap_set_ne hgk, heap_set_ne hgk, heap_set_ne hgk]; exact h'

theorem digits_mul_le {a b i j : Nat} (ha : (digits a).length ≤ i) (hb : (digits b).length ≤ j) : (digits (a * b)).length ≤ i + j := by
  refine digits_length_le ?_
  have h1 : a < bB ^ i := by
    have := val_lt (Wf.digits a); rw [val_digits] at this
    exact Nat.lt_of_lt_of_le this (Nat.pow_le_pow_right bB_pos ha)
  have h2 : b < bB ^ j := by
    have := val_lt (Wf.digits b); rw [val_digits] at this
    exact Nat.lt_of_lt_of_le this (Nat.pow_le_pow_right bB_pos hb)
  rw [Nat.pow_add]
  exact Nat.mul_lt_mul_of_lt_of_le h1 (Nat.le_of_lt h2) (Nat.pow_pos bB_pos)
theorem div_sign (b b' : Bool) {P D P' D' : Nat} (hD : D ≠ 0) (hP : P' ≠ 0) {sN sD : Bool} (hN : sN = (!(b == false) && decide (0 < P * D'))) (hE : sD = (!(false == b') && decide (0 < D * P'))) :
    fr (!(sN == sD)) (P * D') (D * P') = fr (!(b == b')) (P * D') (D * P') := by
  have h1 : decide (0 < D * P') = true := decide_eq_true (Nat.mul_pos (Nat.pos_of_ne_zero hD) (Nat.pos_of_ne_zero hP))
  rw [h1] at hE
  by_cases h : 0 < P * D'
  · rw [decide_eq_true h] at hN
    subst hN hE
    cases b <;> cases b' <;> rfl
  · have h0 : P * D' = 0 := by omega
    rw [h0]
    unfold fr
    rw [sg_zero, sg_zero]
set_option maxHeartbeats 3200000 in
theorem rdiv_any (w : World) (v u : Value) (x y : Rat) (hv : RatV w v x) (hu : RatV w u y) (hs : (digits x.num.natAbs).length ≤ 1000000) (hs' : (digits x.den).length ≤ 1000000)
    (ht : (digits y.num.natAbs).length ≤ 1000000) (ht' : (digits y.den).length ≤ 1000000) :
    Calls Tryz.prog 29 #[v, u] w fun e w' => (y.num = 0 → e = .returned (.tuple #[.agg #[.bool false, .slice none 0 0, .slice none 0 0], .int .i64 3]) ∧ Below w.heap.size w w') ∧
      (y.num ≠ 0 → ∃ r, e = .returned (.tuple #[r, .int .i64 0]) ∧ Below w.heap.size w w' ∧ RatO w.heap.size w' r (x / y)) := by
  obtain ⟨b, A, n, ca, B, m, cb, rfl, hx, hca, hcb, hr⟩ := hv.cut
  obtain ⟨b', A', n', ca', B', m', cb', rfl, hx', hca', hcb', hr'⟩ := hu.cut
  obtain ⟨P, hP⟩ : ∃ P, P = x.num.natAbs := ⟨_, rfl⟩
  obtain ⟨D, hD⟩ : ∃ D, D = x.den := ⟨_, rfl⟩
  obtain ⟨P', hP'⟩ : ∃ P, P = y.num.natAbs := ⟨_, rfl⟩
  obtain ⟨D', hD'⟩ : ∃ D, D = y.den := ⟨_, rfl⟩
  rw [← hP, ← hD] at hx hr
  rw [← hP', ← hD'] at hx' hr'
  have hn := hx.out.2.1; have hm := hx.out.2.2; have hn' := hx'.out.2.1; have hm' := hx'.out.2.2
  have Hdn : Hid (D ≠ 0) := Lib.hid (by rw [hD]; exact x.den_nz)
  have Hdn' : Hid (D' ≠ 0) := Lib.hid (by rw [hD']; exact y.den_nz)
  rw [← hP, ← hn] at hs; rw [← hD, ← hm] at hs'; rw [← hP', ← hn'] at ht; rw [← hD', ← hm'] at ht'
  have Hn := Lib.hid hn; have Hm := Lib.hid hm; have Hn' := Lib.hid hn'; have Hm' := Lib.hid hm'
  have hb := hx.out.1; have hb' := hx'.out.1
  have Hfd : Hid (y.num ≠ 0 → fr (!(b == b')) (P * D') (D * P') = x / y) := Lib.hid (fun h => by rw [hb, hb', hP, hD, hP', hD']; exact fr_div x y h)
  have Hy0 : Hid (y.num = 0 ↔ P' = 0) := Lib.hid (by rw [hP']; omega)
  clear hx hx' hn hm hn' hm' hP hD hP' hD' hb hb'
  have hlN : (digits (P * D')).length ≤ n + m' := digits_mul_le (by rw [← Hn.out]; exact Nat.le_refl _) (by rw [← Hm'.out]; exact Nat.le_refl _)
  have hlD : (digits (D * P')).length ≤ m + n' := digits_mul_le (by rw [← Hm.out]; exact Nat.le_refl _) (by rw [← Hn'.out]; exact Nat.le_refl _)
  have HlN := Lib.hid hlN; have HlD := Lib.hid hlD; clear hlN hlD
  have Hw := Lib.hid (bthree (w := w) (.cells #[.bool b, .slice A n ca, .slice B m cb] 31) (.cells #[.bool b', .slice A' n' ca', .slice B' m' cb'] 31) (.cells #[.bool false, .slice none 0 0, .slice none 0 0] 31))
  have Hp := Lib.hid (push3 w (.cells #[.bool b, .slice A n ca, .slice B m cb] 31) (.cells #[.bool b', .slice A' n' ca', .slice B' m' cb'] 31) (.cells #[.bool false, .slice none 0 0, .slice none 0 0] 31))
  go_enter Tryz.func29, Tryz.ntmps29
  go_wp2
  generalize (((w.alloc (.cells #[.bool b, .slice A n ca, .slice B m cb] 31)).alloc (.cells #[.bool b', .slice A' n' ca', .slice B' m' cb'] 31)).alloc (.cells #[.bool false, .slice none 0 0, .slice none 0 0] 31)) = W at *
  have hB1 : w.heap.size + 1 + 1 < W.heap.size := by rw [Hp.out.2.2.2]; omega
  have hB0 : w.heap.size < W.heap.size := by omega
  have hB2 : w.heap.size + 1 < W.heap.size := by omega
  have Hb0 := Lib.hid (Drew.below (Drew.refl W).step1)
  have hS0 := cells33 Hb0.out (show w.heap.size < W.heap.size by omega) (show w.heap.size + 1 < W.heap.size by omega) Hp.out.1 Hp.out.2.1
  generalize hbb1 : decide (D = 1) = d1
  generalize hbb2 : decide (D' = 1) = d2
  have HD1 := Lib.hid hbb1; have HD2 := Lib.hid hbb2; clear hbb1 hbb2
  have r1 : ∀ w' : World, Below W.heap.size W w' → Calls Tryz.prog 54 #[.agg #[.bool b, .slice A n ca, .slice B m cb]] w' fun e w'' => e = .returned (.agg #[.bool b, .slice A n ca, .slice B m cb, .bool d1]) ∧ Below w'.heap.size w' w'' := fun w' hb => by
    have h := read_any w' D Hdn.out b A B n ca cb (by rw [← Hm.out]; exact hcb) (by rw [← Hm.out]; omega) (hr.out.2.ext (bnext Hw.out hb))
    rw [← Hm.out, HD1.out] at h
    exact h
  have r2 : ∀ w' : World, Below W.heap.size W w' → Calls Tryz.prog 54 #[.agg #[.bool b', .slice A' n' ca', .slice B' m' cb']] w' fun e w'' => e = .returned (.agg #[.bool b', .slice A' n' ca', .slice B' m' cb', .bool d2]) ∧ Below w'.heap.size w' w'' := fun w' hb => by
    have h := read_any w' D' Hdn'.out b' A' B' n' ca' cb' (by rw [← Hm'.out]; exact hcb') (by rw [← Hm'.out]; omega) (hr'.out.2.ext (bnext Hw.out hb))
    rw [← Hm'.out, HD2.out] at h
    exact h
  have R1 := Lib.hid r1; have R2 := Lib.hid r2; clear r1 r2
  refine wp_region_inv2 (n := 6) [10, 11, 12, 13, 6, 7] [undef, undef, undef, undef, undef, undef]
    (TwoR W (.agg #[.bool b, .slice A n ca, .slice B m cb]) (.agg #[.bool b, .slice A n ca, .slice B m cb, .bool d1]) (.agg #[.bool b', .slice A' n' ca', .slice B' m' cb']) (.agg #[.bool b', .slice A' n' ca', .slice B' m' cb', .bool d2])
      (.cells #[.bool false, .slice none 0 0, .slice none 0 0, .bool false] 79) (.cells #[.bool false, .slice none 0 0, .slice none 0 0, .bool false] 79))
    (TwoR W (.agg #[.bool b, .slice A n ca, .slice B m cb]) (.agg #[.bool b, .slice A n ca, .slice B m cb, .bool d1]) (.agg #[.bool b', .slice A' n' ca', .slice B' m' cb']) (.agg #[.bool b', .slice A' n' ca', .slice B' m' cb', .bool d2])
      (.cells #[.bool b, .slice A n ca, .slice B m cb, .bool d1] 79) (.cells #[.bool b', .slice A' n' ca', .slice B' m' cb', .bool d2] 79))
    (TwoI W (.agg #[.bool b, .slice A n ca, .slice B m cb]) (.agg #[.bool b, .slice A n ca, .slice B m cb, .bool d1]) (.agg #[.bool b', .slice A' n' ca', .slice B' m' cb']) (.agg #[.bool b', .slice A' n' ca', .slice B' m' cb', .bool d2])
      (.cells #[.bool false, .slice none 0 0, .slice none 0 0, .bool false] 79)) (by kernel_rfl) (by kernel_rfl) rfl TwoI.start ?_ (fun L vs w' hL hI => hI.done hL) ?_ ?_
  · intro i o hi ho L vs w' hI hL hpre Q' K hK
    have hI' := hI
    obtain ⟨hbW, x1, x2, x3, x4, p, q, rfl, h0, h1, h2, h3, h4, h5, h6⟩ := hI'
    have hi6 : i = 0 ∨ i = 1 ∨ i = 2 ∨ i = 3 ∨ i = 4 ∨ i = 5 := by omega
    rcases hi6 with rfl | rfl | rfl | rfl | rfl | rfl
    · clear h0 h1 h2 h3 h4 h5 h6 hpre hL
      obtain ⟨k1, k2, k3⟩ := cells3 hbW hB0 Hp.out.1
      simp only [List.getElem?_cons_zero, Option.some.injEq] at ho
      subst ho
      simp only [putAll, Act.put, List.setIfInBounds_toArray, List.set_cons_zero, List.set_cons_succ]
      go_wp2
      exact hK [_, x2, x3, x4, p, q] _ hI.load1
    · have e0 := h0 (hpre ⟨0, .data⟩ (by simp at ho; rw [← ho]; simp) rfl)
      clear h0 h1 h2 h3 h4 h5 h6 hpre hL
      subst e0
      simp only [List.getElem?_cons_zero, List.getElem?_cons_succ, Option.some.injEq] at ho
      subst ho
      simp only [putAll, Act.put, List.setIfInBounds_toArray, List.set_cons_zero, List.set_cons_succ]
      go_wp2_with fail
      refine (R1.out _ hbW).mono ?_
      rintro e w6 ⟨rfl, hb6⟩
      exact hK [_, _, x3, x4, p, q] _ (hI.call1 hb6)
    · clear h0 h1 h2 h3 h4 h5 h6 hpre hL
      obtain ⟨k1, k2, k3⟩ := cells3 hbW hB2 Hp.out.2.1
      simp only [List.getElem?_cons_zero, List.getElem?_cons_succ, Option.some.injEq] at ho
      subst ho
      simp only [putAll, Act.put, List.setIfInBounds_toArray, List.set_cons_zero, List.set_cons_succ]
      go_wp2
      exact hK [x1, x2, _, x4, p, q] _ hI.load2
    · have e0 := h2 (hpre ⟨2, .data⟩ (by simp at ho; rw [← ho]; simp) rfl)
      clear h0 h1 h2 h3 h4 h5 h6 hpre hL
      subst e0
      simp only [List.getElem?_cons_zero, List.getElem?_cons_succ, Option.some.injEq] at ho
      subst ho
      simp only [putAll, Act.put, List.setIfInBounds_toArray, List.set_cons_zero, List.set_cons_succ]
      go_wp2_with fail
      refine (R2.out _ hbW).mono ?_
      rintro e w6 ⟨rfl, hb6⟩
      exact hK [x1, x2, _, _, p, q] _ (hI.call2 hb6)
    · clear h0 h1 h2 h3 h4 h5 h6 hpre hL
      simp only [List.getElem?_cons_zero, List.getElem?_cons_succ, Option.some.injEq] at ho
      subst ho
      simp only [putAll, Act.put, List.setIfInBounds_toArray, List.set_cons_zero, List.set_cons_succ]
      go_wp2
      exact hK [x1, x2, x3, x4, _, q] _ hI.alloc1
    · clear h0 h1 h2 h3 h4 h5 h6 hpre hL
      simp only [List.getElem?_cons_zero, List.getElem?_cons_succ, Option.some.injEq] at ho
      subst ho
      simp only [putAll, Act.put, List.setIfInBounds_toArray, List.set_cons_zero, List.set_cons_succ]
      go_wp2
      exact hK [x1, x2, x3, x4, p, _] _ hI.alloc2
  · rintro vs w' ⟨hbW, g, k, rfl, hg, hk, hgk, hz1, hz2⟩ Q' hQ
    have ha := cells4f hz1
    have hm := stores4 (a := .bool b) (b := .slice A n ca) (c := .slice B m cb) (d := .bool d1) hz1 hz2 hgk
    have hb := cells4f hm.2
    have hm2 := stores4 (a := .bool b') (b := .slice A' n' ca') (c := .slice B' m' cb') (d := .bool d2) hm.2 hm.1 (Ne.symm hgk)
    have hfin := bset4 (bset4 hbW hg (.bool b) (.slice A n ca) (.slice B m cb) (.bool d1)) hk (.bool b') (.slice A' n' ca') (.slice B' m' cb') (.bool d2)
    have hQ' := Lib.hid hQ; have Hfin := Lib.hid hfin; have M2 := Lib.hid hm2; have Hz1 := Lib.hid hz1; have Hz2 := Lib.hid hz2
    clear hQ hfin hm hm2 hz1 hz2
    simp only [putAll, Act.put, List.setIfInBounds_toArray, List.set_cons_zero, List.set_cons_succ, List.drop_succ_cons, List.drop_zero]
    go_wp2
    exact hQ'.out [_, _, _, _, _, _] _ ⟨Hfin.out, g, k, rfl, hg, hk, hgk, M2.out.2, M2.out.1⟩
  · rintro vs w' ⟨hbW, g, k, rfl, hg, hk, hgk, hz1, hz2⟩
    have ha := cells4f hz1
    have hb := cells4f hz2
    simp only [putAll, Act.put, List.setIfInBounds_toArray, List.set_cons_zero, List.set_cons_succ]
    have Hz1 := Lib.hid hz1; have Hz2 := Lib.hid hz2; have HbW := Lib.hid hbW
    clear hz1 hz2 hbW
    by_cases hy : P' = 0
    · have hv0 : val (digits P') = 0 := by rw [val_digits]; exact hy
      go_wp2_with fail
      refine (sign_any w' b' A' n' ca' (digits P') Hn'.out.symm hca' (by omega) (hr'.out.1.ext (bnext Hw.out HbW.out))).mono ?_
      rintro e w5 ⟨rfl, hb5⟩
      rw [if_pos hv0]
      have Hb5 := Lib.hid (bnext HbW.out hb5)
      have hyn : y.num = 0 := Hy0.out.2 hy
      obtain ⟨k1, k2, k3⟩ := cells3 Hb5.out hB1 Hp.out.2.2.1
      have k4 := thaw' Hb5.out hB1 Hp.out.2.2.1 0; have k5 := thaw' Hb5.out hB1 Hp.out.2.2.1 1; have k6 := thaw' Hb5.out hB1 Hp.out.2.2.1 2
      clear hb5 hv0
      go_wp2
      refine bodyPost_ret (v := .tuple #[.agg #[.bool false, .slice none 0 0, .slice none 0 0], .int .i64 3]) ?_ rfl ⟨fun _ => ⟨rfl, ?_⟩, fun h => absurd hyn h⟩
      · rw [results_cell_tmp rfl]; simp [go_sem, asAddr, Result.andThen, k1, k2, k3]
      · first | exact bset3 (bnext Hw.out Hb5.out) (Nat.le_trans (Nat.le_succ _) (Nat.le_succ _)) _ _ _ | exact bnext Hw.out Hb5.out
    · have hv0 : val (digits P') ≠ 0 := by rw [val_digits]; exact hy
      go_upto_region 4 with (go_at_call 55; refine (sign_any w' b' A' n' ca' (digits P') Hn'.out.symm hca' (by omega) (hr'.out.1.ext (bnext Hw.out HbW.out))).mono ?_; rintro e w5 ⟨rfl, hb5⟩; rw [if_neg hv0]; have Hb5 := Lib.hid hb5; have hc5 := cells44 hb5 Hz1.out Hz2.out; clear hb5; generalize hsg : (if b' = true then (-1 : Int) else 1) = sgn; have hsz : (sgn == 0) = false := (by rw [← hsg]; cases b' <;> rfl); clear hsg)
      have hK0 := Lib.hid (Drew.below (Drew.refl w5).step1)
      have hS0 := cells44 hK0.out (heap_at Hb5.out Hz1.out) (heap_at Hb5.out Hz2.out)
      have HzA := Lib.hid (heap_at Hb5.out Hz1.out); have HzB := Lib.hid (heap_at Hb5.out Hz2.out)
      have Hb6 := Lib.hid (bnext HbW.out Hb5.out)
      clear hc5 ha hb
      go_cut [8] (fun p wx => ∃ (f : Nat) (s : Bool) (u : Value), p = .pointer (some ⟨f, 0, none⟩) ∧ Hid (s = (!(b == false) && decide (0 < P * D'))) ∧ Below w5.heap.size w5 wx ∧ w5.heap.size ≤ f ∧ wx.heap[f]? = some (.cells #[.bool s, u] 29 (0, 0)) ∧ OwnU w5.heap.size wx u (digits (P * D')))
      case first =>
        go_region_held3 (fun w' => w'.cell? ⟨g, 0, none⟩ = some (.bool b) ∧ w'.cell? ⟨g, 1, none⟩ = some (.slice A n ca) ∧ w'.cell? ⟨g, 2, none⟩ = some (.slice B m cb) ∧ w'.cell? ⟨g, 3, none⟩ = some (.bool d1) ∧ w'.cell? ⟨k, 0, none⟩ = some (.bool b') ∧ w'.cell? ⟨k, 1, none⟩ = some (.slice A' n' ca') ∧ w'.cell? ⟨k, 2, none⟩ = some (.slice B' m' cb') ∧ w'.cell? ⟨k, 3, none⟩ = some (.bool d2))
          (first
            | exact hS0
            | exact cells44 (hK0.out.alloc (Nat.le_refl _) _) HzA.out HzB.out
            | exact cells44 hK1.out HzA.out HzB.out
            | exact cells44 (hK1.out.alloc hK1.out.size _) HzA.out HzB.out
            | exact cells44 hK2.out HzA.out HzB.out
            | exact cells44 (hK2.out.alloc hK2.out.size _) HzA.out HzB.out
            | exact cells44 ((hK2.out.setCell hf2 _).setCell hf2 _) HzA.out HzB.out)
          (first
          | (go_at_call 57; refine (natural_any _ B' m' cb').mono ?_; rintro e w6 ⟨rfl, hb6⟩
             have hK1 : Hid (Below w5.heap.size w5 w6) := Lib.hid (bnext (by first | exact hK0.out | exact hK0.out.alloc (Nat.le_refl _) _) hb6)
             (first | (have kA : w6.heap[w5.heap.size]? = some (.cells #[.bool false, .slice none 0 0] 29) := heap_at hb6 (alloc_last w5 _); have kA1 := cells2g kA) | skip)
             clear hb6)
          | (go_at_call 56; refine (imul_any _ b false A B' n ca m' cb' (digits P) (digits D') Hn.out.symm hca (by omega) ?c1 Hm'.out.symm hcb' (by omega) ?c2).mono ?_
             case c1 => exact hr.out.1.ext (bnext Hw.out (bnext Hb6.out (by first | exact hK1.out | exact hK1.out.alloc hK1.out.size _)))
             case c2 => exact hr'.out.2.ext (bnext Hw.out (bnext Hb6.out (by first | exact hK1.out | exact hK1.out.alloc hK1.out.size _)))
             rintro e w7 ⟨v7, rfl, hb7, ho7⟩
             rw [val_digits, val_digits] at ho7 ⊢
             obtain ⟨A7, c7, rfl, hc7, _⟩ := ho7.rv
             have hK2 : Hid (Below w5.heap.size w5 w7) := Lib.hid (bnext (by first | exact hK1.out | exact hK1.out.alloc hK1.out.size _) hb7)
             (first | (have kB := fresh1 hb7; have kB1 := cells2g kB; have hf2 := hK1.out.size) | (have kB := heap_at hb7 kA; have kB1 := cells2g kB; have hf2 := Nat.le_refl w5.heap.size) | skip)
             have Ho7 := Lib.hid ho7
             have hsz7 := hb7.size
             generalize hs7 : (!(b == false) && decide (0 < P * D')) = s7
             have Hs7 := Lib.hid hs7.symm
             clear hb7 ho7 hs7))
        all_goals (go_wp2; go_meet)
        all_goals first
          | exact ⟨_, _, _, rfl, Hs7, hK2.out.alloc hK2.out.size _, hK2.out.size, alloc_last w7 _, (Ho7.out.alloc _).mono hK1.out.size⟩
          | exact ⟨_, _, _, rfl, Hs7, (hK2.out.setCell hf2 _).setCell hf2 _, hf2, heap_set (heap_set kB), ((Ho7.out.setBelow (heap_lt kA) _).setBelow (heap_lt kA) _).mono hK1.out.size⟩
          | exact ⟨_, _, _, rfl, Hs7, (hK2.out.setCell hf2 _).setCell hf2 _, hf2, heap_set (heap_set kB), ((Ho7.out.setBelow (by simp) _).setBelow (by simp) _).mono (Nat.le_trans hK1.out.size (by simp))⟩
      case rest =>
        obtain ⟨f, sN, uN, rfl, HsN, hbN, hfN, hzN, hoN⟩ := hcut
        obtain ⟨AN, cN, rfl, hcN, _⟩ := hoN.rv
        have HbN := Lib.hid (bnext Hb6.out hbN); have HzN := Lib.hid hzN; have HoN := Lib.hid hoN
        have HzC := Lib.hid (heap_at hbN HzA.out); have HzD := Lib.hid (heap_at hbN HzB.out)
        clear hbN hzN hoN hS0 hK0
        have hK0 := Lib.hid (Drew.below (Drew.refl wc).step1)
        have hS0 := cells44 hK0.out HzC.out HzD.out
        go_upto_region 5 with fail
        go_cut [9] (fun p wx => ∃ (f : Nat) (s : Bool) (u : Value), p = .pointer (some ⟨f, 0, none⟩) ∧ Hid (s = (!(false == b') && decide (0 < D * P'))) ∧ Below wc.heap.size wc wx ∧ wc.heap.size ≤ f ∧ wx.heap[f]? = some (.cells #[.bool s, u] 29 (0, 0)) ∧ OwnU wc.heap.size wx u (digits (D * P')))
        case first =>
          go_region_held3 (fun w' => w'.cell? ⟨g, 0, none⟩ = some (.bool b) ∧ w'.cell? ⟨g, 1, none⟩ = some (.slice A n ca) ∧ w'.cell? ⟨g, 2, none⟩ = some (.slice B m cb) ∧ w'.cell? ⟨g, 3, none⟩ = some (.bool d1) ∧ w'.cell? ⟨k, 0, none⟩ = some (.bool b') ∧ w'.cell? ⟨k, 1, none⟩ = some (.slice A' n' ca') ∧ w'.cell? ⟨k, 2, none⟩ = some (.slice B' m' cb') ∧ w'.cell? ⟨k, 3, none⟩ = some (.bool d2))
            (first
              | exact hS0
              | exact cells44 (hK0.out.alloc (Nat.le_refl _) _) HzC.out HzD.out
              | exact cells44 hK1.out HzC.out HzD.out
              | exact cells44 (hK1.out.alloc hK1.out.size _) HzC.out HzD.out
              | exact cells44 hK2.out HzC.out HzD.out
              | exact cells44 (hK2.out.alloc hK2.out.size _) HzC.out HzD.out
              | exact cells44 ((hK2.out.setCell hf2 _).setCell hf2 _) HzC.out HzD.out)
            (first
            | (go_at_call 57; refine (natural_any _ B m cb).mono ?_; rintro e w6 ⟨rfl, hb6⟩
               have hK1 : Hid (Below wc.heap.size wc w6) := Lib.hid (bnext (by first | exact hK0.out | exact hK0.out.alloc (Nat.le_refl _) _) hb6)
               (first | (have kA : w6.heap[wc.heap.size]? = some (.cells #[.bool false, .slice none 0 0] 29) := heap_at hb6 (alloc_last wc _); have kA1 := cells2g kA) | skip)
               clear hb6)
            | (go_at_call 56; refine (imul_any _ false b' B A' m cb n' ca' (digits D) (digits P') Hm.out.symm hcb (by omega) ?c1 Hn'.out.symm hca' (by omega) ?c2).mono ?_
               case c1 => exact hr.out.2.ext (bnext Hw.out (bnext HbN.out (by first | exact hK1.out | exact hK1.out.alloc hK1.out.size _)))
               case c2 => exact hr'.out.1.ext (bnext Hw.out (bnext HbN.out (by first | exact hK1.out | exact hK1.out.alloc hK1.out.size _)))
               rintro e w7 ⟨v7, rfl, hb7, ho7⟩
               rw [val_digits, val_digits] at ho7 ⊢
               obtain ⟨A7, c7, rfl, hc7, _⟩ := ho7.rv
               have hK2 : Hid (Below wc.heap.size wc w7) := Lib.hid (bnext (by first | exact hK1.out | exact hK1.out.alloc hK1.out.size _) hb7)
               (first | (have kB := fresh1 hb7; have kB1 := cells2g kB; have hf2 := hK1.out.size) | (have kB := heap_at hb7 kA; have kB1 := cells2g kB; have hf2 := Nat.le_refl wc.heap.size) | skip)
               have Ho7 := Lib.hid ho7
               have hsz7 := hb7.size
               generalize hs7 : (!(false == b') && decide (0 < D * P')) = s7
               have Hs7 := Lib.hid hs7.symm
               clear hb7 ho7 hs7))
          all_goals (go_wp2; go_meet)
          all_goals first
            | exact ⟨_, _, _, rfl, Hs7, hK2.out.alloc hK2.out.size _, hK2.out.size, alloc_last w7 _, (Ho7.out.alloc _).mono hK1.out.size⟩
            | exact ⟨_, _, _, rfl, Hs7, (hK2.out.setCell hf2 _).setCell hf2 _, hf2, heap_set (heap_set kB), ((Ho7.out.setBelow (heap_lt kA) _).setBelow (heap_lt kA) _).mono hK1.out.size⟩
            | exact ⟨_, _, _, rfl, Hs7, (hK2.out.setCell hf2 _).setCell hf2 _, hf2, heap_set (heap_set kB), ((Ho7.out.setBelow (by simp) _).setBelow (by simp) _).mono (Nat.le_trans hK1.out.size (by simp))⟩
        case rest =>
          obtain ⟨f5, sD, uD, rfl, HsD, hbD, hfD, hzD, hoD⟩ := hcut
          obtain ⟨AD, cD, rfl, hcD, _⟩ := hoD.rv
          have HbD := Lib.hid (bnext HbN.out hbD); have HoD := Lib.hid hoD; have HoM := Lib.hid (HoN.out.ext hbD)
          have hcN2 := cells2g (heap_at hbD HzN.out)
          have hcD2 := cells2g hzD
          clear hbD hzD hoD hS0 hK0
          have hlN := HlN.out; have hlD := HlD.out
          go_wp2_with fail
          refine (quotient_any _ sN sD AN AD _ cN _ cD).mono ?_
          rintro e w8 ⟨rfl, hb8⟩
          have Hb8 := Lib.hid (bnext HbD.out hb8); have HoM8 := Lib.hid (HoM.out.ext hb8); have HoD8 := Lib.hid (HoD.out.ext hb8)
          clear hb8
          have hyn : y.num ≠ 0 := fun h => hy (Hy0.out.1 h)
          have Hfin : Hid (fr (!(sN == sD)) (P * D') (D * P') = x / y) := Lib.hid (by rw [div_sign b b' Hdn.out hy HsN.out HsD.out]; exact Hfd.out hyn)
          generalize hsq : (!(sN == sD)) = sQ at *
          have Hdnz : Hid (D * P' ≠ 0) := Lib.hid (Nat.mul_ne_zero Hdn.out hy)
          clear hsq
          go_wp2_with fail
          refine (lowest_any w8 sQ AN AD _ cN _ cD (digits (P * D')) (digits (D * P')) rfl hcN (by omega) HoM8.out.ru rfl hcD (by omega) HoD8.out.ru (by rw [val_digits]; exact Hdnz.out)).mono ?_
          rintro e w9 ⟨v9, rfl, hb9, ho9⟩
          rw [val_digits, val_digits, Hfin.out] at ho9
          obtain ⟨b9, A9, n9, c9, B9, m9, d9, rfl, _, _, _, _⟩ := ho9.rv.cut
          have Hb9 := Lib.hid (bnext Hb8.out hb9); have Ho9 := Lib.hid ho9; clear hb9 ho9
          obtain ⟨k1, k2, k3⟩ := cells3 Hb9.out hB1 Hp.out.2.2.1
          have k4 := thaw' Hb9.out hB1 Hp.out.2.2.1 0; have k5 := thaw' Hb9.out hB1 Hp.out.2.2.1 1; have k6 := thaw' Hb9.out hB1 Hp.out.2.2.1 2
          go_wp2
          refine bodyPost_ret (v := .tuple #[.agg #[.bool b9, .slice A9 n9 c9, .slice B9 m9 d9], .int .i64 0]) ?_ rfl ⟨fun h => absurd h hyn, fun _ => ⟨_, rfl, ?_, ?_⟩⟩
          · rw [results_cell_tmp rfl]; simp [go_sem, asAddr, Result.andThen, k1, k2, k3]
          · exact bset3 (bnext Hw.out Hb9.out) (Nat.le_trans (Nat.le_succ _) (Nat.le_succ _)) _ _ _
          · exact (Ho9.out.set3 (Nat.lt_of_lt_of_le hB1 Hb8.out.size) _ _ _).mono (bnext Hw.out Hb8.out).size
end Go.Proofs.YtckiojofncdoeaaGreatDoor
