/- rational: isOne, read, natural. -/
import Derived.Test.YtckiojofncdoeaaGreatDoorIntC
import Derived.Test.YtckiojofncdoeaaGreatDoorNatI
namespace Go.Proofs.YtckiojofncdoeaaGreatDoor
open Go.RowKit

/-- The value v reads as the rational q. -/
def RatV (w : World) (v : Value) (q : Rat) : Prop := ∃ A ca B cb, v = .agg #[.bool (decide (q.num < 0)), .slice A (digits q.num.natAbs).length ca, .slice B (digits q.den).length cb] ∧
  (digits q.num.natAbs).length ≤ ca ∧ (digits q.den).length ≤ cb ∧ RU w A (digits q.num.natAbs) ∧ RU w B (digits q.den)
/-- The same in memory that was made from block base on. -/
def RatO (base : Nat) (w : World) (v : Value) (q : Rat) : Prop := ∃ x y, v = .agg #[.bool (decide (q.num < 0)), x, y] ∧ OwnU base w x (digits q.num.natAbs) ∧ OwnU base w y (digits q.den)
theorem RatO.rv {base : Nat} {w : World} {v : Value} {q : Rat} (h : RatO base w v q) : RatV w v q := by
  obtain ⟨x, y, rfl, h1, h2⟩ := h
  obtain ⟨A, ca, rfl, hca, hA⟩ := h1.rv
  obtain ⟨B, cb, rfl, hcb, hB⟩ := h2.rv
  exact ⟨A, ca, B, cb, rfl, hca, hcb, hA, hB⟩
theorem RatO.ext {base : Nat} {w w' : World} {v : Value} {q : Rat} (h : RatO base w v q) (hb : Below w.heap.size w w') : RatO base w' v q := by
  obtain ⟨x, y, rfl, h1, h2⟩ := h
  exact ⟨x, y, rfl, h1.ext hb, h2.ext hb⟩
theorem RatO.mono {base base' : Nat} {w : World} {v : Value} {q : Rat} (h : RatO base w v q) (hb : base' ≤ base) : RatO base' w v q := by
  obtain ⟨x, y, rfl, h1, h2⟩ := h
  exact ⟨x, y, rfl, h1.mono hb, h2.mono hb⟩
theorem RatO.setBelow {base : Nat} {w : World} {v : Value} {q : Rat} (h : RatO base w v q) {a : Addr} (ha : a.block < base) (u : Value) : RatO base (w.setCell a u) v q := by
  obtain ⟨x, y, rfl, h1, h2⟩ := h
  exact ⟨x, y, rfl, h1.setBelow ha u, h2.setBelow ha u⟩
theorem RatV.ext {w w' : World} {v : Value} {q : Rat} (h : RatV w v q) (hb : Below w.heap.size w w') : RatV w' v q := by
  obtain ⟨A, ca, B, cb, rfl, hca, hcb, hA, hB⟩ := h
  exact ⟨A, ca, B, cb, rfl, hca, hcb, hA.ext hb, hB.ext hb⟩

theorem bset3 {B g : Nat} {w w' : World} (h : Below B w w') (hg : B ≤ g) (a b c : Value) : Below B w (((w'.setCell ⟨g, 0, none⟩ a).setCell ⟨g, 1, none⟩ b).setCell ⟨g, 2, none⟩ c) :=
  ((h.setCell hg _).setCell hg _).setCell hg _
theorem bset4 {B g : Nat} {w w' : World} (h : Below B w w') (hg : B ≤ g) (a b c d : Value) : Below B w ((((w'.setCell ⟨g, 0, none⟩ a).setCell ⟨g, 1, none⟩ b).setCell ⟨g, 2, none⟩ c).setCell ⟨g, 3, none⟩ d) :=
  (((h.setCell hg _).setCell hg _).setCell hg _).setCell hg _
theorem RatO.set3 {base g : Nat} {w : World} {v : Value} {q : Rat} (h : RatO base w v q) (hg : g < base) (a b c : Value) : RatO base (((w.setCell ⟨g, 0, none⟩ a).setCell ⟨g, 1, none⟩ b).setCell ⟨g, 2, none⟩ c) v q :=
  ((h.setBelow hg _).setBelow hg _).setBelow hg _
theorem OwnU.set3 {base g : Nat} {w : World} {v : Value} {l : List Int} (h : OwnU base w v l) (hg : g < base) (a b c : Value) : OwnU base (((w.setCell ⟨g, 0, none⟩ a).setCell ⟨g, 1, none⟩ b).setCell ⟨g, 2, none⟩ c) v l :=
  ((h.setBelow hg _).setBelow hg _).setBelow hg _

theorem isOne_any (w : World) (A : Option Addr) (cap g : Nat) (h : RU w A (digits g)) :
    Calls Tryz.prog 41 #[.slice A (digits g).length cap] w fun e w' => e = .returned (.bool (decide (g = 1))) ∧ Below w.heap.size w w' := by
  by_cases h1 : (digits g).length = 1
  · obtain ⟨b, o, rfl, hc⟩ := h.addr 0 (by omega)
    have hd := val_digits g
    obtain ⟨x, hx⟩ : ∃ x, digits g = [x] := by
      cases hh : digits g with
      | nil => rw [hh] at h1; simp at h1
      | cons x t => cases t with
        | nil => exact ⟨x, rfl⟩
        | cons y t => rw [hh] at h1; simp at h1
    rw [hx] at hd hc
    have hx0 := (h.wf x (by rw [hx]; simp)).1
    rw [val_one] at hd
    have hc' : w.cell? ⟨b, o, none⟩ = some (.int .u32 x) := hc
    rw [h1]
    have hgx : decide (g = 1) = (x == 1) := by
      by_cases h2 : g = 1
      · have : x = 1 := by omega
        simp [h2, this]
      · have : x ≠ 1 := by omega
        simp [h2, this]
    rw [hgx]
    clear hc hd hx hgx h1 h
    go_enter Tryz.func41, Tryz.ntmps41
    go_wp2
    all_goals go_ret
    all_goals exact ⟨rfl, Below.refl _ _⟩
  · have hb : (((digits g).length : Int) == 1) = false := by simp; omega
    have hg : decide (g = 1) = false := by
      by_cases h2 : g = 1
      · subst h2; exact absurd (show (digits 1).length = 1 by rw [digits_one (by decide) (by decide)]; rfl) h1
      · simpa using h2
    rw [hg]
    clear hg h
    go_enter Tryz.func41, Tryz.ntmps41
    go_wp2
    all_goals go_ret
    all_goals exact ⟨rfl, Below.refl _ _⟩

theorem read_any (w : World) (d : Nat) (hq0 : d ≠ 0) (s : Bool) (A B : Option Addr) (n ca cb : Nat) (hcb : (digits d).length ≤ cb) (hs : (digits d).length ≤ 1073741824) (h : RU w B (digits d)) :
    Calls Tryz.prog 54 #[.agg #[.bool s, .slice A n ca, .slice B (digits d).length cb]] w fun e w' =>
      e = .returned (.agg #[.bool s, .slice A n ca, .slice B (digits d).length cb, .bool (decide (d = 1))]) ∧ Below w.heap.size w w' := by
  by_cases hd : d = 1
  · have hdd : digits d = [(1 : Int)] := by rw [hd]; exact digits_one (by decide) (by decide)
    rw [hdd] at h hcb ⊢
    obtain ⟨b, o, rfl, hc⟩ := h.addr 0 (by simp)
    have hc' : w.cell? ⟨b, o, none⟩ = some (.int .u32 1) := hc
    have hblt := World.block_lt_of_cell? w _ hc'
    rw [decide_eq_true hd]
    simp only [List.length_singleton]
    have hc2 : (((w.alloc (.cells #[.bool s, .slice A n ca, .slice (some ⟨b, o, none⟩) 1 cb] 31)).alloc (.cells #[.bool false, .slice none 0 0, .slice none 0 0, .bool false] 79))).cell? ⟨b, o, none⟩ = some (.int .u32 1) := cell_below (btwo _ _) hc'
    clear hc hdd hs h hcb hd hq0 hc'
    go_enter Tryz.func54, Tryz.ntmps54
    go_wp2
    all_goals (refine bodyPost_ret (v := .agg #[.bool s, .slice A n ca, .slice (some ⟨b, o, none⟩) 1 cb, .bool true]) ?_ rfl ⟨rfl, btwo _ _⟩)
    all_goals (rw [results_cell1 rfl]; simp [go_sem, asAddr, Result.andThen])
  · have hpos : 0 < d := by omega
    rw [decide_eq_false hd]
    have Hh := Lib.hid h
    have Hb2 := Lib.hid (btwo (w := w) (.cells #[.bool s, .slice A n ca, .slice B (digits d).length cb] 31) (.cells #[.bool false, .slice none 0 0, .slice none 0 0, .bool false] 79))
    by_cases h1 : (digits d).length = 1
    · obtain ⟨b, o, rfl, hc⟩ := h.addr 0 (by omega)
      have hvd := val_digits d
      obtain ⟨x, hx⟩ : ∃ x, digits d = [x] := by
        cases hh : digits d with
        | nil => rw [hh] at h1; simp at h1
        | cons x t => cases t with
          | nil => exact ⟨x, rfl⟩
          | cons y t => rw [hh] at h1; simp at h1
      have hx0 := (h.wf x (by rw [hx]; simp)).1
      rw [hx, val_one] at hvd
      have hx1 : (x == 1) = false := by simp; omega
      have hc' : w.cell? ⟨b, o, none⟩ = some (.int .u32 x) := by rw [hx] at hc; exact hc
      rw [h1] at hcb ⊢
      have Hb3 := Lib.hid (btwo (w := w) (.cells #[.bool s, .slice A n ca, .slice (some ⟨b, o, none⟩) 1 cb] 31) (.cells #[.bool false, .slice none 0 0, .slice none 0 0, .bool false] 79))
      have hc2 := cell_below Hb3.out hc'
      have h1' := Lib.hid h1
      clear hc hx hvd hx0 h h1 hc' hs hd
      go_enter Tryz.func54, Tryz.ntmps54
      go_wp2_with fail
      refine (compare_any _ (some ⟨b, o, none⟩) none 1 cb 0 0 (digits d) [] h1'.out hcb (by omega) (Hh.out.ext Hb3.out) rfl (Nat.le_refl _) (by omega) ⟨Wf.nil, fun h => absurd h (by simp)⟩).mono ?_
      rintro e w1 ⟨rfl, q1, rfl⟩
      rw [val_nil, val_digits, cmpN_gt hpos]
      go_wp2
      all_goals (refine bodyPost_ret (v := .agg #[.bool s, .slice A n ca, .slice (some ⟨b, o, none⟩) 1 cb, .bool false]) ?_ rfl ⟨rfl, ?_⟩)
      all_goals first
        | (rw [results_cell1 rfl]; simp [go_sem, asAddr, Result.andThen]; done)
        | exact bset4 (bnext Hb3.out (bdrewN _)) (Nat.le_succ _) _ _ _ _
    · have h1' : (((digits d).length : Int) == 1) = false := by simp; omega
      clear h h1 hd
      go_enter Tryz.func54, Tryz.ntmps54
      go_wp2_with fail
      refine (compare_any _ B none (digits d).length cb 0 0 (digits d) [] rfl hcb (by omega) (Hh.out.ext Hb2.out) rfl (Nat.le_refl _) (by omega) ⟨Wf.nil, fun h => absurd h (by simp)⟩).mono ?_
      rintro e w1 ⟨rfl, q1, rfl⟩
      rw [val_nil, val_digits, cmpN_gt hpos]
      go_wp2
      all_goals (refine bodyPost_ret (v := .agg #[.bool s, .slice A n ca, .slice B (digits d).length cb, .bool false]) ?_ rfl ⟨rfl, ?_⟩)
      all_goals first
        | (rw [results_cell1 rfl]; simp [go_sem, asAddr, Result.andThen]; done)
        | exact bset4 (bnext Hb2.out (bdrewN _)) (Nat.le_succ _) _ _ _ _
end Go.Proofs.YtckiojofncdoeaaGreatDoor
