/- integer: Mul, Add. -/
import Derived.Test.YtckiojofncdoeaaGreatDoorIntA
namespace Go.Proofs.YtckiojofncdoeaaGreatDoor
open Go.RowKit

theorem box2 {w W : World} {g : Nat} {a b : Value} {t : TypeId} (h : W.heap[g]? = some (.cells #[a, b] t (0, 0))) (hb : Below W.heap.size W w) :
    w.cell? ⟨g, 0, none⟩ = some a ∧ w.cell? ⟨g, 1, none⟩ = some b :=
  ⟨(cell_at (heap_at hb h) 0 _ rfl).1, (cell_at (heap_at hb h) 1 _ rfl).1⟩
theorem box3 {w W : World} {g : Nat} {a b c : Value} {t : TypeId} (h : W.heap[g]? = some (.cells #[a, b, c] t (0, 0))) (hb : Below W.heap.size W w) :
    w.cell? ⟨g, 0, none⟩ = some a ∧ w.cell? ⟨g, 1, none⟩ = some b ∧ w.cell? ⟨g, 2, none⟩ = some c :=
  ⟨(cell_at (heap_at hb h) 0 _ rfl).1, (cell_at (heap_at hb h) 1 _ rfl).1, (cell_at (heap_at hb h) 2 _ rfl).1⟩
theorem box4 {w W : World} {g : Nat} {a b c d : Value} {t : TypeId} (h : W.heap[g]? = some (.cells #[a, b, c, d] t (0, 0))) (hb : Below W.heap.size W w) :
    w.cell? ⟨g, 0, none⟩ = some a ∧ w.cell? ⟨g, 1, none⟩ = some b ∧ w.cell? ⟨g, 2, none⟩ = some c ∧ w.cell? ⟨g, 3, none⟩ = some d :=
  ⟨(cell_at (heap_at hb h) 0 _ rfl).1, (cell_at (heap_at hb h) 1 _ rfl).1, (cell_at (heap_at hb h) 2 _ rfl).1, (cell_at (heap_at hb h) 3 _ rfl).1⟩
theorem thaw {w W : World} {g : Nat} {cs : Array Value} {t : TypeId} (h : W.heap[g]? = some (.cells cs t (0, 0))) (hb : Below W.heap.size W w) (i : Nat) : w.frozen? ⟨g, i, none⟩ = false := by
  have h1 := heap_at hb h
  simp [World.frozen?, h1]

theorem push3 (w : World) (o1 o2 o3 : Obj) : (((w.alloc o1).alloc o2).alloc o3).heap[w.heap.size]? = some o1 ∧ (((w.alloc o1).alloc o2).alloc o3).heap[w.heap.size + 1]? = some o2 ∧
    (((w.alloc o1).alloc o2).alloc o3).heap[w.heap.size + 1 + 1]? = some o3 ∧ (((w.alloc o1).alloc o2).alloc o3).heap.size = w.heap.size + 1 + 1 + 1 := by
  show (((w.heap.push o1).push o2).push o3)[w.heap.size]? = some o1 ∧ (((w.heap.push o1).push o2).push o3)[w.heap.size + 1]? = some o2 ∧
    (((w.heap.push o1).push o2).push o3)[w.heap.size + 1 + 1]? = some o3 ∧ (((w.heap.push o1).push o2).push o3).size = w.heap.size + 1 + 1 + 1
  have e1 : (w.heap.push o1).size = w.heap.size + 1 := by simp
  have e2 : ((w.heap.push o1).push o2).size = w.heap.size + 1 + 1 := by simp
  have last : ∀ (a : Array Obj) (o : Obj), (a.push o)[a.size]? = some o := fun a o => by simp
  refine ⟨?_, ?_, ?_, ?_⟩
  · rw [Array.getElem?_push_lt (by omega), Array.getElem_push_lt (by omega), Array.getElem_push_eq]
  · have h := last (w.heap.push o1) o2
    rw [e1] at h
    rw [Array.getElem?_push_lt (by omega), ← Array.getElem?_eq_getElem]
    exact h
  · have h := last ((w.heap.push o1).push o2) o3
    rwa [e2] at h
  · simp

theorem Below.le {B B' : Nat} {w w' : World} (h : Below B' w w') (hB : B ≤ B') : Below B w w' := ⟨h.os, h.tape, h.output, h.size, fun k hk => h.block k (Nat.lt_of_lt_of_le hk hB)⟩
/-- What boxes of two cells hold, at each world that leaves the blocks below B alone. -/
theorem cells22 {W w : World} {B g k : Nat} {a b c d : Value} {t t' : TypeId} (hb : Below B W w) (hg : g < B) (hk : k < B) (h : W.heap[g]? = some (.cells #[a, b] t (0, 0))) (h' : W.heap[k]? = some (.cells #[c, d] t' (0, 0))) :
    w.cell? ⟨g, 0, none⟩ = some a ∧ w.cell? ⟨g, 1, none⟩ = some b ∧ w.cell? ⟨k, 0, none⟩ = some c ∧ w.cell? ⟨k, 1, none⟩ = some d := by
  have h1 : w.heap[g]? = _ := (hb.block g hg).trans h
  have h2 : w.heap[k]? = _ := (hb.block k hk).trans h'
  exact ⟨(cell_at h1 0 _ rfl).1, (cell_at h1 1 _ rfl).1, (cell_at h2 0 _ rfl).1, (cell_at h2 1 _ rfl).1⟩
theorem cells2 {W w : World} {B g : Nat} {a b : Value} {t : TypeId} (hb : Below B W w) (hg : g < B) (h : W.heap[g]? = some (.cells #[a, b] t (0, 0))) :
    w.cell? ⟨g, 0, none⟩ = some a ∧ w.cell? ⟨g, 1, none⟩ = some b := by
  have h1 : w.heap[g]? = _ := (hb.block g hg).trans h
  exact ⟨(cell_at h1 0 _ rfl).1, (cell_at h1 1 _ rfl).1⟩
theorem thaw' {W w : World} {B g : Nat} {cs : Array Value} {t : TypeId} (hb : Below B W w) (hg : g < B) (h : W.heap[g]? = some (.cells cs t (0, 0))) (i : Nat) : w.frozen? ⟨g, i, none⟩ = false := by
  have h1 : w.heap[g]? = _ := (hb.block g hg).trans h
  simp [World.frozen?, h1]

theorem imul_any (w : World) (s t : Bool) (A B : Option Addr) (n cap m cap' : Nat) (l r : List Int) (hl : l.length = n) (hc : n ≤ cap) (hs : n ≤ 1073741824) (h : RU w A l)
    (hr : r.length = m) (hc' : m ≤ cap') (hs' : m ≤ 1073741824) (h' : RU w B r) :
    Calls Tryz.prog 56 #[.agg #[.bool s, .slice A n cap], .agg #[.bool t, .slice B m cap']] w fun e w' =>
      ∃ v, e = .returned (.agg #[.bool (!(s == t) && decide (0 < val l * val r)), v]) ∧ Below w.heap.size w w' ∧ OwnU w.heap.size w' v (digits (val l * val r)) := by
  have Hl := Lib.hid hl; clear hl
  have Hh := Lib.hid h; clear h
  have Hr := Lib.hid hr; clear hr
  have Hh' := Lib.hid h'; clear h'
  go_enter Tryz.func56, Tryz.ntmps56
  go_wp2
  have Hw := Lib.hid (bthree (w := w) (.cells #[.bool s, .slice A n cap] 29) (.cells #[.bool t, .slice B m cap'] 29) (.cells #[.bool false, .slice none 0 0] 29))
  have Hp := Lib.hid (push3 w (.cells #[.bool s, .slice A n cap] 29) (.cells #[.bool t, .slice B m cap'] 29) (.cells #[.bool false, .slice none 0 0] 29))
  generalize ((w.alloc (.cells #[.bool s, .slice A n cap] 29)).alloc (.cells #[.bool t, .slice B m cap'] 29)).alloc (.cells #[.bool false, .slice none 0 0] 29) = W at *
  have Hb0 := Lib.hid (Drew.below (Drew.refl W).step1)
  have hB : w.heap.size + 1 + 1 ≤ W.heap.size := by rw [Hp.out.2.2.2]; omega
  have hB1 : w.heap.size + 1 + 1 < W.heap.size := by rw [Hp.out.2.2.2]; omega
  go_region_held3 (fun w' => w'.cell? ⟨w.heap.size, 0, none⟩ = some (.bool s) ∧ w'.cell? ⟨w.heap.size, 1, none⟩ = some (.slice A n cap) ∧ w'.cell? ⟨w.heap.size + 1, 0, none⟩ = some (.bool t) ∧ w'.cell? ⟨w.heap.size + 1, 1, none⟩ = some (.slice B m cap'))
    (first
      | exact cells22 (Below.le Hb0.out hB) (by omega) (by omega) Hp.out.1 Hp.out.2.1
      | exact cells22 (Below.le Hb6.out hB) (by omega) (by omega) Hp.out.1 Hp.out.2.1
      | exact cells22 (Below.le Hb7.out hB) (by omega) (by omega) Hp.out.1 Hp.out.2.1
      | exact cells22 (((Below.le Hb7.out hB).setCell (Nat.le_refl _) _).setCell (Nat.le_refl _) _) (by omega) (by omega) Hp.out.1 Hp.out.2.1)
    (first
    | (go_at_call 62; refine (mul_any _ A B n cap m cap' l r Hl.out hc (by omega) (Hh.out.ext (bnext Hw.out Hb0.out)) Hr.out hc' (by omega) (Hh'.out.ext (bnext Hw.out Hb0.out))).mono ?_; rintro e w6 ⟨v6, rfl, hb6, ho6⟩; obtain ⟨A6, c6, rfl, hc6, _⟩ := ho6.rv; have Hb6 := Lib.hid (bnext Hb0.out hb6); have Ho6 := Lib.hid ho6; clear hb6 ho6)
    | (go_at_call 87; refine (signed_any' _ _ A6 (digits (val l * val r)).length c6).mono ?_; rintro e w7 ⟨b7, rfl, hbb, hb7⟩; have Ho7 := Lib.hid (Ho6.out.ext hb7); have Hb7 := Lib.hid (bnext Hb6.out hb7); clear hb7 Ho6;
        obtain ⟨k1, k3⟩ := cells2 Hb7.out hB1 Hp.out.2.2.1; have k2 := thaw' Hb7.out hB1 Hp.out.2.2.1 0; have k4 := thaw' Hb7.out hB1 Hp.out.2.2.1 1))
  all_goals go_wp2
  all_goals (refine bodyPost_ret (v := .agg #[.bool b7, .slice A6 (digits (val l * val r)).length c6]) ?_ rfl ⟨.slice A6 (digits (val l * val r)).length c6, ?_, ?_, ?_⟩)
  all_goals first
    | (rw [results_cell1 rfl]; simp [go_sem, asAddr, Result.andThen, k1, k3]; done)
    | (rw [hbb.out, pos_len]; done)
    | exact ((bnext Hw.out Hb7.out).setCell (Nat.le_trans (Nat.le_succ _) (Nat.le_succ _)) _).setCell (Nat.le_trans (Nat.le_succ _) (Nat.le_succ _)) _
    | exact ((Ho7.out.setBelow (by show w.heap.size + 1 + 1 < _; exact hB1) _).setBelow (by show w.heap.size + 1 + 1 < _; exact hB1) _).mono Hw.out.size
end Go.Proofs.YtckiojofncdoeaaGreatDoor
