/- integer: signed, Trim, ... -/
import Derived.Test.YtckiojofncdoeaaGreatDoorNatK
import Derived.Laws.ResultCell
namespace Go.Proofs.YtckiojofncdoeaaGreatDoor
open Go.RowKit

theorem results_cell1 {fn : Func} {p : Tmp} {ty : TypeId} (h : fn.results = #[.cell p ty]) (tmps : Array Value) (P : Program) (w : World) :
    (results fn tmps).run P w = ((asAddr (tmps.getD p undef)).run P w).andThen fun a w₁ => (loadVar ty a).run P w₁ := by
  simp only [results, h]
  simp [Sem.run_bind, Result.andThen]

theorem signed_any (w : World) (neg : Bool) (A : Option Addr) (n cap : Nat) :
    Calls Tryz.prog 87 #[.bool neg, .slice A n cap] w fun e w' => e = .returned (.agg #[.bool (neg && decide (0 < n)), .slice A n cap]) ∧ Below w.heap.size w w' := by
  go_enter Tryz.func87, Tryz.ntmps87
  cases neg
  all_goals go_wp2
  all_goals (refine bodyPost_ret (v := .agg #[_, .slice A n cap]) ?_ rfl ⟨rfl, (Below.refl _ _).alloc (Nat.le_refl _) _⟩)
  all_goals rw [results_cell1 rfl]
  all_goals simp [go_sem, asAddr, Result.andThen]


theorem natural_any (w : World) (A : Option Addr) (n cap : Nat) :
    Calls Tryz.prog 57 #[.slice A n cap] w fun e w' => e = .returned (.agg #[.bool false, .slice A n cap]) ∧ Below w.heap.size w w' := by
  go_enter Tryz.func57, Tryz.ntmps57
  go_wp2
  refine bodyPost_ret (v := .agg #[.bool false, .slice A n cap]) ?_ rfl ⟨rfl, (Below.refl _ _).alloc (Nat.le_refl _) _⟩
  rw [results_cell1 rfl]
  simp [go_sem, asAddr, Result.andThen]

theorem bthree {w : World} (o1 o2 o3 : Obj) : Below w.heap.size w (((w.alloc o1).alloc o2).alloc o3) :=
  (((Below.refl _ _).alloc (Nat.le_refl _) _).alloc (by simp) _).alloc (by simp; omega) _
theorem btwo {w : World} (o1 o2 : Obj) : Below w.heap.size w ((w.alloc o1).alloc o2) :=
  ((Below.refl _ _).alloc (Nat.le_refl _) _).alloc (by simp) _

theorem quotient_any (w : World) (s t : Bool) (A B : Option Addr) (n cap m cap' : Nat) :
    Calls Tryz.prog 58 #[.agg #[.bool s, .slice A n cap], .agg #[.bool t, .slice B m cap']] w fun e w' =>
      e = .returned (.agg #[.bool (!(s == t)), .slice A n cap, .slice B m cap']) ∧ Below w.heap.size w w' := by
  go_enter Tryz.func58, Tryz.ntmps58
  go_wp2
  refine bodyPost_ret (v := .agg #[.bool (!(s == t)), .slice A n cap, .slice B m cap']) ?_ rfl ⟨rfl, bthree _ _ _⟩
  rw [results_cell1 rfl]
  simp [go_sem, asAddr, Result.andThen]

theorem whole_any (w : World) (s : Bool) (A : Option Addr) (n cap : Nat) :
    Calls Tryz.prog 52 #[.agg #[.bool s, .slice A n cap]] w fun e w' =>
      ∃ g, e = .returned (.agg #[.bool s, .slice A n cap, .slice (some ⟨g, 0, none⟩) 1 1]) ∧ Below w.heap.size w w' ∧ OwnU w.heap.size w' (.slice (some ⟨g, 0, none⟩) 1 1) [1] := by
  go_enter Tryz.func52, Tryz.ntmps52
  go_wp2
  refine bodyPost_ret (v := .agg #[.bool s, .slice A n cap, .slice (some ⟨w.heap.size + 1 + 1, 0, none⟩) 1 1]) ?_ rfl ⟨_, rfl, bthree _ _ _, ?_⟩
  · rw [results_cell1 rfl]
    simp [go_sem, asAddr, Result.andThen]
  · have h := fun W : World => own_litU W w.heap.size [(1 : Int)] (Wf.one (by omega) (by omega))
    have h2 := h ((w.alloc (.cells #[.bool s, .slice A n cap] 29)).alloc (.cells #[.bool s, .slice A n cap, .slice (some ⟨w.heap.size + 1 + 1, 0, none⟩) 1 1] 31)) (by simp; omega) (by simp)
    simpa using h2

theorem sign_any (w : World) (s : Bool) (A : Option Addr) (n cap : Nat) (l : List Int) (hl : l.length = n) (hc : n ≤ cap) (hs : n ≤ 4294967296) (h : RU w A l) :
    Calls Tryz.prog 55 #[.agg #[.bool s, .slice A n cap]] w fun e w' => e = .returned (.int .i64 (if val l = 0 then 0 else if s then -1 else 1)) ∧ Below w.heap.size w w' := by
  have Hl := Lib.hid hl; clear hl
  have Hh := Lib.hid h; clear h
  have hb1 : Below w.heap.size w (w.alloc (.cells #[.bool s, .slice A n cap] 29)) := (Below.refl _ _).alloc (Nat.le_refl _) _
  go_enter Tryz.func55, Tryz.ntmps55
  go_wp2_with fail
  refine (compare_any _ A none n cap 0 0 l [] Hl.out hc hs (Hh.out.ext hb1) rfl (Nat.le_refl _) (by omega) ⟨Wf.nil, fun h => absurd h (by simp)⟩).mono ?_
  rintro e w1 ⟨rfl, q, rfl⟩
  rw [val_nil]
  by_cases hz : val l = 0
  · rw [hz, cmpN_eq rfl]
    have Hz := Lib.hid hz; clear hz
    go_wp2_with fail
    go_ret
    exact ⟨rfl, bnext hb1 (bdrewN _)⟩
  · rw [cmpN_gt (by omega)]
    have Hz := Lib.hid hz; clear hz
    cases s
    all_goals go_wp2_with fail
    all_goals go_ret
    all_goals exact ⟨rfl, bnext hb1 (bdrewN _)⟩

theorem signed_any' (w : World) (neg : Bool) (A : Option Addr) (n cap : Nat) :
    Calls Tryz.prog 87 #[.bool neg, .slice A n cap] w fun e w' => ∃ b : Bool, e = .returned (.agg #[.bool b, .slice A n cap]) ∧ Hid (b = (neg && decide (0 < n))) ∧ Below w.heap.size w w' := by
  refine (signed_any w neg A n cap).mono ?_
  rintro e w' ⟨rfl, hb⟩
  exact ⟨_, rfl, Lib.hid rfl, hb⟩

/-- What lies in a block that is there already stays behind a call. -/
theorem heap_at {W w' : World} (hb : Below W.heap.size W w') {g : Nat} {o : Obj} (h : W.heap[g]? = some o) : w'.heap[g]? = some o := by
  have hg : g < W.heap.size := by
    rcases Nat.lt_or_ge g W.heap.size with h1 | h1
    · exact h1
    · rw [Array.getElem?_eq_none h1] at h; cases h
  rw [hb.block g hg]
  exact h
theorem cell_at {w : World} {g : Nat} {cs : Array Value} {t : TypeId} (h : w.heap[g]? = some (.cells cs t (0, 0))) (i : Nat) (v : Value) (hv : cs[i]? = some v) : w.cell? ⟨g, i, none⟩ = some v ∧ w.frozen? ⟨g, i, none⟩ = false := by
  constructor
  · simp [World.cell?, h, hv]
  · simp [World.frozen?, h]

theorem alloc_last (w : World) (o : Obj) : (w.alloc o).heap[w.heap.size]? = some o := by
  show (w.heap.push o)[w.heap.size]? = some o
  simp
theorem alloc_at2 (w : World) (o1 o2 : Obj) : ((w.alloc o1).alloc o2).drew.heap[w.heap.size + 1]? = some o2 := by
  show ((w.alloc o1).alloc o2).heap[w.heap.size + 1]? = some o2
  have h := alloc_last (w.alloc o1) o2
  rwa [show (w.alloc o1).heap.size = w.heap.size + 1 from by simp] at h

theorem alloc_at1 (w : World) (o1 o2 : Obj) : ((w.alloc o1).alloc o2).drew.heap[w.heap.size]? = some o1 := by
  show ((w.alloc o1).alloc o2).heap[w.heap.size]? = some o1
  show ((w.heap.push o1).push o2)[w.heap.size]? = some o1
  rw [Array.getElem?_push_lt (by simp)]
  simp

theorem pos_len (a : Nat) : decide (0 < (digits a).length) = decide (0 < a) := by
  have h := digits_nil_iff a
  rcases Nat.eq_zero_or_pos a with h1 | h1
  · rw [h.2 h1, h1]
  · have : 0 < (digits a).length := by
      rcases Nat.eq_zero_or_pos (digits a).length with h2 | h2
      · have := h.1 h2; omega
      · exact h2
    simp [h1, this]
theorem OwnU.setBelow {base : Nat} {w : World} {v : Value} {l : List Int} (h : OwnU base w v l) {a : Addr} (ha : a.block < base) (u : Value) : OwnU base (w.setCell a u) v l := ⟨ownsRow_setCell_below h.1 ha u, h.2⟩
theorem size_two (w : World) (o1 o2 : Obj) : w.heap.size + 1 < ((w.alloc o1).alloc o2).drew.heap.size := by
  show w.heap.size + 1 < ((w.alloc o1).alloc o2).heap.size
  simp

theorem itrim_any (w : World) (s : Bool) (A : Option Addr) (n cap : Nat) (l : List Int) (hl : l.length = n) (hc : n ≤ cap) (hs : n ≤ 4294967296) (h : RU w A l) :
    Calls Tryz.prog 89 #[.agg #[.bool s, .slice A n cap]] w fun e w' =>
      ∃ v, e = .returned (.agg #[.bool (s && decide (0 < val l)), v]) ∧ Below w.heap.size w w' ∧ OwnU w.heap.size w' v (digits (val l)) := by
  have Hl := Lib.hid hl; clear hl
  have Hh := Lib.hid h; clear h
  go_enter Tryz.func89, Tryz.ntmps89
  go_wp2
  have Hw := Lib.hid (bnext (btwo (w := w) (.cells #[.bool s, .slice A n cap] 29) (.cells #[.bool false, .slice none 0 0] 29)) (Drew.below (Drew.refl _).step1))
  have Hblk := Lib.hid (alloc_at2 w (.cells #[.bool s, .slice A n cap] 29) (.cells #[.bool false, .slice none 0 0] 29))
  have Hbox := Lib.hid (alloc_at1 w (.cells #[.bool s, .slice A n cap] 29) (.cells #[.bool false, .slice none 0 0] 29))
  go_region_with (first
    | (go_at_call 69; refine (trim_any _ A n cap l Hl.out hc hs (Hh.out.ext Hw.out)).mono ?_; rintro e w6 ⟨v6, rfl, hb6, ho6⟩; obtain ⟨A6, c6, rfl, hc6, _⟩ := ho6.rv; have Hb6 := Lib.hid hb6; have Ho6 := Lib.hid ho6; clear hb6 ho6; obtain ⟨k5, k6⟩ := cell_at (heap_at Hb6.out Hbox.out) 0 _ rfl)
    | (go_at_call 87; refine (signed_any' _ s A6 (digits (val l)).length c6).mono ?_; rintro e w7 ⟨b7, rfl, hbb, hb7⟩; have Hb7 := Lib.hid hb7; clear hb7;
        obtain ⟨k1, k2⟩ := cell_at (heap_at Hb7.out (heap_at Hb6.out Hblk.out)) 0 _ rfl; obtain ⟨k3, k4⟩ := cell_at (heap_at Hb7.out (heap_at Hb6.out Hblk.out)) 1 _ rfl))
  all_goals go_wp2
  all_goals (refine bodyPost_ret (v := .agg #[.bool b7, .slice A6 (digits (val l)).length c6]) ?_ rfl ⟨.slice A6 (digits (val l)).length c6, ?_, ?_, ?_⟩)
  all_goals first
    | (rw [results_cell1 rfl]; simp [go_sem, asAddr, Result.andThen, k1, k3]; done)
    | (rw [hbb.out, pos_len]; done)
    | exact ((bnext (bnext Hw.out Hb6.out) Hb7.out).setCell (Nat.le_succ _) _).setCell (Nat.le_succ _) _
    | exact (((Ho6.out.ext Hb7.out).setBelow (show w.heap.size + 1 < _ from size_two _ _ _) _).setBelow (show w.heap.size + 1 < _ from size_two _ _ _) _).mono Hw.out.size
end Go.Proofs.YtckiojofncdoeaaGreatDoor
