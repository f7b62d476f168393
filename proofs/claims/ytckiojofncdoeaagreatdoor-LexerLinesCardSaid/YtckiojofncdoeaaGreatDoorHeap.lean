/- Slices of uint32 in memory that read as lists of digits; slices of the call's own. No function of the program is named. -/
import Derived.Test.YtckiojofncdoeaaGreatDoorDig
import Derived.WalkKit
import Derived.Lib.Hide
import Derived.Deep.Draws
import Derived.Deep.QuietTactic
import Derived.BigQuiet
import Derived.Deep.RegionWith
import Derived.Deep.RegionHeld3
import Derived.Deep.DeepCutAuto
import Derived.Deep.CutBlock
import Derived.Deep.DeepFit
import Derived.Deep.DeepMust
import Derived.Deep.RegionLaw
import Derived.KernelRfl
namespace Go.Proofs.YtckiojofncdoeaaGreatDoor
open Go.RowKit

/-- At address A lie the digits l. -/
structure RU (w : World) (A : Option Addr) (l : List Int) : Prop where
  wf : Wf l
  cells : 0 < l.length → ∃ b o, A = some ⟨b, o, none⟩ ∧ ∀ j, j < l.length → w.cell? ⟨b, o + j, none⟩ = some (.int .u32 (dg l j))
/-- The slice v reads as l. -/
def RV (w : World) (v : Value) (l : List Int) : Prop := ∃ A cap, v = .slice A l.length cap ∧ l.length ≤ cap ∧ RU w A l
/-- The slice v reads as l and lies in memory that the call made, from block base on. -/
def OwnU (base : Nat) (w : World) (v : Value) (l : List Int) : Prop := w.ownsRow base 67 1 v l.length (l.map (Value.int .u32)) ∧ Wf l

theorem cell_below {w w' : World} (h : Below w.heap.size w w') {a : Addr} {v : Value} (hc : w.cell? a = some v) : w'.cell? a = some v := (h.cell (World.block_lt_of_cell? w a hc)).trans hc
theorem RU.ext {w w' : World} {A : Option Addr} {l : List Int} (h : RU w A l) (hb : Below w.heap.size w w') : RU w' A l :=
  ⟨h.wf, fun hp => by
    obtain ⟨b, o, e, hc⟩ := h.cells hp
    exact ⟨b, o, e, fun j hj => cell_below hb (hc j hj)⟩⟩
theorem RV.ext {w w' : World} {v : Value} {l : List Int} (h : RV w v l) (hb : Below w.heap.size w w') : RV w' v l := by
  obtain ⟨A, cap, e, hc, hr⟩ := h
  exact ⟨A, cap, e, hc, hr.ext hb⟩
theorem RV.nil (w : World) : RV w (.slice none 0 0) [] := ⟨none, 0, rfl, Nat.le_refl _, Wf.nil, fun h => absurd h (by simp)⟩
theorem RV.wf {w : World} {v : Value} {l : List Int} (h : RV w v l) : Wf l := by obtain ⟨_, _, _, _, hr⟩ := h; exact hr.wf
theorem RV.of {w : World} {A : Option Addr} {n cap : Nat} {l : List Int} (hn : l.length = n) (hc : n ≤ cap) (h : RU w A l) : RV w (.slice A n cap) l := ⟨A, cap, by rw [hn], by omega, h⟩
theorem RU.take {w : World} {A : Option Addr} {l : List Int} (h : RU w A l) (m : Nat) : RU w A (l.take m) :=
  ⟨h.wf.take m, fun hp => by
    rw [List.length_take] at hp
    obtain ⟨b, o, e, hc⟩ := h.cells (by omega)
    refine ⟨b, o, e, fun j hj => ?_⟩
    rw [List.length_take] at hj
    rw [dg_take _ _ _ (by omega)]
    exact hc j (by omega)⟩
theorem RU.drop {w : World} {A : Option Addr} {l : List Int} (h : RU w A l) (m cap : Nat) (hc : l.length ≤ cap) : RU w (if cap = m then A else A.map (·.add m)) (l.drop m) :=
  ⟨h.wf.drop m, fun hp => by
    rw [List.length_drop] at hp
    obtain ⟨b, o, rfl, hcell⟩ := h.cells (by omega)
    rw [if_neg (by omega)]
    refine ⟨b, o + m, ?_, fun j hj => ?_⟩
    · simp only [Option.map_some, Addr.add]
      split
      · subst_vars; simp
      · rfl
    · rw [List.length_drop] at hj
      rw [dg_drop, Nat.add_assoc]
      exact hcell (m + j) (by omega)⟩
theorem OwnU.rv {base : Nat} {w : World} {v : Value} {l : List Int} (h : OwnU base w v l) : RV w v l := by
  obtain ⟨h, hw⟩ := h
  rcases Nat.eq_zero_or_pos l.length with h0 | h0
  · rcases h.2 with ⟨rfl, _⟩ | ⟨g, cap, cur, rfl, _, _, hcap, _⟩
    · exact ⟨none, 0, by rw [h0], by omega, hw, fun hp => absurd hp (by omega)⟩
    · exact ⟨_, cap, rfl, hcap, hw, fun hp => absurd hp (by omega)⟩
  · rcases h.2 with ⟨_, h1⟩ | ⟨g, cap, cur, rfl, _, _, hcap, _⟩
    · omega
    · refine ⟨_, cap, rfl, hcap, hw, fun _ => ⟨g, 0, rfl, fun j hj => ?_⟩⟩
      have hc := h.cells (g := g) rfl j (.int .u32 (dg l j)) (by simp [dg_get? l j hj])
      have ha : (⟨g, 0, none⟩ : Addr).add j = ⟨g, 0 + j, none⟩ := by unfold Addr.add; split <;> simp_all
      rwa [ha] at hc
theorem OwnU.nil (base : Nat) (w : World) : OwnU base w (.slice none 0 0) [] := ⟨World.ownsRow_nil _ _ _ _, Wf.nil⟩
theorem OwnU.alloc {base : Nat} {w : World} {v : Value} {l : List Int} (h : OwnU base w v l) (o : Obj) : OwnU base (w.alloc o) v l := ⟨h.1.alloc o, h.2⟩
theorem OwnU.drew {base : Nat} {w : World} {v : Value} {l : List Int} (h : OwnU base w v l) : OwnU base w.drew v l := ⟨h.1.drew, h.2⟩
theorem OwnU.mono {base base' : Nat} {w : World} {v : Value} {l : List Int} (h : OwnU base w v l) (hb : base' ≤ base) : OwnU base' w v l := by
  obtain ⟨⟨hl, h⟩, hw⟩ := h
  refine ⟨⟨hl, ?_⟩, hw⟩
  rcases h with h | ⟨g, cap, cur, e, hg, r⟩
  · exact .inl h
  · exact .inr ⟨g, cap, cur, e, by omega, r⟩
/-- It lives on where nothing that is there is written. -/
theorem OwnU.ext {base : Nat} {w w' : World} {v : Value} {l : List Int} (h : OwnU base w v l) (hb : Below w.heap.size w w') : OwnU base w' v l :=
  ⟨h.1.kept (row := none) ⟨hb.os, hb.tape, hb.output, hb.size, fun k hk _ => hb.block k hk⟩ (by cases v.ownBlock <;> simp), h.2⟩
theorem bthen {B : Nat} {w w1 w2 : World} (h : Below B w w1) (k : Below w1.heap.size w1 w2) (hB : B ≤ w1.heap.size) : Below B w w2 :=
  h.trans ⟨k.os, k.tape, k.output, k.size, fun i hi => k.block i (Nat.lt_of_lt_of_le hi hB)⟩
theorem bnext {w w1 w2 : World} (h : Below w.heap.size w w1) (k : Below w1.heap.size w1 w2) : Below w.heap.size w w2 := bthen h k h.size
theorem bdrewN {w : World} (n : Nat) : Below w.heap.size w (w.drewN n) := ⟨rfl, rfl, rfl, Nat.le_refl _, fun _ _ => rfl⟩
theorem run_equalIn_slice_nil' {P : Program} (w : World) (d : Nat) (t : TypeId) (a : Option Addr) (l c : Nat) (h : P.underlying t = some (.slice (P.elem t))) : (Op.equalIn (d + 1) t (.slice a l c) (.slice none 0 0)).run P w = .ok a.isNone w := by
  cases a <;> simp [Op.equalIn, run_underlying h]
@[go_sem] theorem run_eql_slice_nil' {P : Program} (w : World) (t : TypeId) (a : Option Addr) (l c : Nat) (h : P.underlying t = some (.slice (P.elem t))) : (binOp .eql t (.slice a l c) (.slice none 0 0)).run P w = .ok (.bool a.isNone) w := by
  have h1 : (Op.equal t (.slice a l c) (.slice none 0 0)).run P w = .ok a.isNone w := run_equalIn_slice_nil' w 9999 t a l c h
  simp only [binOp]
  simp [h1]
/-- contracts of callees that leave the world alone (w = w') or only draw, met inside a quiet region; the second pair behind an earlier draw -/
theorem q_left {P : Program} {f : FuncId} {args : Array Value} {w : World} {n : Nat} {v : Value}
    (h : Calls P f args (w.drewN n) fun e w' => w.drewN n = w' ∧ e = .returned v) : Calls P f args (w.drewN n) fun e w'' => e = .returned v ∧ ∃ m, w'' = w.drewN m :=
  h.mono fun _ _ ⟨hm, he⟩ => ⟨he, n, hm.symm⟩
theorem q_drew {P : Program} {f : FuncId} {args : Array Value} {w : World} {n : Nat} {v : Value}
    (h : Calls P f args (w.drewN n) fun e w' => e = .returned v ∧ ∃ m, w' = (w.drewN n).drewN m) : Calls P f args (w.drewN n) fun e w'' => e = .returned v ∧ ∃ m, w'' = w.drewN m :=
  h.mono fun _ _ ⟨he, m, hm⟩ => ⟨he, n + m, by rw [hm, World.drewN_drewN]⟩
theorem q_left2 {P : Program} {f : FuncId} {args : Array Value} {w : World} {a n : Nat} {v : Value}
    (h : Calls P f args (w.drewN (a + n)) fun e w' => w.drewN (a + n) = w' ∧ e = .returned v) :
    Calls P f args (w.drewN (a + n)) fun e w'' => e = .returned v ∧ ∃ m, w'' = w.drewN (a + m) :=
  h.mono fun _ _ ⟨hm, he⟩ => ⟨he, n, hm.symm⟩
theorem q_drew2 {P : Program} {f : FuncId} {args : Array Value} {w : World} {a n : Nat} {v : Value}
    (h : Calls P f args (w.drewN (a + n)) fun e w' => e = .returned v ∧ ∃ m, w' = (w.drewN (a + n)).drewN m) :
    Calls P f args (w.drewN (a + n)) fun e w'' => e = .returned v ∧ ∃ m, w'' = w.drewN (a + m) :=
  h.mono fun _ _ ⟨he, m, hm⟩ => ⟨he, n + m, by rw [hm, World.drewN_drewN, Nat.add_assoc]⟩
/-- only draws lie between -/
def Drew (w w' : World) : Prop := ∃ q, w' = w.drewN q
theorem Drew.refl (w : World) : Drew w w := ⟨0, rfl⟩
theorem Drew.step {w w' : World} (h : Drew w w') (n : Nat) : Drew w (w'.drewN n) := by
  obtain ⟨m, rfl⟩ := h
  exact ⟨m + n, World.drewN_drewN ..⟩
theorem Drew.step1 {w w' : World} (h : Drew w w') : Drew w w'.drew := h.step 1
theorem Drew.trans {w w1 w2 : World} (h : Drew w w1) (k : Drew w1 w2) : Drew w w2 := by
  obtain ⟨m, rfl⟩ := k
  exact h.step m
theorem Drew.below {w w' : World} (h : Drew w w') : Below w.heap.size w w' := by
  obtain ⟨n, rfl⟩ := h
  exact ⟨rfl, rfl, rfl, Nat.le_refl _, fun _ _ => rfl⟩
theorem Drew.cell {w w' : World} (h : Drew w w') (a : Addr) : w'.cell? a = w.cell? a := by obtain ⟨n, rfl⟩ := h; rfl
theorem Drew.out {w w' : World} (h : Drew w w') : ∃ q, w' = w.drewN q := h
theorem ret_val {v v' : Value} (h : v = v') : Ending.returned v = Ending.returned v' := by rw [h]
end Go.Proofs.YtckiojofncdoeaaGreatDoor
