/- append and make on slices of the call's own. -/
import Derived.Test.YtckiojofncdoeaaGreatDoorProg
import Derived.Test.YtckiojofncdoeaaGreatDoorBits
import Derived.Deep.OwnRows
namespace Go.Proofs.YtckiojofncdoeaaGreatDoor
open Go.RowKit Go.Deep

/-- The slice u reads as the cells cs, size cells an element. -/
def ReadsC (W : World) (u : Value) (size n : Nat) (cs : List Value) : Prop :=
  ∃ A c, u = .slice A n c ∧ cs.length = n * size ∧ (0 < n → ∃ ad, A = some ad ∧ ∀ j x, cs[j]? = some x → W.cell? (ad.add j) = some x)
theorem own_base {w : World} {base : Nat} {e : TypeId} {size n : Nat} {v : Value} {xs : List Value} (h : w.ownsRow base e size v n xs) (k : Nat) (hk : v.ownBlock = some k) : base ≤ k := (h.lt k hk).1

section
variable {P : Program} {ops : Array Oper} {rest : List Oper} {o : Oper} {a : Act} {Q : Exit → Act → World → Prop}
theorem run_app (W : World) (base : Nat) (t ty e : TypeId) (z : Value) (size bytes : Nat)
    (ht : P.underlying t = some (.slice e)) (hinfo : (P.info? e).map (fun i => (i.zero, i.size, i.bytes)) = some (some z, size, bytes)) (hz : z.cells.size = size) (hs0 : 0 < size) (hb0 : 0 < bytes)
    (v : Value) (n : Nat) (xs : List Value) (HO : W.ownsRow base e size v n xs) (u : Value) (m : Nat) (ys : List Value) (HR : ReadsC W u size m ys) (h1 : ∀ y ∈ ys, y.oneCell' = true)
    (hbase : base ≤ W.heap.size) (hl : (n + m) * bytes ≤ 140737488355328) :
    ∃ v1 w1, (Builtin.append_ #[t, t] ty #[v, u]).run P W = .ok v1 w1 ∧ w1.ownsRow base e size v1 (n + m) (xs ++ ys) ∧ W.grownBy w1 v.ownBlock := by
  obtain ⟨i0, hi, hzz⟩ := Option.map_eq_some_iff.1 hinfo
  simp only [Prod.mk.injEq] at hzz
  obtain ⟨hz0, hz1, hz2⟩ := hzz
  have hlen : n + m ≤ 140737488355328 := Nat.le_trans (Nat.le_mul_of_pos_right _ hb0) hl
  obtain ⟨A, c, rfl, hyl, hcells⟩ := HR
  rcases Nat.eq_zero_or_pos m with h0 | h0
  · subst h0
    obtain rfl : ys = [] := List.eq_nil_of_length_eq_zero (by simpa using hyl)
    refine ⟨v, W, ?_, by simpa using HO, World.grownBy.refl W _⟩
    rcases HO.2 with ⟨rfl, hn⟩ | ⟨g, cap, cur, rfl, _, _, hnc, _⟩
    · cases A <;> simp [Builtin.append_, run_underlying ht, sizeOf, typeInfo, hi, Builtin.lenOf, Builtin.firstCells, loadCells, loadCellsFrom]
    · cases A <;> simp [Builtin.append_, run_underlying ht, sizeOf, typeInfo, hi, Builtin.lenOf, Builtin.firstCells, hnc, storeCells, loadCells, loadCellsFrom]
  · obtain ⟨ad, rfl, hc⟩ := hcells h0
    obtain ⟨v1, w1, hr, h2, h3, _⟩ := run_append_own (P := P) W base t ty e i0 z size bytes ht hi hz0 hz1 hz2 hz hs0 v n xs HO ad m c ys hyl hc h1 (by simp only [maxLen]; omega) hl hbase
    exact ⟨v1, w1, hr, h2, h3⟩

theorem wp_app {w0 W : World} (base : Nat) (hgd : o.guard = none) (s x : Operand) (t e : TypeId) (z : Value) (size bytes : Nat)
    (ho : o.op = .call { callee := .builtin .append, args := #[s, x], argTypes := #[t, t] })
    (ht : P.underlying t = some (.slice e)) (hinfo : (P.info? e).map (fun i => (i.zero, i.size, i.bytes)) = some (some z, size, bytes)) (hz : z.cells.size = size) (hs0 : 0 < size) (hb0 : 0 < bytes)
    (v : Value) (n : Nat) (xs : List Value) (hs : a.eval s = v) (HO : W.ownsRow base e size v n xs) (u : Value) (m : Nat) (ys : List Value) (hx : a.eval x = u) (HR : ReadsC W u size m ys) (h1 : ∀ y ∈ ys, y.oneCell' = true)
    (HB : Below base w0 W) (hbase : base ≤ W.heap.size) (hl : (n + m) * bytes ≤ 140737488355328)
    (h : ∀ v1 w1, w1.ownsRow base e size v1 (n + m) (xs ++ ys) → Below base w0 w1 → W.grownBy w1 v.ownBlock → wpList P ops Q rest (a.put o.dst v1) w1) :
    wpList P ops Q (o :: rest) a W := by
  obtain ⟨v1, w1, hr, hown, hg⟩ := run_app (P := P) W base t o.type e z size bytes ht hinfo hz hs0 hb0 v n xs HO u m ys HR h1 hbase hl
  refine wpList_plain hgd fun K hK => ?_
  unfold Oper.wp execOp
  simp only [ho, resolve, invoke, builtin, Sem.run_bind, Sem.run_pure, Result.andThen_ok, List.map_toArray, List.map_cons, List.map_nil, hs, hx, hr]
  exact hK _ _ (h v1 w1 hown (HB.grown hg hbase (own_base HO)) hg)
end

theorem u32_oneCell (l : List Int) : ∀ y ∈ l.map (Value.int .u32), y.oneCell' = true := by
  intro y hy
  obtain ⟨q, _, rfl⟩ := List.mem_map.1 hy
  rfl
theorem RV.readsC {W : World} {u : Value} {l : List Int} (h : RV W u l) : ReadsC W u 1 l.length (l.map (Value.int .u32)) := by
  obtain ⟨A, cap, rfl, hc, hr⟩ := h
  refine ⟨A, cap, rfl, by simp, fun hp => ?_⟩
  obtain ⟨b, o, rfl, hcell⟩ := hr.cells hp
  refine ⟨_, rfl, fun j x hj => ?_⟩
  have hjl : j < l.length := by
    rcases Nat.lt_or_ge j l.length with h | h
    · exact h
    · simp [List.getElem?_eq_none h] at hj
  have ha : (⟨b, o, none⟩ : Addr).add j = ⟨b, o + j, none⟩ := by unfold Addr.add; split <;> simp_all
  rw [ha, hcell j hjl]
  simpa [dg_get? l j hjl] using hj
theorem info32 : (Tryz.prog.info? 67).map (fun i => (i.zero, i.size, i.bytes)) = some (some (.int .u32 0), 1, 4) := by kernel_rfl
theorem under32s : Tryz.prog.underlying 27 = some (.slice 67) := by kernel_rfl

/-- append(v, u...) of digits; behind 'at_builtin'. -/
theorem wp_appU {ops : Array Oper} {rest : List Oper} {o : Oper} {a : Act} {Q : Exit → Act → World → Prop} {w0 W : World} (base : Nat) (hgd : o.guard = none) (s x : Operand)
    (ho : o.op = .call { callee := .builtin .append, args := #[s, x], argTypes := #[27, 27] })
    (v : Value) (xs : List Int) (hs : a.eval s = v) (HO : OwnU base W v xs) (u : Value) (ys : List Int) (hx : a.eval x = u) (HR : RV W u ys)
    (HB : Below base w0 W) (hbase : base ≤ W.heap.size) (hl : xs.length + ys.length ≤ 35184372088832)
    (h : ∀ v1 w1, OwnU base w1 v1 (xs ++ ys) → Below base w0 w1 → W.grownBy w1 v.ownBlock → wpList Tryz.prog ops Q rest (a.put o.dst v1) w1) :
    wpList Tryz.prog ops Q (o :: rest) a W :=
  wp_app base hgd s x 27 67 (.int .u32 0) 1 4 ho under32s info32 rfl (by decide) (by decide) v xs.length _ hs HO.1 u ys.length _ hx HR.readsC (u32_oneCell ys) HB hbase (by omega)
    fun v1 w1 h1 h2 h3 => h v1 w1 ⟨by simpa using h1, HO.2.append HR.wf⟩ h2 h3

/-- an empty literal -/
theorem own_empty (W : World) (base : Nat) (hb : base ≤ W.heap.size) : OwnU base (W.alloc (.cells #[] 67)) (.slice (some ⟨W.heap.size, 0, none⟩) 0 0) [] :=
  ⟨⟨by simp, .inr ⟨W.heap.size, 0, #[], rfl, hb, heap_alloc_new W _, Nat.le_refl _, by simp [maxLen], by simp, by simp⟩⟩, Wf.nil⟩
/-- a literal -/
theorem own_litU (W : World) (base : Nat) (l : List Int) (hw : Wf l) (hb : base ≤ W.heap.size) (hm : l.length ≤ 9223372036854775807) :
    OwnU base (W.alloc (.cells (l.map (Value.int .u32)).toArray 67)) (.slice (some ⟨W.heap.size, 0, none⟩) l.length l.length) l := by
  have h := World.ownsRow_lit (base := base) (e := 67) (size := 1) W (l.map (Value.int .u32)).toArray l.length hb (by simpa [maxLen] using hm) (by simp)
  exact ⟨by simpa using h, hw⟩
/-- make([]uint32, m): laid ahead of go_enter, where the walk takes it as a rule. -/
theorem run_makeU (m : Nat) (hn : m ≤ 70368744177664) :
    ∀ W : World, (Instr.makeSlice 27 (.int .i64 (m : Int)) (.int .i64 (m : Int))).run Tryz.prog W = .ok (.slice (some ⟨W.heap.size, 0, none⟩) m m) (W.alloc (.cells (madeCells #[.int .u32 0] m) 67)) := by
  intro W
  exact run_make_row' 27 67 (.int .u32 0) 4 under32s info32 rfl .i64 .i64 m (by omega) (by omega) W
theorem run_makeU' (z : Int) (m : Nat) (hz : z = (m : Int)) (hn : m ≤ 70368744177664) :
    ∀ W : World, (Instr.makeSlice 27 (.int .i64 z) (.int .i64 z)).run Tryz.prog W = .ok (.slice (some ⟨W.heap.size, 0, none⟩) m m) (W.alloc (.cells (madeCells #[.int .u32 0] m) 67)) := by
  subst hz
  exact run_makeU m hn
theorem own_madeU (W : World) (base : Nat) (m : Nat) (hb : base ≤ W.heap.size) (hm : m ≤ 9223372036854775807) :
    OwnU base (W.alloc (.cells (madeCells #[.int .u32 0] m) 67)) (.slice (some ⟨W.heap.size, 0, none⟩) m m) (List.replicate m 0) := by
  have h := World.ownsRow_lit (base := base) (e := 67) (size := 1) W (madeCells #[.int .u32 0] m) m hb (by simpa [maxLen] using hm) (by simp [size_madeCells])
  rw [toList_madeCells_one] at h
  exact ⟨by simpa using h, Wf.zeros m⟩
/-- v[i] = x -/
theorem OwnU.at_ {W : World} {base g n cap : Nat} {l : List Int} (h : OwnU base W (.slice (some ⟨g, 0, none⟩) n cap) l) (i : Nat) (hi : i < l.length) :
    W.cell? ⟨g, i, none⟩ = some (.int .u32 (dg l i)) ∧ W.frozen? ⟨g, i, none⟩ = false := by
  obtain ⟨⟨hl, h⟩, hw⟩ := h
  have h' : W.ownsRow base 67 1 (.slice (some ⟨g, 0, none⟩) n cap) l.length (l.map (Value.int .u32)) := ⟨hl, h⟩
  rcases h with ⟨h, _⟩ | ⟨g', cap', cur, h, hb, hh, hc, hm, hs, ht⟩
  · cases h
  · obtain ⟨rfl, rfl, rfl⟩ : g = g' ∧ n = l.length ∧ cap = cap' := by injection h with h1 h2 h3; injection h1 with h1; injection h1 with h1; exact ⟨h1, h2, h3⟩
    refine ⟨?_, by simp [World.frozen?, hh]⟩
    have hc := h'.cells (g := g) rfl i (.int .u32 (dg l i)) (by simp [dg_get? l i hi])
    have ha : (⟨g, 0, none⟩ : Addr).add i = ⟨g, i, none⟩ := by unfold Addr.add; split <;> simp_all
    rwa [ha] at hc
theorem OwnU.form {W : World} {base : Nat} {v : Value} {l : List Int} (h : OwnU base W v l) (hp : 0 < l.length) : ∃ g cap, v = .slice (some ⟨g, 0, none⟩) l.length cap ∧ base ≤ g ∧ l.length ≤ cap ∧ g < W.heap.size := by
  rcases h.1.2 with ⟨_, h1⟩ | ⟨g, cap, cur, rfl, hb, hh, hc, _⟩
  · omega
  · exact ⟨g, cap, rfl, hb, hc, (Array.getElem?_eq_some_iff.1 hh).1⟩
theorem OwnU.shape {W : World} {base n cap : Nat} {A : Option Addr} {l : List Int} (h : OwnU base W (.slice A n cap) l) : l.length = n ∧ n ≤ cap := by
  obtain ⟨A', cap', e, hc, _⟩ := h.rv
  injection e with h1 h2 h3
  subst h3
  exact ⟨h2.symm, by omega⟩
theorem OwnU.ru {W : World} {base n cap : Nat} {A : Option Addr} {l : List Int} (h : OwnU base W (.slice A n cap) l) : RU W A l := by
  obtain ⟨A', cap', e, hc, hr⟩ := h.rv
  injection e with h1 h2 h3
  subst h1
  exact hr
theorem OwnU.take {W : World} {base n cap : Nat} {A : Option Addr} {l : List Int} (h : OwnU base W (.slice A n cap) l) (m : Nat) (hm : m ≤ n) : OwnU base W (.slice A m cap) (l.take m) := by
  have hsh := h.shape
  obtain ⟨⟨hl, h⟩, hw⟩ := h
  refine ⟨⟨by simp, ?_⟩, hw.take m⟩
  have hlen : (l.take m).length = m := by rw [List.length_take]; omega
  rcases h with ⟨h, h0⟩ | ⟨g, cap', cur, h, hb, hh, hc, hmx, hs, ht⟩
  · injection h with h1 h2 h3
    subst h1 h2 h3
    obtain rfl : m = 0 := by omega
    exact .inl ⟨rfl, by simp⟩
  · injection h with h1 h2 h3
    subst h1 h3
    refine .inr ⟨g, cap, cur, by rw [hlen], hb, hh, by omega, hmx, hs, ?_⟩
    rw [hlen, List.map_take, ← ht, List.take_take]
    congr 1
    omega
theorem OwnU.cut {W : World} {base n cap : Nat} {A : Option Addr} {l : List Int} (h : OwnU base W (.slice A n cap) l) : OwnU base W (.slice A (digits (val l)).length cap) (digits (val l)) := by
  have hsh := h.shape
  have hle := digits_length_val h.2
  have e := digits_take' h.2
  have h2 := h.take (digits (val l)).length (by omega)
  rwa [← e] at h2
theorem OwnU.store {W : World} {base g n cap : Nat} {l : List Int} (h : OwnU base W (.slice (some ⟨g, 0, none⟩) n cap) l) (i : Nat) {x : Int} (h0 : 0 ≤ x) (h1 : x < 4294967296) :
    OwnU base (W.setCell ⟨g, i, none⟩ (.int .u32 x)) (.slice (some ⟨g, 0, none⟩) n cap) (l.set i x) := by
  obtain ⟨h, hw⟩ := h
  have hn : n = l.length := by
    rcases h.2 with ⟨h, _⟩ | ⟨g', cap', cur, h, _⟩
    · cases h
    · injection h
  subst hn
  have hs := (h.stored i (.int .u32 x)).1
  exact ⟨by rw [List.length_set]; simpa [List.map_set] using hs, hw.set i h0 h1⟩
theorem gb_trans {w w1 w2 : World} {r : Option Nat} (h : w.grownBy w1 r) (k : w1.grownBy w2 r) : w.grownBy w2 r :=
  ⟨k.os.trans h.os, k.tape.trans h.tape, k.output.trans h.output, Nat.le_trans h.size k.size, fun i hi hr => (k.block i (Nat.lt_of_lt_of_le hi h.size) hr).trans (h.block i hi hr)⟩
theorem gb_drew {w : World} {r : Option Nat} {w' : World} (h : Drew w w') : w.grownBy w' r := by
  have hb := h.below
  exact ⟨hb.os, hb.tape, hb.output, hb.size, fun k hk _ => hb.block k hk⟩
theorem gb_set (w : World) (g i : Nat) (u : Value) : w.grownBy (w.setCell ⟨g, i, none⟩ u) (some g) :=
  ⟨rfl, rfl, rfl, by simp [World.setCell], fun k _ hr => Below.heap_setCell _ _ _ _ (fun e => hr (by rw [e]))⟩
theorem gb_below {w w1 : World} (hb : Below w.heap.size w w1) {r : Option Nat} : w.grownBy w1 r := ⟨hb.os, hb.tape, hb.output, hb.size, fun k hk _ => hb.block k hk⟩
theorem RU.grown {w w' : World} {A : Option Addr} {l : List Int} {g : Nat} (h : RU w A l) (hg : w.grownBy w' (some g)) (hne : ∀ b o, A = some ⟨b, o, none⟩ → b ≠ g) : RU w' A l :=
  ⟨h.wf, fun hp => by
    obtain ⟨b, o, e, hc⟩ := h.cells hp
    exact ⟨b, o, e, fun j hj => hg.cell (hc j hj) (by simpa using hne b o e)⟩⟩
theorem OwnU.drewN {base : Nat} {w w' : World} {v : Value} {l : List Int} (h : OwnU base w v l) (hd : Drew w w') : OwnU base w' v l := h.ext hd.below
end Go.Proofs.YtckiojofncdoeaaGreatDoor
