/- rows of tokens whose places are overwritten. -/
import Derived.Test.YtckiojofncdoeaaGreatDoorRefG
import Derived.Test.YtckiojofncdoeaaGreatDoorLaw1
namespace Go.Proofs.YtckiojofncdoeaaGreatDoor
open Go.RowKit Go.Deep

/-- digits that lie in no bad block -/
def RVn (w : World) (bad : Nat → Prop) (v : Value) (l : List Int) : Prop := ∃ A cap, v = .slice A l.length cap ∧ l.length ≤ cap ∧ RU w A l ∧ (0 < l.length → ∃ b o, A = some ⟨b, o, none⟩ ∧ ¬ bad b)
theorem RVn.rv {w : World} {bad : Nat → Prop} {v : Value} {l : List Int} (h : RVn w bad v l) : RV w v l := by
  obtain ⟨A, cap, h1, h2, h3, _⟩ := h
  exact ⟨A, cap, h1, h2, h3⟩
theorem RVn.ext {w w' : World} {bad : Nat → Prop} {v : Value} {l : List Int} (h : RVn w bad v l) (hb : Below w.heap.size w w') : RVn w' bad v l := by
  obtain ⟨A, cap, h1, h2, h3, h4⟩ := h
  exact ⟨A, cap, h1, h2, h3.ext hb, h4⟩
theorem RVn.set {w : World} {bad : Nat → Prop} {v : Value} {l : List Int} (h : RVn w bad v l) {g j : Nat} (hg : bad g) (u : Value) : RVn (w.setCell ⟨g, j, none⟩ u) bad v l := by
  obtain ⟨A, cap, h1, h2, h3, h4⟩ := h
  refine ⟨A, cap, h1, h2, ⟨h3.wf, fun hp => ?_⟩, h4⟩
  obtain ⟨b, o, rfl, hb⟩ := h4 hp
  obtain ⟨b', o', e, hc⟩ := h3.cells hp
  simp only [Option.some.injEq, Addr.mk.injEq, and_true] at e
  obtain ⟨rfl, rfl⟩ := e
  refine ⟨b, o, rfl, fun k hk => ?_⟩
  rw [World.cell?_setCell_far _ _ _ _ (show g ≠ b from fun e => hb (by rw [← e]; exact hg))]
  exact hc k hk
/-- At place o of block g lie the seven cells of t. -/
def TokAt (w : World) (g o : Nat) (bad : Nat → Prop) (t : Tok) : Prop := ∃ (text : ByteArray) (x y : Value), text.data.toList = t.text ∧ RVn w bad x (digits t.nm) ∧ RVn w bad y (digits t.dn) ∧
    w.cell? ⟨g, o, none⟩ = some (.int .i64 t.kind) ∧ w.cell? ⟨g, o + 1, none⟩ = some (.string text) ∧ w.cell? ⟨g, o + 2, none⟩ = some (.bool t.neg) ∧ w.cell? ⟨g, o + 3, none⟩ = some x ∧
    w.cell? ⟨g, o + 4, none⟩ = some y ∧ w.cell? ⟨g, o + 5, none⟩ = some (.int .i64 t.line) ∧ w.cell? ⟨g, o + 6, none⟩ = some (.int .i64 t.pos)
structure RowT (w : World) (g : Nat) (bad : Nat → Prop) (ts : List Tok) : Prop where
  row : ∃ cur, w.heap[g]? = some (.cells cur 39 (0, 0))
  at_ : ∀ (i : Nat) (t : Tok), ts[i]? = some t → TokAt w g (i * 7) bad t
theorem cell_off {w : World} {g i j : Nat} {u v : Value} (h : w.cell? ⟨g, i, none⟩ = some v) (hne : j ≠ i) : (w.setCell ⟨g, j, none⟩ u).cell? ⟨g, i, none⟩ = some v := by
  rw [World.cell?_setCell_other _ _ _ _ (fun e => hne (by simp only [Addr.mk.injEq, true_and, and_true] at e; exact e))]; exact h
theorem cell_blk {w : World} {g g' i j : Nat} {u v : Value} (h : w.cell? ⟨g, i, none⟩ = some v) (hne : g' ≠ g) : (w.setCell ⟨g', j, none⟩ u).cell? ⟨g, i, none⟩ = some v := by
  rw [World.cell?_setCell_far _ _ _ _ hne]; exact h
theorem RowT.ext {w w' : World} {g : Nat} {bad : Nat → Prop} {ts : List Tok} (h : RowT w g bad ts) (hb : Below w.heap.size w w') : RowT w' g bad ts := by
  obtain ⟨cur, hc⟩ := h.row
  refine ⟨⟨cur, heap_at hb hc⟩, fun i t ht => ?_⟩
  obtain ⟨text, x, y, h1, h2, h3, c1, c2, c3, c4, c5, c6, c7⟩ := h.at_ i t ht
  exact ⟨text, x, y, h1, h2.ext hb, h3.ext hb, cell_below hb c1, cell_below hb c2, cell_below hb c3, cell_below hb c4, cell_below hb c5, cell_below hb c6, cell_below hb c7⟩
theorem RowT.far {w : World} {g g' j : Nat} {bad : Nat → Prop} {ts : List Tok} (h : RowT w g bad ts) (hg : bad g') (hne : g' ≠ g) (u : Value) : RowT (w.setCell ⟨g', j, none⟩ u) g bad ts := by
  obtain ⟨cur, hc⟩ := h.row
  refine ⟨⟨cur, by rw [heap_set_ne hne]; exact hc⟩, fun i t ht => ?_⟩
  obtain ⟨text, x, y, h1, h2, h3, c1, c2, c3, c4, c5, c6, c7⟩ := h.at_ i t ht
  exact ⟨text, x, y, h1, h2.set hg u, h3.set hg u, cell_blk c1 hne, cell_blk c2 hne, cell_blk c3 hne, cell_blk c4 hne, cell_blk c5 hne, cell_blk c6 hne, cell_blk c7 hne⟩
theorem RowT.zero {w : World} {g k : Nat} {bad : Nat → Prop} {ts : List Tok} (h : RowT w g bad ts) (hg : bad g) (t0 : Tok) (ht0 : ts[k]? = some t0) : RowT (w.setCell ⟨g, k * 7 + 6, none⟩ (.int .i64 0)) g bad (ts.set k (er t0)) := by
  obtain ⟨cur, hc⟩ := h.row
  refine ⟨⟨_, heap_set hc⟩, fun i t ht => ?_⟩
  by_cases hik : i = k
  · subst hik
    have hlt : i < ts.length := (List.getElem?_eq_some_iff.1 ht0).1
    rw [List.getElem?_set_self hlt] at ht
    obtain rfl := Option.some.inj ht
    obtain ⟨text, x, y, h1, h2, h3, c1, c2, c3, c4, c5, c6, c7⟩ := h.at_ i t0 ht0
    exact ⟨text, x, y, h1, h2.set hg _, h3.set hg _, cell_off c1 (by omega), cell_off c2 (by omega), cell_off c3 (by omega), cell_off c4 (by omega), cell_off c5 (by omega), cell_off c6 (by omega), World.cell?_setCell_same _ _ _ c7⟩
  · rw [List.getElem?_set_ne (Ne.symm hik)] at ht
    obtain ⟨text, x, y, h1, h2, h3, c1, c2, c3, c4, c5, c6, c7⟩ := h.at_ i t ht
    exact ⟨text, x, y, h1, h2.set hg _, h3.set hg _, cell_off c1 (by omega), cell_off c2 (by omega), cell_off c3 (by omega), cell_off c4 (by omega), cell_off c5 (by omega), cell_off c6 (by omega), cell_off c7 (by omega)⟩
theorem RowT.r {w : World} {g cap : Nat} {bad : Nat → Prop} {ts : List Tok} (h : RowT w g bad ts) (hc : ts.length ≤ cap) : TokR w (.slice (some ⟨g, 0, none⟩) ts.length cap) ts := by
  refine ⟨_, cap, rfl, hc, fun _ => ⟨g, 0, rfl, fun i t ht => ?_⟩⟩
  obtain ⟨text, x, y, h1, h2, h3, c1, c2, c3, c4, c5, c6, c7⟩ := h.at_ i t ht
  exact ⟨text, x, y, h1, h2.rv, h3.rv, by rw [Nat.zero_add]; exact c1, by rw [Nat.zero_add]; exact c2, by rw [Nat.zero_add]; exact c3, by rw [Nat.zero_add]; exact c4, by rw [Nat.zero_add]; exact c5, by rw [Nat.zero_add]; exact c6, by rw [Nat.zero_add]; exact c7⟩
theorem OwnU.rvn {base : Nat} {w : World} {bad : Nat → Prop} {v : Value} {l : List Int} (h : OwnU base w v l) (hb : ∀ k, v.ownBlock = some k → ¬ bad k) : RVn w bad v l := by
  obtain ⟨A, cap, rfl, hc, hr⟩ := h.rv
  refine ⟨A, cap, rfl, hc, hr, fun hp => ?_⟩
  obtain ⟨b, o, rfl, _⟩ := hr.cells hp
  exact ⟨b, o, rfl, hb b rfl⟩
/-- Out of a list of the call's own: its row is a block between base and the heap's end, and its digits lie in others of these. -/
theorem Toks.rowT {base : Nat} {w : World} {v : Value} {ts : List Tok} (h : Toks base w v ts) (h0 : 0 < ts.length) : ∃ g cap, v = .slice (some ⟨g, 0, none⟩) ts.length cap ∧ ts.length ≤ cap ∧ base ≤ g ∧ g < w.heap.size ∧
    ∀ bad : Nat → Prop, (∀ k, bad k → k = g ∨ k < base ∨ w.heap.size ≤ k) → RowT w g bad ts := by
  obtain ⟨L, h1, h2, h3⟩ := id h
  obtain ⟨t0, ht0⟩ : ∃ t, ts[0]? = some t := ⟨ts[0], List.getElem?_eq_getElem h0⟩
  obtain ⟨g, cap, _, _, _, rfl, hcap, _⟩ := h.at_ 0 t0 ht0
  have hrow := h.row (k := g) rfl
  refine ⟨g, cap, rfl, hcap, hrow.1, hrow.2, fun bad hbad => ⟨?_, fun i t ht => ?_⟩⟩
  · rcases h2.2 with ⟨e, _⟩ | ⟨g', cap', cur, e, _, hg, _⟩
    · cases e
    · simp only [Value.slice.injEq, Option.some.injEq, Addr.mk.injEq, and_true, true_and] at e
      obtain ⟨rfl, rfl⟩ := e
      exact ⟨cur, hg⟩
  · have hi : i < ts.length := (List.getElem?_eq_some_iff.1 ht).1
    obtain ⟨cs, hcs⟩ : ∃ cs, L[i]? = some cs := ⟨L[i]'(by omega), List.getElem?_eq_getElem (by omega)⟩
    obtain ⟨text, x, y, hcse, htx, hx, hy, sx, sy⟩ := h3 i t cs ht hcs
    obtain ⟨g', cap', text', x', y', e, _, _, _, _, c1, c2, c3, c4, c5, c6, c7⟩ := h.at_ i t ht
    simp only [Value.slice.injEq, Option.some.injEq, Addr.mk.injEq, and_true, true_and] at e
    obtain ⟨rfl, rfl⟩ := e
    have hl : ∀ x ∈ L, x.length = 7 := by
      intro z hz
      obtain ⟨j, hj, rfl⟩ := List.getElem_of_mem hz
      exact (h3 j (ts[j]'(by omega)) _ (List.getElem?_eq_getElem (by omega)) (List.getElem?_eq_getElem hj)).len.1
    have hc : ∀ k u, k < 7 → cs[k]? = some u → w.cell? ⟨g, i * 7 + k, none⟩ = some u := by
      intro k u hk hu
      have h4 := h2.cells (g := g) rfl (7 * i + k) u (by rw [flatten_at L i k _ hl hcs hk]; exact hu)
      have ha : (⟨g, 0, none⟩ : Addr).add (7 * i + k) = ⟨g, 0 + (7 * i + k), none⟩ := by unfold Addr.add; split <;> simp_all
      rwa [ha, Nat.zero_add, Nat.mul_comm] at h4
    subst hcse
    have sep : ∀ u l, OwnU base w u l → (u.ownBlock = none ∨ u.ownBlock ≠ some g) → ∀ k, u.ownBlock = some k → ¬ bad k := by
      intro u l hu hs k hk hb
      have hlt := hu.lt hk
      rcases hbad k hb with e | e | e
      · subst e
        rcases hs with hs | hs
        · rw [hk] at hs; cases hs
        · exact hs hk
      · omega
      · omega
    exact ⟨text, x, y, htx, hx.rvn (sep x _ hx sx), hy.rvn (sep y _ hy sy), hc 0 _ (by decide) rfl, hc 1 _ (by decide) rfl, hc 2 _ (by decide) rfl, hc 3 _ (by decide) rfl, hc 4 _ (by decide) rfl, hc 5 _ (by decide) rfl, hc 6 _ (by decide) rfl⟩
end Go.Proofs.YtckiojofncdoeaaGreatDoor
