/- reference, layer 11: Same on equal lists. -/
import Derived.Test.YtckiojofncdoeaaGreatDoorLawA
namespace Go.Proofs.YtckiojofncdoeaaGreatDoor
open Go.RowKit Go.Deep

/-- The slice v reads as the tokens ts. -/
def TokR (w : World) (v : Value) (ts : List Tok) : Prop := ∃ (A : Option Addr) (cap : Nat), v = .slice A ts.length cap ∧ ts.length ≤ cap ∧ (0 < ts.length → ∃ g o : Nat, A = some ⟨g, o, none⟩ ∧
  ∀ (i : Nat) (t : Tok), ts[i]? = some t → ∃ (text : ByteArray) (x y : Value), text.data.toList = t.text ∧ RV w x (digits t.nm) ∧ RV w y (digits t.dn) ∧
    w.cell? ⟨g, o + i * 7, none⟩ = some (.int .i64 t.kind) ∧ w.cell? ⟨g, o + i * 7 + 1, none⟩ = some (.string text) ∧ w.cell? ⟨g, o + i * 7 + 2, none⟩ = some (.bool t.neg) ∧ w.cell? ⟨g, o + i * 7 + 3, none⟩ = some x ∧
    w.cell? ⟨g, o + i * 7 + 4, none⟩ = some y ∧ w.cell? ⟨g, o + i * 7 + 5, none⟩ = some (.int .i64 t.line) ∧ w.cell? ⟨g, o + i * 7 + 6, none⟩ = some (.int .i64 t.pos))
theorem TokR.ext {w w' : World} {v : Value} {ts : List Tok} (h : TokR w v ts) (hb : Below w.heap.size w w') : TokR w' v ts := by
  obtain ⟨A, cap, rfl, hc, hh⟩ := h
  refine ⟨A, cap, rfl, hc, fun hp => ?_⟩
  obtain ⟨g, o, rfl, hcs⟩ := hh hp
  refine ⟨g, o, rfl, fun i t ht => ?_⟩
  obtain ⟨text, x, y, h1, h2, h3, c1, c2, c3, c4, c5, c6, c7⟩ := hcs i t ht
  exact ⟨text, x, y, h1, h2.ext hb, h3.ext hb, cell_below hb c1, cell_below hb c2, cell_below hb c3, cell_below hb c4, cell_below hb c5, cell_below hb c6, cell_below hb c7⟩
theorem Toks.r {base : Nat} {w : World} {v : Value} {ts : List Tok} (h : Toks base w v ts) : TokR w v ts := by
  rcases Nat.eq_zero_or_pos ts.length with h0 | h0
  · obtain ⟨L, h1, ⟨h2, h2'⟩, h3⟩ := h
    rcases h2' with ⟨rfl, hn⟩ | ⟨g, cap, cur, rfl, _, _, hc, _⟩
    · exact ⟨none, 0, by rw [h0], by omega, fun hp => absurd hp (by omega)⟩
    · exact ⟨_, cap, rfl, hc, fun hp => absurd hp (by omega)⟩
  · obtain ⟨t0, ht0⟩ : ∃ t, ts[0]? = some t := ⟨ts[0], List.getElem?_eq_getElem h0⟩
    obtain ⟨g, cap, _, _, _, rfl, hcap, _⟩ := h.at_ 0 t0 ht0
    refine ⟨_, cap, rfl, hcap, fun _ => ⟨g, 0, rfl, fun i t ht => ?_⟩⟩
    obtain ⟨g', cap', text, x, y, e, _, htx, hx, hy, c1, c2, c3, c4, c5, c6, c7⟩ := h.at_ i t ht
    simp only [Value.slice.injEq, Option.some.injEq, Addr.mk.injEq, and_true, true_and] at e
    obtain ⟨rfl, rfl⟩ := e
    rw [Nat.mul_comm] at c1 c2 c3 c4 c5 c6 c7
    exact ⟨text, x, y, htx, hx.rv, hy.rv, by rw [Nat.zero_add]; exact c1, by rw [Nat.zero_add]; exact c2, by rw [Nat.zero_add]; exact c3, by rw [Nat.zero_add]; exact c4, by rw [Nat.zero_add]; exact c5, by rw [Nat.zero_add]; exact c6, by rw [Nat.zero_add]; exact c7⟩
/-- All their numbers are short. -/
def Short (ts : List Tok) : Prop := ∀ t ∈ ts, (digits t.nm).length ≤ 100 ∧ (digits t.dn).length ≤ 100

set_option maxRecDepth 100000 in
set_option maxHeartbeats 6400000 in
theorem r11same_eq (w : World) (v u : Value) (ts : List Tok) (hv : TokR w v ts) (hu : TokR w u ts) (hs : Short ts) (hl : ts.length ≤ 1000000) :
    Calls Tryz.prog 12 #[v, u] w fun e w' => e = .returned (.bool true) ∧ Below w.heap.size w w' := by
  obtain ⟨A, ca, rfl, hca, hA⟩ := hv
  obtain ⟨B, cb, rfl, hcb, hB⟩ := hu
  obtain ⟨n, hn⟩ : ∃ n, n = ts.length := ⟨_, rfl⟩
  rw [← hn] at hca hcb hl hA hB ⊢
  have HA := Lib.hid hA; have HB := Lib.hid hB; have Hs := Lib.hid hs; have Hn := Lib.hid hn
  clear hA hB hs hn
  go_enter Tryz.func12, Tryz.ntmps12
  go_wp2
  go_loopw [13] (fun i wr => Below w.heap.size w wr ∧ ∃ k : Nat, k ≤ n ∧ i = .int .i64 k) (fun i _ => n - (intOf i).toNat)
  case atStart => exact ⟨Below.refl _ _, 0, Nat.zero_le _, rfl⟩
  case round =>
    obtain ⟨hbl, k, hk, rfl⟩ := hrel
    have Hbl := Lib.hid hbl; clear hbl
    by_cases hlt : k < n
    · obtain ⟨t, ht⟩ : ∃ t, ts[k]? = some t := ⟨ts[k]'(by rw [← Hn.out]; exact hlt), List.getElem?_eq_getElem _⟩
      obtain ⟨g, o, rfl, hc⟩ := HA.out (by omega)
      obtain ⟨text, x, y, htx, hx, hy, c1, c2, c3, c4, c5, c6, c7⟩ := hc k t ht
      obtain ⟨g', o', rfl, hc'⟩ := HB.out (by omega)
      obtain ⟨text', x', y', htx', hx', hy', d1, d2, d3, d4, d5, d6, d7⟩ := hc' k t ht
      obtain rfl : text = text' := bytes_ext (htx.trans htx'.symm)
      have hsh := Hs.out t (List.mem_of_getElem? ht)
      obtain ⟨X, cx, rfl, hcx, hX⟩ := hx
      obtain ⟨Y, cy, rfl, hcy, hY⟩ := hy
      obtain ⟨X', cx', rfl, hcx', hX'⟩ := hx'
      obtain ⟨Y', cy', rfl, hcy', hY'⟩ := hy'
      have hsm : ∀ W : World, Below w.heap.size w W → Calls Tryz.prog 13 #[.agg #[.bool t.neg, .slice X (digits t.nm).length cx, .slice Y (digits t.dn).length cy], .agg #[.bool t.neg, .slice X' (digits t.nm).length cx', .slice Y' (digits t.dn).length cy']] W fun e w' => e = .returned (.bool true) ∧ Below W.heap.size W w' := fun W hb => by
        have h := r3same_any W t.neg t.neg X Y X' Y' _ cx _ cy _ cx' _ cy' (digits t.nm) (digits t.dn) (digits t.nm) (digits t.dn) rfl hcx (by omega) (hX.ext hb) rfl hcy (by omega) (hY.ext hb) rfl hcx' (by omega) (hX'.ext hb) rfl hcy' (by omega) (hY'.ext hb)
        refine h.mono ?_
        rintro e w' ⟨rfl, hb⟩
        exact ⟨ret_bool (by simp), hb⟩
      have hS : ∀ w' : World, Below w.heap.size w w' → w'.cell? ⟨g, o + k * 7, none⟩ = some (.int .i64 t.kind) ∧ w'.cell? ⟨g, o + k * 7 + 1, none⟩ = some (.string text) ∧ w'.cell? ⟨g, o + k * 7 + 2, none⟩ = some (.bool t.neg) ∧ w'.cell? ⟨g, o + k * 7 + 3, none⟩ = some (.slice X (digits t.nm).length cx) ∧ w'.cell? ⟨g, o + k * 7 + 4, none⟩ = some (.slice Y (digits t.dn).length cy) ∧ w'.cell? ⟨g, o + k * 7 + 5, none⟩ = some (.int .i64 t.line) ∧ w'.cell? ⟨g, o + k * 7 + 6, none⟩ = some (.int .i64 t.pos) ∧ w'.cell? ⟨g', o' + k * 7, none⟩ = some (.int .i64 t.kind) ∧ w'.cell? ⟨g', o' + k * 7 + 1, none⟩ = some (.string text) ∧ w'.cell? ⟨g', o' + k * 7 + 2, none⟩ = some (.bool t.neg) ∧ w'.cell? ⟨g', o' + k * 7 + 3, none⟩ = some (.slice X' (digits t.nm).length cx') ∧ w'.cell? ⟨g', o' + k * 7 + 4, none⟩ = some (.slice Y' (digits t.dn).length cy') ∧ w'.cell? ⟨g', o' + k * 7 + 5, none⟩ = some (.int .i64 t.line) ∧ w'.cell? ⟨g', o' + k * 7 + 6, none⟩ = some (.int .i64 t.pos) := fun w' hb =>
        ⟨cell_below hb c1, cell_below hb c2, cell_below hb c3, cell_below hb c4, cell_below hb c5, cell_below hb c6, cell_below hb c7, cell_below hb d1, cell_below hb d2, cell_below hb d3, cell_below hb d4, cell_below hb d5, cell_below hb d6, cell_below hb d7⟩
      have Hsm := Lib.hid hsm; have HS := Lib.hid hS
      have Hb0 := Lib.hid (bthen Hbl.out (Drew.below (Drew.refl wr).step1) Hbl.out.size)
      have hS0 := hS _ Hb0.out
      clear hsm hS hX hY hX' hY' hc hc' ht htx htx' hsh hcx hcy hcx' hcy' c1 c2 c3 c4 c5 c6 c7 d1 d2 d3 d4 d5 d6 d7
      generalize t.neg = tn at *
      generalize (digits t.nm).length = xn at *
      generalize (digits t.dn).length = yn at *
      generalize t.kind = tk at *
      generalize t.line = tl at *
      generalize t.pos = tp at *
      generalize hi1 : o + k * 7 = a1 at *
      generalize hi2 : o' + k * 7 = a2 at *
      have Hi1 := Lib.hid hi1; have Hi2 := Lib.hid hi2
      have e1 : o + k * 7 = a1 := hi1
      have e2 : o' + k * 7 = a2 := hi2
      clear hi1 hi2
      go_wp2
      go_region_held3 (fun w' => w'.cell? ⟨g, a1, none⟩ = some (.int .i64 tk) ∧ w'.cell? ⟨g, a1 + 1, none⟩ = some (.string text) ∧ w'.cell? ⟨g, a1 + 2, none⟩ = some (.bool tn) ∧ w'.cell? ⟨g, a1 + 3, none⟩ = some (.slice X xn cx) ∧ w'.cell? ⟨g, a1 + 4, none⟩ = some (.slice Y yn cy) ∧ w'.cell? ⟨g, a1 + 5, none⟩ = some (.int .i64 tl) ∧ w'.cell? ⟨g, a1 + 6, none⟩ = some (.int .i64 tp) ∧ w'.cell? ⟨g', a2, none⟩ = some (.int .i64 tk) ∧ w'.cell? ⟨g', a2 + 1, none⟩ = some (.string text) ∧ w'.cell? ⟨g', a2 + 2, none⟩ = some (.bool tn) ∧ w'.cell? ⟨g', a2 + 3, none⟩ = some (.slice X' xn cx') ∧ w'.cell? ⟨g', a2 + 4, none⟩ = some (.slice Y' yn cy') ∧ w'.cell? ⟨g', a2 + 5, none⟩ = some (.int .i64 tl) ∧ w'.cell? ⟨g', a2 + 6, none⟩ = some (.int .i64 tp))
        (first | exact hS0 | exact HS.out _ Hb1.out)
        (first | (go_at_call 13; refine (Hsm.out _ Hb0.out).mono ?_; rintro e w1 ⟨rfl, hb1⟩; have Hb1 := Lib.hid (bthen Hb0.out hb1 Hb0.out.size); clear hb1))
      all_goals go_wp2
      all_goals go_roundw
      all_goals first
        | exact ⟨Hb1.out, k + 1, by omega, by go_num⟩
        | (simp [intOf]; omega)
    · go_wp2
      go_ret
      exact ⟨rfl, Hbl.out⟩
end Go.Proofs.YtckiojofncdoeaaGreatDoor
