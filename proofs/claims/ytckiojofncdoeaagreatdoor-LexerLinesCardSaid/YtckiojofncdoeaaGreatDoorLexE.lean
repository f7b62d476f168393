/- lexer: tokens in memory, append of a token, token. -/
import Derived.Test.YtckiojofncdoeaaGreatDoorLexD
import Derived.Maps.AppendAt
namespace Go.Proofs.YtckiojofncdoeaaGreatDoor
open Go.RowKit Go.Deep

structure Tok where
  kind : Nat
  text : List UInt8
  val : Option Rat
  line : Nat
  pos : Nat
def Tok.neg (t : Tok) : Bool := match t.val with | none => false | some q => decide (q.num < 0)
def Tok.nm (t : Tok) : Nat := match t.val with | none => 0 | some q => q.num.natAbs
def Tok.dn (t : Tok) : Nat := match t.val with | none => 0 | some q => q.den
def tokOf (p : List UInt8) (line pos : Nat) : Option Tok := if isWord p then some ⟨1, p, none, line, pos⟩ else (numOf p).map fun q => ⟨2, [], some q, line, pos⟩

/-- The seven cells cs are the token t; its digits do not lie in the block row. -/
def TokC (base : Nat) (w : World) (row : Option Nat) (t : Tok) (cs : List Value) : Prop := ∃ (text : ByteArray) (x y : Value),
  cs = [.int .i64 t.kind, .string text, .bool t.neg, x, y, .int .i64 t.line, .int .i64 t.pos] ∧ text.data.toList = t.text ∧ OwnU base w x (digits t.nm) ∧ OwnU base w y (digits t.dn) ∧
  (x.ownBlock = none ∨ x.ownBlock ≠ row) ∧ (y.ownBlock = none ∨ y.ownBlock ≠ row)
/-- The slice v holds the tokens ts. -/
def Toks (base : Nat) (w : World) (v : Value) (ts : List Tok) : Prop := ∃ L : List (List Value), L.length = ts.length ∧ w.ownsRow base 39 7 v ts.length L.flatten ∧
  ∀ (i : Nat) (t : Tok) (cs : List Value), ts[i]? = some t → L[i]? = some cs → TokC base w v.ownBlock t cs
theorem TokC.ext {base : Nat} {w w' : World} {row : Option Nat} {t : Tok} {cs : List Value} (h : TokC base w row t cs) (hb : Below w.heap.size w w') : TokC base w' row t cs := by
  obtain ⟨text, x, y, h1, h2, h3, h4, h5, h6⟩ := h
  exact ⟨text, x, y, h1, h2, h3.ext hb, h4.ext hb, h5, h6⟩
theorem OwnU.kept {base : Nat} {w w' : World} {v : Value} {l : List Int} {row : Option Nat} (h : OwnU base w v l) (hg : w.grownBy w' row) (hne : v.ownBlock = none ∨ v.ownBlock ≠ row) : OwnU base w' v l := ⟨h.1.kept hg hne, h.2⟩
theorem OwnU.lt {base : Nat} {w : World} {v : Value} {l : List Int} (h : OwnU base w v l) {k : Nat} (hk : v.ownBlock = some k) : base ≤ k ∧ k < w.heap.size := h.1.lt k hk
theorem Toks.nil (base : Nat) (w : World) : Toks base w (.slice none 0 0) [] := ⟨[], rfl, World.ownsRow_nil _ _ _ _, fun i t cs h _ => by simp at h⟩
theorem grown_of_below {w w' : World} (hb : Below w.heap.size w w') : w.grownBy w' none := ⟨hb.os, hb.tape, hb.output, hb.size, fun k hk _ => hb.block k hk⟩
theorem Toks.ext {base : Nat} {w w' : World} {v : Value} {ts : List Tok} (h : Toks base w v ts) (hb : Below w.heap.size w w') : Toks base w' v ts := by
  obtain ⟨L, h1, h2, h3⟩ := h
  exact ⟨L, h1, h2.kept (row := none) (grown_of_below hb) (by cases v.ownBlock <;> simp), fun i t cs ht hc => (h3 i t cs ht hc).ext hb⟩
theorem Toks.slice {base : Nat} {w : World} {v : Value} {ts : List Tok} (h : Toks base w v ts) : ∃ A cap, v = .slice A ts.length cap := by
  obtain ⟨L, _, ⟨_, h2⟩, _⟩ := h
  rcases h2 with ⟨rfl, hn⟩ | ⟨g, cap, cur, rfl, _⟩
  · exact ⟨none, 0, by rw [hn]⟩
  · exact ⟨_, cap, rfl⟩
theorem Toks.row {base : Nat} {w : World} {v : Value} {ts : List Tok} (h : Toks base w v ts) {k : Nat} (hk : v.ownBlock = some k) : base ≤ k ∧ k < w.heap.size := by
  obtain ⟨L, _, h2, _⟩ := h
  exact h2.lt k hk
theorem infoTok : (Tryz.prog.info? 39).map (fun i => (i.zero, i.size, i.bytes)) = some (some (.agg #[.int .i64 0, .string ⟨#[]⟩, .bool false, .slice none 0 0, .slice none 0 0, .int .i64 0, .int .i64 0]), 7, 96) := by kernel_rfl
theorem underToks : Tryz.prog.underlying 23 = some (.slice 39) := by kernel_rfl

theorem TokC.len {base : Nat} {w : World} {row : Option Nat} {t : Tok} {cs : List Value} (h : TokC base w row t cs) : cs.length = 7 ∧ ∀ u ∈ cs, u.oneCell' = true := by
  obtain ⟨text, x, y, rfl, _, hx, hy, _, _⟩ := h
  refine ⟨rfl, ?_⟩
  obtain ⟨_, _, rfl, _⟩ := hx.rv
  obtain ⟨_, _, rfl, _⟩ := hy.rv
  intro u hu
  simp at hu
  rcases hu with rfl | rfl | rfl | rfl | rfl | rfl | rfl <;> rfl

theorem run_appTok {W : World} (base : Nat) (ty : TypeId) (v : Value) (ts : List Tok) (HO : Toks base W v ts) (ad : Addr) (c : Nat) (t : Tok) (cs : List Value)
    (hcell : ∀ j u, cs[j]? = some u → W.cell? (ad.add j) = some u) (HT : TokC base W v.ownBlock t cs) (hbase : base ≤ W.heap.size) (hl : ts.length ≤ 1000) :
    ∃ v1 w1, (Builtin.append_ #[23, 23] ty #[v, .slice (some ad) 1 c]).run Tryz.prog W = .ok v1 w1 ∧ Toks base w1 v1 (ts ++ [t]) ∧ W.grownBy w1 v.ownBlock := by
  obtain ⟨L, h1, h2, h3⟩ := HO
  obtain ⟨i0, hi, hzz⟩ := Option.map_eq_some_iff.1 infoTok
  simp only [Prod.mk.injEq] at hzz
  obtain ⟨hz0, hz1, hz2⟩ := hzz
  obtain ⟨hcl, hc1⟩ := HT.len
  obtain ⟨v1, w1, hr, hown, hg, _, hat⟩ := run_append_own_at (P := Tryz.prog) W base 23 ty 39 i0 _ 7 96 underToks hi hz0 hz1 hz2 rfl (by decide) v ts.length L.flatten h2 ad 1 c cs (by rw [hcl]) hcell hc1
    (by simp only [maxLen]; omega) (by omega) hbase
  refine ⟨v1, w1, hr, ⟨L ++ [cs], by simp [h1], by simpa using hown, ?_⟩, hg⟩
  have sep : ∀ u l, OwnU base W u l → (u.ownBlock = none ∨ u.ownBlock ≠ v.ownBlock) → (u.ownBlock = none ∨ u.ownBlock ≠ v1.ownBlock) := by
    intro u l hu hne
    rcases hne with h | h
    · exact .inl h
    · rcases hat with e | e
      · rw [e]; exact .inr h
      · rw [e]
        cases hk : u.ownBlock with
        | none => exact .inl rfl
        | some k =>
          right
          have := (hu.lt hk).2
          intro e2
          have : k = W.heap.size := Option.some.inj e2
          omega
  have move : ∀ t cs, TokC base W v.ownBlock t cs → TokC base w1 v1.ownBlock t cs := by
    rintro t cs ⟨text, x, y, a1, a2, a3, a4, a5, a6⟩
    exact ⟨text, x, y, a1, a2, a3.kept hg a5, a4.kept hg a6, sep x _ a3 a5, sep y _ a4 a6⟩
  intro i t' cs' ht hc
  rcases Nat.lt_or_ge i ts.length with hlt | hge
  · rw [List.getElem?_append_left hlt] at ht
    rw [List.getElem?_append_left (by omega)] at hc
    exact move _ _ (h3 i t' cs' ht hc)
  · rw [List.getElem?_append_right hge] at ht
    rw [List.getElem?_append_right (by omega)] at hc
    have hi0 : i - ts.length = 0 := by
      rcases Nat.eq_zero_or_pos (i - ts.length) with h | h
      · exact h
      · rw [List.getElem?_eq_none (by simp; omega)] at ht; cases ht
    rw [hi0] at ht
    rw [show i - L.length = 0 by omega] at hc
    simp at ht hc
    subst ht hc
    exact move _ _ HT

theorem wp_appTok {ops : Array Oper} {rest : List Oper} {o : Oper} {a : Act} {Q : Exit → Act → World → Prop} {w0 W : World} (base : Nat) (hgd : o.guard = none) (s x : Operand)
    (ho : o.op = .call { callee := .builtin .append, args := #[s, x], argTypes := #[23, 23] })
    (v : Value) (ts : List Tok) (hs : a.eval s = v) (HO : Toks base W v ts) (ad : Addr) (c : Nat) (hx : a.eval x = .slice (some ad) 1 c) (t : Tok) (cs : List Value)
    (hcell : ∀ j u, cs[j]? = some u → W.cell? (ad.add j) = some u) (HT : TokC base W v.ownBlock t cs) (HB : Below base w0 W) (hbase : base ≤ W.heap.size) (hl : ts.length ≤ 1000)
    (h : ∀ v1 w1, Toks base w1 v1 (ts ++ [t]) → Below base w0 w1 → wpList Tryz.prog ops Q rest (a.put o.dst v1) w1) :
    wpList Tryz.prog ops Q (o :: rest) a W := by
  obtain ⟨v1, w1, hr, hown, hg⟩ := run_appTok (W := W) base o.type v ts HO ad c t cs hcell HT hbase hl
  refine wpList_plain hgd fun K hK => ?_
  unfold Oper.wp execOp
  simp only [ho, resolve, invoke, builtin, Sem.run_bind, Sem.run_pure, Result.andThen_ok, List.map_toArray, List.map_cons, List.map_nil, hs, hx, hr]
  exact hK _ _ (h v1 w1 hown (HB.grown hg hbase (fun k hk => (HO.row hk).1)))

theorem RatO.parts {base : Nat} {w : World} {b : Bool} {x y : Value} {q : Rat} (h : RatO base w (.agg #[.bool b, x, y]) q) : OwnU base w x (digits q.num.natAbs) ∧ OwnU base w y (digits q.den) := by
  obtain ⟨x', y', e, h1, h2⟩ := h
  simp only [Value.agg.injEq, Array.mk.injEq, List.cons.injEq, and_true] at e
  obtain ⟨_, rfl, rfl⟩ := e
  exact ⟨h1, h2⟩
theorem bset7 {B g : Nat} {w w' : World} (h : Below B w w') (hg : B ≤ g) (a b c d e f k : Value) : Below B w (((((((w'.setCell ⟨g, 0, none⟩ a).setCell ⟨g, 1, none⟩ b).setCell ⟨g, 2, none⟩ c).setCell ⟨g, 3, none⟩ d).setCell ⟨g, 4, none⟩ e).setCell ⟨g, 5, none⟩ f).setCell ⟨g, 6, none⟩ k) :=
  ((((((h.setCell hg _).setCell hg _).setCell hg _).setCell hg _).setCell hg _).setCell hg _).setCell hg _
theorem OwnU.set7 {base g : Nat} {w : World} {v : Value} {l : List Int} (h : OwnU base w v l) (hg : g < base) (a b c d e f k : Value) : OwnU base (((((((w.setCell ⟨g, 0, none⟩ a).setCell ⟨g, 1, none⟩ b).setCell ⟨g, 2, none⟩ c).setCell ⟨g, 3, none⟩ d).setCell ⟨g, 4, none⟩ e).setCell ⟨g, 5, none⟩ f).setCell ⟨g, 6, none⟩ k) v l :=
  ((((((h.setBelow hg _).setBelow hg _).setBelow hg _).setBelow hg _).setBelow hg _).setBelow hg _).setBelow hg _
theorem cells7f {w : World} {g : Nat} {a b c d e f k : Value} {t : TypeId} (h : w.heap[g]? = some (.cells #[a, b, c, d, e, f, k] t (0, 0))) :
    (w.cell? ⟨g, 0, none⟩ = some a ∧ w.cell? ⟨g, 1, none⟩ = some b ∧ w.cell? ⟨g, 2, none⟩ = some c ∧ w.cell? ⟨g, 3, none⟩ = some d ∧ w.cell? ⟨g, 4, none⟩ = some e ∧ w.cell? ⟨g, 5, none⟩ = some f ∧ w.cell? ⟨g, 6, none⟩ = some k) ∧
    (w.frozen? ⟨g, 0, none⟩ = false ∧ w.frozen? ⟨g, 1, none⟩ = false ∧ w.frozen? ⟨g, 2, none⟩ = false ∧ w.frozen? ⟨g, 3, none⟩ = false ∧ w.frozen? ⟨g, 4, none⟩ = false ∧ w.frozen? ⟨g, 5, none⟩ = false ∧ w.frozen? ⟨g, 6, none⟩ = false) :=
  ⟨⟨(cell_at h 0 _ rfl).1, (cell_at h 1 _ rfl).1, (cell_at h 2 _ rfl).1, (cell_at h 3 _ rfl).1, (cell_at h 4 _ rfl).1, (cell_at h 5 _ rfl).1, (cell_at h 6 _ rfl).1⟩,
    (cell_at h 0 _ rfl).2, (cell_at h 1 _ rfl).2, (cell_at h 2 _ rfl).2, (cell_at h 3 _ rfl).2, (cell_at h 4 _ rfl).2, (cell_at h 5 _ rfl).2, (cell_at h 6 _ rfl).2⟩

set_option maxHeartbeats 1600000 in
theorem token_any (w : World) (T : Tab w) (s : ByteArray) (line pos : Nat) (hs : s.size ≤ 4096) : Calls Tryz.prog 24 #[.string s, .int .i64 line, .int .i64 pos] w fun e w' => Below w.heap.size w w' ∧
    (tokOf s.data.toList line pos = none → e = .returned (.tuple #[.agg #[.int .i64 2, .string ⟨#[]⟩, .bool false, .slice none 0 0, .slice none 0 0, .int .i64 line, .int .i64 pos], .bool false])) ∧
    (∀ t, tokOf s.data.toList line pos = some t → ∃ (text : ByteArray) (x y : Value), e = .returned (.tuple #[.agg #[.int .i64 t.kind, .string text, .bool t.neg, x, y, .int .i64 t.line, .int .i64 t.pos], .bool true]) ∧
      text.data.toList = t.text ∧ OwnU w.heap.size w' x (digits t.nm) ∧ OwnU w.heap.size w' y (digits t.dn)) := by
  have Hbx := Lib.hid (alloc_last w (.cells #[.int .i64 0, .string ⟨#[]⟩, .bool false, .slice none 0 0, .slice none 0 0, .int .i64 0, .int .i64 0] 39))
  have Hbw := Lib.hid (show Below w.heap.size w (w.alloc (.cells #[.int .i64 0, .string ⟨#[]⟩, .bool false, .slice none 0 0, .slice none 0 0, .int .i64 0, .int .i64 0] 39)) from (Below.refl _ _).alloc (Nat.le_refl _) _)
  have hsz : w.heap.size < (w.alloc (.cells #[.int .i64 0, .string ⟨#[]⟩, .bool false, .slice none 0 0, .slice none 0 0, .int .i64 0, .int .i64 0] 39)).heap.size := by simp
  have HT := Lib.hid (T.ext Hbw.out); clear T
  have hto : tokOf s.data.toList line pos = if isWord s.data.toList then some ⟨1, s.data.toList, none, line, pos⟩ else (numOf s.data.toList).map fun q => ⟨2, [], some q, line, pos⟩ := rfl
  rw [hto]
  clear hto
  have Hwd := Lib.hid (word_any (w.alloc (.cells #[.int .i64 0, .string ⟨#[]⟩, .bool false, .slice none 0 0, .slice none 0 0, .int .i64 0, .int .i64 0] 39)) HT.out s (by omega))
  have Hnm := Lib.hid (number_any (w.alloc (.cells #[.int .i64 0, .string ⟨#[]⟩, .bool false, .slice none 0 0, .slice none 0 0, .int .i64 0, .int .i64 0] 39)) HT.out s hs)
  generalize isWord s.data.toList = wd at *
  generalize hnu : numOf s.data.toList = N at *
  obtain ⟨txt, htxt⟩ : ∃ l, l = s.data.toList := ⟨_, rfl⟩
  rw [← htxt]
  have Htxt := Lib.hid htxt
  clear hnu htxt
  go_enter Tryz.func24, Tryz.ntmps24
  go_wp2_with fail
  generalize (w.alloc (.cells #[.int .i64 0, .string ⟨#[]⟩, .bool false, .slice none 0 0, .slice none 0 0, .int .i64 0, .int .i64 0] 39)) = W at *
  refine Hwd.out.mono ?_
  rintro e w' ⟨rfl, rfl⟩
  cases wd
  · go_wp2_with fail
    refine Hnm.out.mono ?_
    rintro e w1 ⟨hb1, hno, hyes⟩
    cases N with
    | none =>
      obtain rfl := hno rfl
      have Hb1 := Lib.hid (bnext hb1 (show Below w1.heap.size w1 (w1.alloc (.cells #[.bool false, .slice none 0 0, .slice none 0 0] 31)) from (Below.refl _ _).alloc (Nat.le_refl _) _))
      have hc := cells7f (heap_at Hb1.out Hbx.out)
      clear hb1 hno hyes
      go_wp2
      refine bodyPost_ret (v := .tuple #[.agg #[.int .i64 2, .string ⟨#[]⟩, .bool false, .slice none 0 0, .slice none 0 0, .int .i64 line, .int .i64 pos], .bool false]) ?_ rfl ?_
      · rw [results_cell_tmp rfl]; simp [go_sem, asAddr, Result.andThen, hc]
      · exact ⟨bset7 (bnext Hbw.out Hb1.out) (Nat.le_refl _) _ _ _ _ _ _ _, rfl⟩
    | some q =>
      obtain ⟨v1, rfl, ho1⟩ := hyes q rfl
      obtain ⟨b1, A1, n1, c1, B1, m1, d1, rfl, hx1, _, _, _⟩ := ho1.rv.cut
      have Hb1 := Lib.hid (bnext hb1 (show Below w1.heap.size w1 (w1.alloc (.cells #[.bool b1, .slice A1 n1 c1, .slice B1 m1 d1] 31)) from (Below.refl _ _).alloc (Nat.le_refl _) _))
      have hc := cells7f (heap_at Hb1.out Hbx.out)
      have Ho1 := Lib.hid ho1; have HB1 := Lib.hid hb1
      clear hb1 hno hyes ho1
      go_wp2
      refine bodyPost_ret (v := .tuple #[.agg #[.int .i64 2, .string ⟨#[]⟩, .bool b1, .slice A1 n1 c1, .slice B1 m1 d1, .int .i64 line, .int .i64 pos], .bool true]) ?_ rfl ?_
      · rw [results_cell_tmp rfl]; simp [go_sem, asAddr, Result.andThen, hc]
      · obtain ⟨p1, p2⟩ := Ho1.out.parts
        refine ⟨bset7 (bnext Hbw.out Hb1.out) (Nat.le_refl _) _ _ _ _ _ _ _, ⟨#[]⟩, _, _, by rw [hx1.out.1]; rfl, rfl, ?_, ?_⟩
        · exact ((p1.alloc _).set7 hsz _ _ _ _ _ _ _).mono (Nat.le_of_lt hsz)
        · exact ((p2.alloc _).set7 hsz _ _ _ _ _ _ _).mono (Nat.le_of_lt hsz)
  · have hc := cells7f Hbx.out
    go_wp2
    refine bodyPost_ret (v := .tuple #[.agg #[.int .i64 1, .string s, .bool false, .slice none 0 0, .slice none 0 0, .int .i64 line, .int .i64 pos], .bool true]) ?_ rfl ?_
    · rw [results_cell_tmp rfl]; simp [go_sem, asAddr, Result.andThen, hc]
    · refine ⟨bset7 Hbw.out (Nat.le_refl _) _ _ _ _ _ _ _, s, _, _, rfl, Htxt.out.symm, ?_, ?_⟩
      · show OwnU _ _ _ (digits 0)
        rw [digits_zero]; exact OwnU.nil _ _
      · show OwnU _ _ _ (digits 0)
        rw [digits_zero]; exact OwnU.nil _ _
end Go.Proofs.YtckiojofncdoeaaGreatDoor
