/- lexer: Tokens, the walk. -/
import Derived.Test.YtckiojofncdoeaaGreatDoorLex0
namespace Go.Proofs.YtckiojofncdoeaaGreatDoor
open Go.RowKit Go.Deep

/-- How Tokens ends. -/
def TokPost (base : Nat) (R : Res) (e : Ending) (w' : World) : Prop := match R with
  | .error (p, c) => e = .returned (.tuple #[.slice none 0 0, .int .i64 p, .int .i64 c])
  | .ok ts => ts.length ≤ 600 ∧ ∃ v, e = .returned (.tuple #[v, .int .i64 0, .int .i64 0]) ∧ Toks base w' v ts
theorem TokPost.err {base p c : Nat} {w' : World} {R : Res} (h : R = .error (p, c)) : TokPost base R (.returned (.tuple #[.slice none 0 0, .int .i64 p, .int .i64 c])) w' := by rw [h]; exact rfl
theorem TokPost.yes {base : Nat} {w' : World} {R : Res} {ts : List Tok} {v : Value} (h : R = .ok ts) (hl : ts.length ≤ 600) (hv : Toks base w' v ts) : TokPost base R (.returned (.tuple #[v, .int .i64 0, .int .i64 0])) w' := by rw [h]; exact ⟨hl, v, rfl, hv⟩
theorem extract_ne {s : ByteArray} {l : List UInt8} (h : s.data.toList = l) (h0 : 0 < s.size) : l ≠ [] := fun e => by
  have := bytes_size s
  rw [h, e] at this
  simp at this
  omega

theorem lit_cells (X : World) (cs : List Value) (tt : TypeId) (j : Nat) (u : Value) (h : cs[j]? = some u) : (X.alloc (.cells cs.toArray tt)).cell? ((⟨X.heap.size, 0, none⟩ : Addr).add j) = some u := by
  have ha : (⟨X.heap.size, 0, none⟩ : Addr).add j = ⟨X.heap.size, 0 + j, none⟩ := by unfold Addr.add; split <;> simp_all
  rw [ha, Nat.zero_add]
  exact (cell_at (alloc_last X _) j u (by simpa using h)).1
theorem tokC_new {base B : Nat} {w3 W : World} {row : Option Nat} {t : Tok} {text : ByteArray} {x y : Value} (htx : text.data.toList = t.text) (hx : OwnU B w3 x (digits t.nm)) (hy : OwnU B w3 y (digits t.dn)) (hb : Below w3.heap.size w3 W) (hbase : base ≤ B)
    (hrow : ∀ k, row = some k → k < B) : TokC base W row t [.int .i64 t.kind, .string text, .bool t.neg, x, y, .int .i64 t.line, .int .i64 t.pos] := by
  have sep : ∀ u l, OwnU B w3 u l → (u.ownBlock = none ∨ u.ownBlock ≠ row) := by
    intro u l hu
    cases hk : u.ownBlock with
    | none => exact .inl rfl
    | some k =>
      right
      intro e
      have h1 := (hu.lt hk).1
      have h2 := hrow k e.symm
      omega
  exact ⟨text, x, y, rfl, htx, (hx.ext hb).mono hbase, (hy.ext hb).mono hbase, sep x _ hx, sep y _ hy⟩
theorem tokC_end {base : Nat} {W : World} {row : Option Nat} (line pos : Nat) : TokC base W row (endTok line pos) [.int .i64 3, .string ⟨#[]⟩, .bool false, .slice none 0 0, .slice none 0 0, .int .i64 line, .int .i64 pos] :=
  ⟨⟨#[]⟩, .slice none 0 0, .slice none 0 0, rfl, rfl, by show OwnU _ _ _ (digits 0); rw [digits_zero]; exact OwnU.nil _ _, by show OwnU _ _ _ (digits 0); rw [digits_zero]; exact OwnU.nil _ _, .inl rfl, .inl rfl⟩

set_option maxRecDepth 100000 in
set_option maxHeartbeats 6400000 in
theorem tokens_any (w : World) (T : Tab w) (s : ByteArray) (hs : s.size ≤ 4096) : Calls Tryz.prog 8 #[.string s] w fun e w' => Below w.heap.size w w' ∧ TokPost w.heap.size (lines s.data.toList 0 0 []) e w' := by
  obtain ⟨R, hR⟩ : ∃ R, R = lines s.data.toList 0 0 [] := ⟨_, rfl⟩
  rw [← hR]
  have HR := Lib.hid hR
  have HT := Lib.hid T
  clear hR T
  go_enter Tryz.func8, Tryz.ntmps8
  go_wp2
  go_loopw [5, 6, 7] (fun v ln at_ wr => ∃ (line pos : Nat) (acc : List Tok), ln = .int .i64 line ∧ at_ = .int .i64 pos ∧ Toks w.heap.size wr v acc ∧ acc.length ≤ 600 ∧ pos ≤ s.size + 1 ∧ line ≤ pos ∧ lines (s.data.toList.drop pos) line pos acc = R ∧ Below w.heap.size w wr)
    (fun _ _ at_ _ => s.size + 1 - (intOf at_).toNat)
  case atStart => exact ⟨0, 0, [], rfl, rfl, Toks.nil _ _, Nat.zero_le _, Nat.zero_le _, Nat.le_refl _, by rw [List.drop_zero]; exact HR.out.symm, Below.refl _ _⟩
  case round =>
    obtain ⟨line, pos, acc, rfl, rfl, hto, hal, hps, hlp, heq, hbl⟩ := hrel
    obtain ⟨A0, c0, rfl⟩ := hto.slice
    have Hto := Lib.hid hto; have Heq := Lib.hid heq; have Hbl := Lib.hid hbl; have Hal := Lib.hid hal
    clear hto heq hbl hal
    by_cases hlt : pos < s.size
    · have c1 : (0 : Int) ≤ ↑pos := by omega
      have c2 : (↑pos : Int) ≤ ↑s.size := by omega
      have hlst : (s.extract pos s.size).data.toList = s.data.toList.drop pos := drop_bytes s pos
      have hes : (s.extract pos s.size).size = s.size - pos := by rw [ByteArray.size_extract]; omega
      have hcut := fun w => cut_any1 w (s.extract pos s.size) 10 (by omega)
      rw [hlst] at hcut
      have Hcut := Lib.hid hcut; have Hes := Lib.hid hes
      clear hcut hlst hes
      go_wp2_with fail
      refine (Hcut.out _).mono ?_
      rintro e w1 ⟨a, b, rfl, ha, hb, q1, rfl⟩
      have has : a.size ≤ s.size - pos := by
        have h1 := bytes_size a
        have h2 := ahead_len 10 (s.data.toList.drop pos)
        rw [List.length_drop, bytes_size] at h2
        rw [ha] at h1
        omega
      have Ha := Lib.hid ha; have Hb := Lib.hid hb
      clear ha hb
      generalize (s.data.toList.drop pos).any (fun x => x == 10) = f1
      go_wp2_with fail
      refine (cut_any1 _ a 35 (by omega)).mono ?_
      rintro e w2 ⟨a2, b2, rfl, ha2, _, q2, rfl⟩
      generalize a.data.toList.any (fun x => x == 35) = f2
      have ha2s : a2.size ≤ a.size := by
        have h1 := bytes_size a2
        have h2 := ahead_len 35 a.data.toList
        rw [bytes_size] at h2
        rw [ha2] at h1
        omega
      have Ha2 := Lib.hid ha2
      have hlc := lines_cons (line := line) (pos := pos) (acc := acc) (s := s.data.toList.drop pos) (extract_ne (drop_bytes s pos) (by rw [Hes.out]; omega))
      rw [Heq.out, ← Ha.out, ← Hb.out, ← Ha2.out, bytes_size] at hlc
      obtain ⟨Rw, hRw⟩ : ∃ Rw, Rw = words (line + 1) a2.data.toList pos acc := ⟨_, rfl⟩
      rw [← hRw] at hlc
      have Hlc := Lib.hid hlc; have HRw := Lib.hid hRw
      have hbw := bnext (bdrewN (w := wr) q1) (bdrewN (w := wr.drewN q1) q2)
      have Hbw := Lib.hid hbw
      clear hlc hRw ha2 hbw
      have Hto0 := Lib.hid (Hto.out.ext (bdrewN (w := wr) (q1 + q2)))
      have HbW := Lib.hid (bnext Hbl.out (bdrewN (w := wr) (q1 + q2)))
      clear Hbw
      go_wp2
      go_loopw [5, 7, 8] (fun v at_ tx wq => ∃ (p : Nat) (acc2 : List Tok) (tt : ByteArray), at_ = .int .i64 p ∧ tx = .string tt ∧ Toks w.heap.size wq v acc2 ∧ acc2.length ≤ 600 ∧ pos ≤ p ∧ p + tt.size = pos + a2.size ∧ words (line + 1) tt.data.toList p acc2 = Rw ∧ Below w.heap.size w wq)
        (fun _ _ tx _ => match tx with | .string T => T.size | _ => 0)
      · exact ⟨pos, acc, a2, rfl, rfl, Hto0.out, Hal.out, Nat.le_refl _, rfl, HRw.out.symm, HbW.out⟩
      · obtain ⟨p, acc2, tt, rfl, rfl, hto2, hal2, hpp, hps2, heq2, hbl2⟩ := hrel
        obtain ⟨A2, c2', rfl⟩ := hto2.slice
        have Hto2 := Lib.hid hto2; have Heq2 := Lib.hid heq2; have Hbl2 := Lib.hid hbl2; have Hal2 := Lib.hid hal2
        clear hto2 heq2 hbl2 hal2
        by_cases htt : tt.size = 0
        · have hnil : tt.toList = [] := by rw [ByteArray.toList_eq]; exact bytes_nil htt
          have hRw : Rw = .ok acc2 := by rw [← Heq2.out, bytes_nil htt, words_nil]
          have hR := Hlc.out
          rw [hRw] at hR
          have HR2 := Lib.hid hR
          clear hRw hR
          by_cases h600 : acc2.length = 600
          · have h6b : ((acc2.length : Int) == 600) = true := by rw [h600]; rfl
            go_wp2
            go_ret3
            refine ⟨Hbl2.out, ?_⟩
            have hR := HR2.out
            simp only [h600, if_true] at hR
            have h := TokPost.err (base := w.heap.size) (w' := wr) hR
            rw [Int.natCast_add] at h
            exact h
          · have h6b : ((acc2.length : Int) == 600) = false := by rw [beq_eq_false_iff_ne]; omega
            have hR := HR2.out
            simp only [h600, if_false] at hR
            have HR3 := Lib.hid hR
            have hlit := lit_cells wr [.int .i64 3, .string ⟨#[]⟩, .bool false, .slice none 0 0, .slice none 0 0, .int .i64 ((line : Int) + 1), .int .i64 ((pos : Int) + (a.size : Int))] 39
            have hal3 : Below wr.heap.size wr (wr.alloc (.cells #[.int .i64 3, .string ⟨#[]⟩, .bool false, .slice none 0 0, .slice none 0 0, .int .i64 ((line : Int) + 1), .int .i64 ((pos : Int) + (a.size : Int))] 39)) := (Below.refl _ _).alloc (Nat.le_refl _) _
            have hte := tokC_end (base := w.heap.size) (W := wr.alloc (.cells #[.int .i64 3, .string ⟨#[]⟩, .bool false, .slice none 0 0, .slice none 0 0, .int .i64 ((line : Int) + 1), .int .i64 ((pos : Int) + (a.size : Int))] 39)) (row := Value.ownBlock (.slice A2 acc2.length c2')) (line + 1) (pos + a.size)
            have hbe := hal3.size
            push_cast at hte
            have Hlit := Lib.hid hlit; have Hal3 := Lib.hid hal3; have Hte := Lib.hid hte
            clear hR hlit hal3 hte
            go_wp2_with (at_builtin; refine wp_appTok w.heap.size rfl _ _ rfl _ acc2 rfl (Hto2.out.ext Hal3.out) ⟨wr.heap.size, 0, none⟩ 1 rfl (endTok (line + 1) (pos + a.size)) _ Hlit.out Hte.out (bnext Hbl2.out Hal3.out) (Nat.le_trans Hbl2.out.size hbe) (by have := Hal2.out; omega) ?_; intro v1 w4 hown hb4; have Hown := Lib.hid hown; have Hb4 := Lib.hid hb4; clear hown hb4)
            go_roundw
            · have hbl3 : b.data.toList = s.data.toList.drop (pos + a.size + 1) := by
                rw [Hb.out, ahead_behind, ← Ha.out, bytes_size, List.drop_drop, Nat.add_assoc]
              refine ⟨line + 1, pos + a.size + 1, acc2 ++ [endTok (line + 1) (pos + a.size)], by first | go_num | (congr 1; omega), by first | go_num | (congr 1; omega), Hown.out, ?_, by omega, by omega, ?_, Hb4.out⟩
              · have := Hal2.out
                rw [List.length_append, List.length_singleton]; omega
              · rw [← hbl3]; exact HR3.out.symm
            · simp [intOf]; omega
        · have hne := not_empty (T := tt) (by omega)
          have hem : tt.toList.isEmpty = false := by rw [← hne]; cases tt.toList <;> rfl
          have httl : tt.data.toList ≠ [] := extract_ne rfl (by omega)
          go_wp2_with fail
          refine (cut_any1 _ tt 32 (by omega)).mono ?_
          rintro e w3 ⟨pc, rs, rfl, hpc, hrs, q3, rfl⟩
          generalize tt.data.toList.any (fun x => x == 32) = f3
          have hpcs : pc.size ≤ tt.size := by
            have h1 := bytes_size pc
            have h2 := ahead_len 32 tt.data.toList
            rw [bytes_size] at h2
            rw [hpc] at h1
            omega
          have hrss : rs.size < tt.size := by
            have h1 := bytes_size rs
            have h2 := behind_lt 32 tt.data.toList httl
            rw [bytes_size] at h2
            rw [hrs] at h1
            omega
          have Hpc := Lib.hid hpc; have Hrs := Lib.hid hrs; have Httl := Lib.hid httl
          clear hpc hrs hne hem httl
          by_cases hp0 : pc.size = 0
          · have hnil : pc.toList = [] := by rw [ByteArray.toList_eq]; exact bytes_nil hp0
            go_wp2
            go_roundw
            · refine ⟨p + (tt.size - rs.size), acc2, rs, by first | go_num | (congr 1; omega), rfl, Hto2.out.ext (bdrewN _), Hal2.out, by omega, by omega, ?_, bnext Hbl2.out (bdrewN _)⟩
              rw [← Heq2.out, words_skip Httl.out (by rw [← Hpc.out]; exact bytes_nil hp0), ← Hrs.out, bytes_size, bytes_size]
            · show rs.size < tt.size
              exact hrss
          · have hne := not_empty (T := pc) (by omega)
            have hem : pc.toList.isEmpty = false := by rw [← hne]; cases pc.toList <;> rfl
            have hpcl : ahead 32 tt.data.toList ≠ [] := extract_ne Hpc.out (by omega)
            have hw := Heq2.out
            rw [words_tok Httl.out hpcl, ← Hpc.out, ← Hrs.out, bytes_size, bytes_size] at hw
            have Hw := Lib.hid hw
            have hbq := bdrewN (w := wr) q3
            have htk := token_any (wr.drewN q3) (HT.out.ext (bnext Hbl2.out hbq)) pc (line + 1) p (by omega)
            rw [show (((line + 1 : Nat)) : Int) = (line : Int) + 1 from by push_cast; rfl] at htk
            generalize hto : tokOf pc.data.toList (line + 1) p = O at *
            have Htk := Lib.hid htk
            have Hto3 := Lib.hid (Hto2.out.ext hbq); have Hbl3 := Lib.hid (bnext Hbl2.out hbq)
            clear hw htk hto hpcl hbq
            go_wp2_with fail
            refine Htk.out.mono ?_
            rintro e w4 ⟨hb4, hno, hyes⟩
            have Hb4 := Lib.hid (bnext Hbl3.out hb4)
            cases O with
            | none =>
              obtain rfl := hno rfl
              have hRw : Rw = .error (p, 6) := Hw.out.symm
              have hR := Hlc.out
              rw [hRw] at hR
              have HR2 := Lib.hid hR
              have Hal4 := Lib.hid (show Below w4.heap.size w4 (w4.alloc (.cells #[.int .i64 2, .string ⟨#[]⟩, .bool false, .slice none 0 0, .slice none 0 0, .int .i64 ((line : Int) + 1), .int .i64 p] 39)) from (Below.refl _ _).alloc (Nat.le_refl _) _)
              clear hRw hR hb4 hno hyes
              go_wp2
              go_ret3
              exact ⟨bnext Hb4.out Hal4.out, TokPost.err HR2.out⟩
            | some t =>
              obtain ⟨text, x, y, rfl, htx, hox, hoy⟩ := hyes t rfl
              obtain ⟨A5, c5, rfl, hc5, _⟩ := hox.rv
              obtain ⟨A6, c6, rfl, hc6, _⟩ := hoy.rv
              have hn5 : ∃ n5, n5 = (digits t.nm).length := ⟨_, rfl⟩
              have hn6 : ∃ n6, n6 = (digits t.dn).length := ⟨_, rfl⟩
              obtain ⟨n5, hn5⟩ := hn5
              obtain ⟨n6, hn6⟩ := hn6
              rw [← hn5] at hox hc5 ⊢
              rw [← hn6] at hoy hc6 ⊢
              have Hox := Lib.hid hox; have Hoy := Lib.hid hoy; have Htx := Lib.hid htx
              have Hto4 := Lib.hid (Hto3.out.ext hb4)
              have hal4 : Below w4.heap.size w4 (w4.alloc (.cells #[.int .i64 t.kind, .string text, .bool t.neg, .slice A5 n5 c5, .slice A6 n6 c6, .int .i64 t.line, .int .i64 t.pos] 39)) := (Below.refl _ _).alloc (Nat.le_refl _) _
              have Hx4 := cells7f (alloc_last w4 (.cells #[.int .i64 t.kind, .string text, .bool t.neg, .slice A5 n5 c5, .slice A6 n6 c6, .int .i64 t.line, .int .i64 t.pos] 39))
              have Hal4 := Lib.hid hal4
              have hrow : ∀ k, Value.ownBlock (.slice A2 acc2.length c2') = some k → k < (wr.drewN q3).heap.size := fun k hk => (Hto3.out.row hk).2
              have Hrow := Lib.hid hrow
              have hbase3 := Hbl3.out.size
              have Hbase3 := Lib.hid hbase3
              clear hb4 hno hyes hox hoy htx hal4 hn5 hn6 hrow hbase3
              by_cases h600 : acc2.length = 600
              · have h6b : ((acc2.length : Int) == 600) = true := by rw [h600]; rfl
                have hRw : Rw = .error (p, 5) := by
                  have h := Hw.out
                  simp only [h600, if_true] at h
                  exact h.symm
                have hR := Hlc.out
                rw [hRw] at hR
                have HR2 := Lib.hid hR
                clear hRw hR
                go_wp2
                go_ret3
                exact ⟨bnext Hb4.out Hal4.out, TokPost.err HR2.out⟩
              · have h6b : ((acc2.length : Int) == 600) = false := by rw [beq_eq_false_iff_ne]; omega
                have hRw : words (line + 1) rs.data.toList (p + (tt.size - rs.size)) (acc2 ++ [t]) = Rw := by
                  have h := Hw.out
                  simp only [h600, if_false] at h
                  exact h
                have HRw2 := Lib.hid hRw
                clear hRw
                have hal5 : Below w4.heap.size w4 ((w4.alloc (.cells #[.int .i64 t.kind, .string text, .bool t.neg, .slice A5 n5 c5, .slice A6 n6 c6, .int .i64 t.line, .int .i64 t.pos] 39)).alloc (.cells #[.int .i64 t.kind, .string text, .bool t.neg, .slice A5 n5 c5, .slice A6 n6 c6, .int .i64 t.line, .int .i64 t.pos] 39)) := bnext Hal4.out ((Below.refl _ _).alloc (Nat.le_refl _) _)
                have hlit := lit_cells (w4.alloc (.cells #[.int .i64 t.kind, .string text, .bool t.neg, .slice A5 n5 c5, .slice A6 n6 c6, .int .i64 t.line, .int .i64 t.pos] 39)) [.int .i64 t.kind, .string text, .bool t.neg, .slice A5 n5 c5, .slice A6 n6 c6, .int .i64 t.line, .int .i64 t.pos] 39
                rw [show (w4.alloc (.cells #[.int .i64 t.kind, .string text, .bool t.neg, .slice A5 n5 c5, .slice A6 n6 c6, .int .i64 t.line, .int .i64 t.pos] 39)).heap.size = w4.heap.size + 1 from by simp] at hlit
                have hte := tokC_new (base := w.heap.size) (row := Value.ownBlock (.slice A2 acc2.length c2')) Htx.out Hox.out Hoy.out hal5 Hbase3.out Hrow.out
                have hbe := hal5.size
                have Hal5 := Lib.hid hal5; have Hlit := Lib.hid hlit; have Hte := Lib.hid hte
                have Hbe := Lib.hid (Nat.le_trans Hb4.out.size hbe)
                clear hal5 hlit hte hbe
                go_wp2_with (at_builtin; refine wp_appTok w.heap.size rfl _ _ rfl _ acc2 rfl (Hto4.out.ext Hal5.out) ⟨w4.heap.size + 1, 0, none⟩ 1 rfl t _ Hlit.out Hte.out (bnext Hb4.out Hal5.out) Hbe.out (by have := Hal2.out; omega) ?_; intro v1 w5 hown hb5; have Hown := Lib.hid hown; have Hb5 := Lib.hid hb5; clear hown hb5)
                go_roundw
                · refine ⟨p + (tt.size - rs.size), acc2 ++ [t], rs, by first | go_num | (congr 1; omega), rfl, Hown.out, ?_, by omega, by omega, HRw2.out, Hb5.out⟩
                  have := Hal2.out
                  rw [List.length_append, List.length_singleton]; omega
                · show rs.size < tt.size
                  exact hrss
    · go_wp2
      go_ret3
      have hnil : s.data.toList.drop pos = [] := List.drop_eq_nil_of_le (by rw [bytes_size]; omega)
      exact ⟨Hbl.out, TokPost.yes (by rw [← Heq.out, hnil, lines_nil]) Hal.out Hto.out⟩
end Go.Proofs.YtckiojofncdoeaaGreatDoor
