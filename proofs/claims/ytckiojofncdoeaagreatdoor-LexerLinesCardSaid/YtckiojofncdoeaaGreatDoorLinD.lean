/- LexerLines: the walk. -/
import Derived.Test.YtckiojofncdoeaaGreatDoorLaw3
namespace Go.Proofs.YtckiojofncdoeaaGreatDoor
open Go.RowKit Go.Deep

theorem take_ends {ts : List Tok} {k : Nat} {t : Tok} (h : ts[k]? = some t) : ends (ts.take (k + 1)) = ends (ts.take k) + ends [t] := by
  rw [List.take_add_one, h, ends_app]; rfl
theorem ends_le (l : List Tok) : ends l ≤ l.length := List.countP_le_length

theorem TokR.take {w : World} {A : Option Addr} {n cap k : Nat} {ts : List Tok} (h : TokR w (.slice A n cap) ts) (hk : k ≤ ts.length) : TokR w (.slice A k cap) (ts.take k) := by
  obtain ⟨A', cap', e, hc, hh⟩ := h
  simp only [Value.slice.injEq] at e
  obtain ⟨rfl, rfl, rfl⟩ := e
  have hl : (ts.take k).length = k := by rw [List.length_take]; omega
  refine ⟨A, cap, by rw [hl], by omega, fun hp => ?_⟩
  obtain ⟨g, o, rfl, hcs⟩ := hh (by omega)
  refine ⟨g, o, rfl, fun i t ht => hcs i t ?_⟩
  rw [List.getElem?_take] at ht
  split at ht
  · exact ht
  · cases ht
theorem TokR.one {w : World} {g o n cap k : Nat} {ts : List Tok} {t : Tok} (h : TokR w (.slice (some ⟨g, o, none⟩) n cap) ts) (ht : ts[k]? = some t) : TokR w (.slice (some ⟨g, o + k * 7, none⟩) 1 (cap - k)) [t] := by
  obtain ⟨A', cap', e, hc, hh⟩ := h
  simp only [Value.slice.injEq] at e
  obtain ⟨rfl, rfl, rfl⟩ := e
  have hl : k < ts.length := by
    rcases Nat.lt_or_ge k ts.length with h | h
    · exact h
    · rw [List.getElem?_eq_none h] at ht; cases ht
  refine ⟨_, _, rfl, by show 1 ≤ cap - k; omega, fun _ => ?_⟩
  obtain ⟨g', o', e', hcs⟩ := hh (by omega)
  simp only [Option.some.injEq, Addr.mk.injEq, and_true] at e'
  obtain ⟨rfl, rfl⟩ := e'
  refine ⟨g, o + k * 7, rfl, fun i t' ht' => ?_⟩
  cases i with
  | zero =>
    obtain rfl : t = t' := by simpa using ht'
    have := hcs k t ht
    rw [Nat.zero_mul, Nat.add_zero]
    exact this
  | succ i => simp at ht'

/-- a token copied and moved on, against its place in a list -/
theorem same_moved (W0 : World) (t : Tok) (text : ByteArray) (X Y : Option Addr) (cx cy : Nat) (tc : List Tok) (i gC oC n cC el P : Nat) (h : TokR W0 (.slice (some ⟨gC, oC, none⟩) n cC) tc) (ht : tc[i]? = some (sh el P t)) (htx : text.data.toList = t.text)
    (hcx : (digits t.nm).length ≤ cx) (hX : RU W0 X (digits t.nm)) (hcy : (digits t.dn).length ≤ cy) (hY : RU W0 Y (digits t.dn)) (hs : Short tc) (a b : Int) (ha : a = ((t.line + el : Nat) : Int)) (hb : b = ((t.pos + P : Nat) : Int)) (W : World)
    (hW : W = (W0.alloc (.cells #[.int .i64 t.kind, .string text, .bool t.neg, .slice X (digits t.nm).length cx, .slice Y (digits t.dn).length cy, .int .i64 a, .int .i64 b] 39)).drew) :
    Calls Tryz.prog 12 #[.slice (some ⟨W0.heap.size, 0, none⟩) 1 1, .slice (some ⟨gC, oC + i * 7, none⟩) 1 (cC - i)] W fun e w' => e = .returned (.bool true) ∧ Below W.heap.size W w' := by
  subst ha
  subst hb
  have hb0 : Below W0.heap.size W0 W := by
    rw [hW]
    exact bnext ((Below.refl _ _).alloc (Nat.le_refl _) _) (Drew.below (Drew.refl _).step1)
  have hcell : ∀ (k : Nat) (u : Value), ([.int .i64 t.kind, .string text, .bool t.neg, .slice X (digits t.nm).length cx, .slice Y (digits t.dn).length cy, .int .i64 ((t.line + el : Nat) : Int), .int .i64 ((t.pos + P : Nat) : Int)] : List Value)[k]? = some u → W.cell? ⟨W0.heap.size, k, none⟩ = some u := by
    intro k u h
    rw [hW]
    exact (cell_at (alloc_last W0 (.cells #[.int .i64 t.kind, .string text, .bool t.neg, .slice X (digits t.nm).length cx, .slice Y (digits t.dn).length cy, .int .i64 ((t.line + el : Nat) : Int), .int .i64 ((t.pos + P : Nat) : Int)] 39)) k u (by simpa using h)).1
  refine r11same_eq W _ _ [sh el P t] ⟨_, 1, rfl, Nat.le_refl _, fun _ => ⟨W0.heap.size, 0, rfl, fun k t' ht' => ?_⟩⟩ ((h.one ht).ext hb0) (fun t' ht' => ?_) (by simp)
  · cases k with
    | zero =>
      obtain rfl : sh el P t = t' := by simpa using ht'
      refine ⟨text, .slice X (digits t.nm).length cx, .slice Y (digits t.dn).length cy, htx, ⟨X, cx, rfl, hcx, hX.ext hb0⟩, ⟨Y, cy, rfl, hcy, hY.ext hb0⟩, ?_, ?_, ?_, ?_, ?_, ?_, ?_⟩
      · exact hcell 0 _ rfl
      · exact hcell 1 _ rfl
      · exact hcell 2 _ rfl
      · exact hcell 3 _ rfl
      · exact hcell 4 _ rfl
      · exact hcell 5 _ rfl
      · exact hcell 6 _ rfl
    | succ k => simp at ht'
  · obtain rfl : t' = sh el P t := by simpa using ht'
    exact hs _ (List.mem_of_getElem? ht)

set_option maxRecDepth 100000 in
set_option maxHeartbeats 6400000 in
theorem lines_law_any (w : World) (T : Tab w) (s more : ByteArray) (hsz : s.size ≤ 2 ^ 47) (hmz : more.size ≤ 2 ^ 47) : Calls Tryz.prog 4 #[.string s, .string more] w fun e w' => e = .returned (.bool true) ∧ Below w.heap.size w w' := by
  have HT := Lib.hid T; clear T
  by_cases h1000 : 1000 < s.size + more.size
  · go_enter Tryz.func4, Tryz.ntmps4
    go_wp2_with fail
    refine (awake_any _ HT.out).mono ?_
    rintro e w1 ⟨rfl, hb1⟩
    go_wp2
    go_ret
    exact ⟨rfl, hb1⟩
  clear hsz hmz
  obtain ⟨w0, hw0⟩ : ∃ x, x = w := ⟨_, rfl⟩
  have Hw0 := Lib.hid hw0; clear hw0
  obtain ⟨RA, hRA⟩ : ∃ R, R = lines (s.data.toList ++ [10]) 0 0 [] := ⟨_, rfl⟩
  obtain ⟨RB, hRB⟩ : ∃ R, R = lines more.data.toList 0 0 [] := ⟨_, rfl⟩
  obtain ⟨RC, hRC⟩ : ∃ R, R = lines (s.data.toList ++ [10] ++ more.data.toList) 0 0 [] := ⟨_, rfl⟩
  have hj := lines_law s.data.toList more.data.toList
  rw [show s.data.toList ++ 10 :: more.data.toList = s.data.toList ++ [10] ++ more.data.toList by simp, ← hRA, ← hRB, ← hRC, bytes_size] at hj
  have hsA : (s ++ ⟨#[10]⟩ : ByteArray).size ≤ 4096 := by
    have h := bytes_size (s ++ ⟨#[10]⟩ : ByteArray)
    rw [cat_list, List.length_append, bytes_size] at h
    have h2 : (⟨#[10]⟩ : ByteArray).data.toList.length = 1 := rfl
    omega
  have hsC : (s ++ ⟨#[10]⟩ ++ more : ByteArray).size ≤ 4096 := by
    have h := bytes_size (s ++ ⟨#[10]⟩ ++ more : ByteArray)
    rw [cat_list, cat_list, List.length_append, List.length_append, bytes_size s, bytes_size more] at h
    have h2 : (⟨#[10]⟩ : ByteArray).data.toList.length = 1 := rfl
    omega
  have htA := tokens_any w HT.out (s ++ ⟨#[10]⟩) hsA
  have htB := fun w1 (T : Tab w1) => tokens_any w1 T more (by omega)
  have htC := fun w1 (T : Tab w1) => tokens_any w1 T (s ++ ⟨#[10]⟩ ++ more : ByteArray) hsC
  rw [cat_list, show (⟨#[10]⟩ : ByteArray).data.toList = [10] from rfl, ← hRA] at htA
  simp only [cat_list, ← hRC] at htC
  simp only [← hRB] at htB
  have shA : Short (resToks RA) := by rw [hRA]; exact short_res
  have shC : Short (resToks RC) := by rw [hRC]; exact short_res
  have posA : resCode RA = 0 → 0 < (resToks RA).length := by rw [hRA]; exact res_pos
  have PosA := Lib.hid posA; clear posA
  have bdB : ∀ t ∈ resToks RB, Bd 1000 t := by
    rw [hRB]
    intro t ht
    obtain ⟨h1, h2⟩ := res_bd t ht
    rw [bytes_size] at h1 h2
    exact ⟨by omega, by omega⟩
  have HtA := Lib.hid htA; have HtB := Lib.hid htB; have HtC := Lib.hid htC; have ShA := Lib.hid shA; have ShC := Lib.hid shC; have BdB := Lib.hid bdB; have Hj := Lib.hid hj
  have haw := fun w' (hb : Below w0.heap.size w0 w') => awake_any w' (by rw [← Hw0.out] at HT; exact HT.out.ext hb)
  have Haw := Lib.hid haw
  clear hRA hRB hRC htA htB htC shA shC bdB hsA hsC hj haw
  go_enter Tryz.func4, Tryz.ntmps4
  go_wp2_with fail
  refine HtA.out.mono ?_
  rintro e w1 ⟨hb1, hpA⟩
  obtain ⟨vA, rfl, htoA, hlA⟩ := hpA.all
  obtain ⟨AA, cA, rfl⟩ := htoA.slice
  have Hb1 := Lib.hid hb1; have HrA := Lib.hid htoA.r
  clear hb1 hpA htoA
  go_wp2_with fail
  refine (HtB.out w1 (HT.out.ext Hb1.out)).mono ?_
  rintro e w2 ⟨hb2, hpB⟩
  obtain ⟨vB, rfl, htoB, hlB⟩ := hpB.all
  obtain ⟨AB, cB, rfl⟩ := htoB.slice
  have Hb2 := Lib.hid (bnext Hb1.out hb2); have HrB := Lib.hid htoB.r; have HrA2 := Lib.hid (HrA.out.ext hb2)
  clear hb2 hpB htoB
  go_wp2_with fail
  refine (HtC.out w2 (HT.out.ext Hb2.out)).mono ?_
  rintro e w3 ⟨hb3, hpC⟩
  obtain ⟨vC, rfl, htoC, hlC⟩ := hpC.all
  obtain ⟨AC, cC, rfl⟩ := htoC.slice
  have Hb3 := Lib.hid (bnext Hb2.out hb3); have HrC := Lib.hid htoC.r; have HrA3 := Lib.hid (HrA2.out.ext hb3); have HrB3 := Lib.hid (HrB.out.ext hb3)
  clear hb3 hpC htoC HrA HrA2 HrB HtA HtB HtC
  have hb30 : Below w0.heap.size w0 w3 := by rw [Hw0.out]; exact Hb3.out
  have Hb30 := Lib.hid hb30; clear hb30 Hb1 Hb2
  by_cases he : resCode RA ≠ 0
  · have c1 : ((resCode RA : Int) == 0) = false := by rw [beq_eq_false_iff_ne]; omega
    have c2 : ((resCode RC : Int) == (resCode RA : Int)) = true := by rw [Hj.out.1 he, beq_self_eq_true]
    have C2 := Lib.hid c2; have C1 := Lib.hid c1
    clear c2
    go_wp2_with fail
    refine (Haw.out _ Hb30.out).mono ?_
    rintro e w4 ⟨rfl, hb4⟩
    have Hb4 := Lib.hid (bnext Hb3.out hb4); clear hb4
    have c2 := C2.out
    go_wp2
    go_ret
    exact ⟨rfl, Hb4.out⟩
  · have he : resCode RA = 0 := by omega
    have c1 : ((resCode RA : Int) == 0) = true := by rw [he]; rfl
    have C1 := Lib.hid c1; clear c1
    by_cases hbc : resCode RB ≠ 0 ∨ resCode RC ≠ 0
    · obtain ⟨hcc, hpos⟩ := (Hj.out.2 he).1 hbc
      have c1 := C1.out
      by_cases hB0 : resCode RB = 0
      · have hC5 : resCode RC = 5 := by omega
        rw [hB0, hC5]
        clear hcc hbc
        go_wp2_with fail
        refine (Haw.out _ Hb30.out).mono ?_
        rintro e w4 ⟨rfl, hb4⟩
        have Hb4 := Lib.hid (bnext Hb3.out hb4); clear hb4
        go_wp2
        go_ret
        exact ⟨rfl, Hb4.out⟩
      · have hne : ((resCode RB : Int) == 0) = false := by rw [beq_eq_false_iff_ne]; omega
        have Hcc := Lib.hid hcc
        clear hcc hbc
        go_wp2_with fail
        refine (Haw.out _ Hb30.out).mono ?_
        rintro e w4 ⟨rfl, hb4⟩
        have Hb4 := Lib.hid (bnext Hb3.out hb4); clear hb4
        by_cases hBC : resCode RB = resCode RC
        · have h1 : ((resCode RB : Int) == (resCode RC : Int)) = true := by rw [hBC, beq_self_eq_true]
          clear hBC
          go_wp2
          go_ret
          exact ⟨rfl, Hb4.out⟩
        · have h1 : ((resCode RB : Int) == (resCode RC : Int)) = false := by rw [beq_eq_false_iff_ne]; omega
          have h2 : ((resCode RC : Int) == 5) = true := by
            have := Hcc.out
            have h : resCode RC = 5 := by omega
            rw [h]; rfl
          clear hBC
          go_wp2
          go_ret
          exact ⟨rfl, Hb4.out⟩
    · have hB0 : resCode RB = 0 := by omega
      have hC0 : resCode RC = 0 := by omega
      have hcat := (Hj.out.2 he).2 hB0 hC0
      have hn1 := PosA.out he
      clear PosA
      rw [hB0, hC0]
      have Hcat := Lib.hid hcat; have c1 := C1.out
      clear hbc hB0 hC0 hcat he Hj C1
      generalize resToks RA = ta at *
      generalize resToks RB = tb at *
      generalize resToks RC = tc at *
      generalize resPos RA = pA at *
      generalize resPos RB = pB at *
      generalize resPos RC = pC at *
      generalize resCode RA = eA at *
      obtain ⟨na, hna⟩ : ∃ n, n = ta.length := ⟨_, rfl⟩
      obtain ⟨nb, hnb⟩ : ∃ n, n = tb.length := ⟨_, rfl⟩
      have hcl : tc.length = na + nb := by rw [Hcat.out, List.length_append, List.length_map, hna, hnb]
      rw [← hna] at hlA; rw [← hnb] at hlB; rw [hcl] at hlC
      rw [hcl, ← hna, ← hnb]
      rw [← hna] at hn1
      have Hna := Lib.hid hna; have Hnb := Lib.hid hnb; have Hcl := Lib.hid hcl
      clear hna hnb hcl
      have hA := HrA3.out; have hB := HrB3.out; have hC := HrC.out
      obtain ⟨A', cA', eA', hcA, hhA⟩ := hA
      simp only [Value.slice.injEq] at eA'
      obtain ⟨rfl, _, rfl⟩ := eA'
      rw [← Hna.out] at hcA hhA
      have HhA := Lib.hid hhA
      clear hhA hB hC
      go_wp2
      go_loopw [14, 16, 80] (fun l t i wq => Below w3.heap.size w3 wq ∧ ∃ k : Nat, k ≤ na ∧ i = .int .i64 k ∧ l = .int .i64 (ends (ta.take k) : Nat)) (fun _ _ i _ => na - (intOf i).toNat)
      · exact ⟨Below.refl _ _, 0, Nat.zero_le _, rfl, rfl⟩
      · obtain ⟨hbl, k, hk, rfl, rfl⟩ := hrel
        have Hbl := Lib.hid hbl; clear hbl
        by_cases hlt : k < na
        · obtain ⟨t, ht⟩ : ∃ t, ta[k]? = some t := ⟨ta[k]'(by rw [← Hna.out]; exact hlt), List.getElem?_eq_getElem _⟩
          obtain ⟨g, o, rfl, hcs⟩ := HhA.out (by omega)
          obtain ⟨text, x, y, _, ⟨X, cx, rfl, _, _⟩, ⟨Y, cy, rfl, _, _⟩, d1, d2, d3, d4, d5, d6, d7⟩ := hcs k t ht
          have d1 := cell_below Hbl.out d1
          have d2 := cell_below Hbl.out d2
          have d3 := cell_below Hbl.out d3
          have d4 := cell_below Hbl.out d4
          have d5 := cell_below Hbl.out d5
          have d6 := cell_below Hbl.out d6
          have d7 := cell_below Hbl.out d7
          have Hte := Lib.hid (take_ends ht)
          have Hle := Lib.hid (ends_le (ta.take k))
          have hlk : (ta.take k).length ≤ k := List.length_take_le _ _
          generalize hi1 : o + k * 7 = a1 at *
          have e1 : o + k * 7 = a1 := hi1
          clear hi1 hcs
          by_cases hk3 : t.kind = 3
          · have q1 : ((t.kind : Int) == 3) = true := by rw [hk3]; rfl
            have hen : ends (ta.take (k + 1)) = ends (ta.take k) + 1 := by
              rw [Hte.out]
              have : ends [t] = 1 := by unfold ends; rw [List.countP_cons, hk3]; rfl
              rw [this]
            have Hen := Lib.hid hen
            have hle := Hle.out
            generalize ends (ta.take k) = en at *
            clear hen hk3
            go_wp2
            go_roundw
            · exact ⟨Hbl.out.alloc Hbl.out.size _, k + 1, by omega, by go_num, by rw [Hen.out]; go_num⟩
            · simp [intOf]; omega
          · have q1 : ((t.kind : Int) == 3) = false := by rw [beq_eq_false_iff_ne]; omega
            have hen : ends (ta.take (k + 1)) = ends (ta.take k) := by
              rw [Hte.out]
              have : ends [t] = 0 := by unfold ends; rw [List.countP_cons_of_neg (by simp [hk3])]; rfl
              rw [this, Nat.add_zero]
            have Hen := Lib.hid hen
            generalize ends (ta.take k) = en at *
            clear hen hk3
            go_wp2
            go_roundw
            · exact ⟨Hbl.out.alloc Hbl.out.size _, k + 1, by omega, by go_num, by rw [Hen.out]⟩
            · simp [intOf]; omega
        · obtain rfl : k = na := by omega
          rw [Hna.out, List.take_length]
          rw [← Hna.out]
          have hs1 : TokR wr (.slice AC k cC) ta := by
            have h := (HrC.out.ext Hbl.out).take (k := k) (by rw [Hcl.out]; omega)
            rw [Hcat.out, Hna.out, List.take_left] at h
            rw [Hna.out]; exact h
          have hcC : k + nb ≤ cC := by
            obtain ⟨_, _, e, h, _⟩ := HrC.out
            simp only [Value.slice.injEq] at e
            obtain ⟨_, _, rfl⟩ := e
            rw [Hcl.out] at h
            exact h
          have hcC2 : (k : Int) ≤ cC := by omega
          have Hs1 := Lib.hid hs1
          clear hs1
          have HcC := Lib.hid hcC
          clear hcC
          go_wp2_with fail
          refine (r11same_eq wr (.slice AC k cC) (.slice AA k cA) ta Hs1.out (by rw [Hna.out]; exact HrA3.out.ext Hbl.out) ShA.out (by rw [← Hna.out]; omega)).mono ?_
          rintro e w4 ⟨rfl, hb4⟩
          have Hb4 := Lib.hid (bnext Hbl.out hb4); clear hb4
          have hel : ends ta ≤ k := by have := ends_le ta; rw [Hna.out]; exact this
          generalize ends ta = el at *
          go_wp2
          go_loopw [17, 18, 109] (fun _ _ i wq => Below w3.heap.size w3 wq ∧ ∃ j : Nat, j ≤ nb ∧ i = .int .i64 j) (fun _ _ i _ => nb - (intOf i).toNat)
          · exact ⟨Hb4.out, 0, Nat.zero_le _, rfl⟩
          · obtain ⟨hbl2, j, hj, rfl⟩ := hrel
            have Hbl2 := Lib.hid hbl2; clear hbl2
            by_cases hlt2 : j < nb
            · obtain ⟨B', cB', eB', hcB, hhB⟩ := HrB3.out
              simp only [Value.slice.injEq] at eB'
              obtain ⟨rfl, _, rfl⟩ := eB'
              rw [← Hnb.out] at hcB hhB
              obtain ⟨t, ht⟩ : ∃ t, tb[j]? = some t := ⟨tb[j]'(by rw [← Hnb.out]; exact hlt2), List.getElem?_eq_getElem _⟩
              obtain ⟨g, o, rfl, hcs⟩ := hhB (by omega)
              obtain ⟨text, x, y, htx, ⟨X, cx, rfl, hcx, hX⟩, ⟨Y, cy, rfl, hcy, hY⟩, d1, d2, d3, d4, d5, d6, d7⟩ := hcs j t ht
              obtain ⟨bd1, bd2⟩ := BdB.out t (List.mem_of_getElem? ht)
              have d1 := cell_below Hbl2.out d1
              have d2 := cell_below Hbl2.out d2
              have d3 := cell_below Hbl2.out d3
              have d4 := cell_below Hbl2.out d4
              have d5 := cell_below Hbl2.out d5
              have d6 := cell_below Hbl2.out d6
              have d7 := cell_below Hbl2.out d7
              have Ht := Lib.hid ht; have Htx := Lib.hid htx; have HX := Lib.hid hX; have HY := Lib.hid hY
              generalize hi1 : o + j * 7 = a1 at *
              have e1 : o + j * 7 = a1 := hi1
              clear hi1 hcs hhB ht htx hX hY
              go_wp2
              have H0 : ∀ i u, ([.int .i64 t.kind, .string text, .bool t.neg, .slice X (digits t.nm).length cx, .slice Y (digits t.dn).length cy, .int .i64 ((t.line : Int) + (el : Int)), .int .i64 ((t.pos : Int) + (s.size : Int) + 1)] : List Value)[i]? = some u → (wr.alloc (.cells #[.int .i64 t.kind, .string text, .bool t.neg, .slice X (digits t.nm).length cx, .slice Y (digits t.dn).length cy, .int .i64 ((t.line : Int) + (el : Int)), .int .i64 ((t.pos : Int) + (s.size : Int) + 1)] 39)).cell? ⟨wr.heap.size, i, none⟩ = some u := by
                intro i u h
                have := (cell_at (alloc_last wr (.cells #[.int .i64 t.kind, .string text, .bool t.neg, .slice X (digits t.nm).length cx, .slice Y (digits t.dn).length cy, .int .i64 ((t.line : Int) + (el : Int)), .int .i64 ((t.pos : Int) + (s.size : Int) + 1)] 39)) i u (by simpa using h)).1
                exact this
              have hbW : Below w3.heap.size w3 (wr.alloc (.cells #[.int .i64 t.kind, .string text, .bool t.neg, .slice X (digits t.nm).length cx, .slice Y (digits t.dn).length cy, .int .i64 ((t.line : Int) + (el : Int)), .int .i64 ((t.pos : Int) + (s.size : Int) + 1)] 39)) := Hbl2.out.alloc Hbl2.out.size _
              have HbW := Lib.hid hbW
              clear hbW
              generalize wr.alloc (.cells #[.int .i64 t.kind, .string text, .bool t.neg, .slice X (digits t.nm).length cx, .slice Y (digits t.dn).length cy, .int .i64 ((t.line : Int) + (el : Int)), .int .i64 ((t.pos : Int) + (s.size : Int) + 1)] 39) = W0 at *
              have hS : ∀ w' : World, Below W0.heap.size W0 w' → w'.cell? ⟨wr.heap.size, 0, none⟩ = some (.int .i64 t.kind) ∧ w'.cell? ⟨wr.heap.size, 1, none⟩ = some (.string text) ∧ w'.cell? ⟨wr.heap.size, 2, none⟩ = some (.bool t.neg) ∧ w'.cell? ⟨wr.heap.size, 3, none⟩ = some (.slice X (digits t.nm).length cx) ∧ w'.cell? ⟨wr.heap.size, 4, none⟩ = some (.slice Y (digits t.dn).length cy) ∧ w'.cell? ⟨wr.heap.size, 5, none⟩ = some (.int .i64 ((t.line : Int) + (el : Int))) ∧ w'.cell? ⟨wr.heap.size, 6, none⟩ = some (.int .i64 ((t.pos : Int) + (s.size : Int) + 1)) := fun w' hb => ⟨cell_below hb (H0 0 _ rfl), cell_below hb (H0 1 _ rfl), cell_below hb (H0 2 _ rfl), cell_below hb (H0 3 _ rfl), cell_below hb (H0 4 _ rfl), cell_below hb (H0 5 _ rfl), cell_below hb (H0 6 _ rfl)⟩
              have HS := Lib.hid hS
              have HbD := Lib.hid (Drew.below (Drew.refl W0).step1)
              have hS0 := hS _ HbD.out
              have hC := HrC.out.ext (bnext HbW.out HbD.out)
              obtain ⟨C', cC', eC', hcC, hhC⟩ := hC
              simp only [Value.slice.injEq] at eC'
              obtain ⟨rfl, _, rfl⟩ := eC'
              rw [Hcl.out] at hcC hhC
              obtain ⟨gC, oC, rfl, _⟩ := hhC (by omega)
              have hcat2 : tc[k + j]? = some (sh el (s.size + 1) t) := by
                rw [Hcat.out, List.getElem?_append_right (by rw [← Hna.out]; omega), ← Hna.out, Nat.add_sub_cancel_left, List.getElem?_map, Ht.out]; rfl
              have hsm := same_moved W0 t text X Y cx cy tc (k + j) gC oC (k + nb) cC el (s.size + 1) (by have h := HrC.out.ext HbW.out; rw [Hcl.out] at h; exact h) hcat2 Htx.out hcx (HX.out.ext HbW.out) hcy (HY.out.ext HbW.out) ShC.out ((t.line : Int) + (el : Int)) ((t.pos : Int) + (s.size : Int) + 1) (by push_cast; rfl) (by push_cast; omega)
              have Hsm := Lib.hid hsm
              clear hcat2 hsm
              clear hhC H0 hS d1 d2 d3 d4 d5 d6 d7
              have i1 : (0 : Int) ≤ (k : Int) + j := by omega
              have i2 : (k : Int) + j + 1 ≤ cC := by omega
              have i3 : (k : Int) + j ≤ (k : Int) + j + 1 := by omega
              have i4 : ((k : Int) + j).toNat = k + j := by omega
              have i5 : ((k : Int) + j + 1).toNat = k + j + 1 := by omega
              have i6 : ¬ cC = k + j := by omega
              have i8 : k + j + 1 - (k + j) = 1 := by omega
              have i9 : ¬ k = 0 := by omega
              have j1 : IntKind.i64.wrap ((k : Int) + j) = (k : Int) + j := IntWalk.i64_in _ (by omega)
              have j2 : IntKind.i64.wrap ((k : Int) + j + 1) = (k : Int) + j + 1 := IntWalk.i64_in _ (by omega)
              go_region_held3 (fun w' => w'.cell? ⟨wr.heap.size, 0, none⟩ = some (.int .i64 t.kind) ∧ w'.cell? ⟨wr.heap.size, 1, none⟩ = some (.string text) ∧ w'.cell? ⟨wr.heap.size, 2, none⟩ = some (.bool t.neg) ∧ w'.cell? ⟨wr.heap.size, 3, none⟩ = some (.slice X (digits t.nm).length cx) ∧ w'.cell? ⟨wr.heap.size, 4, none⟩ = some (.slice Y (digits t.dn).length cy) ∧ w'.cell? ⟨wr.heap.size, 5, none⟩ = some (.int .i64 ((t.line : Int) + (el : Int))) ∧ w'.cell? ⟨wr.heap.size, 6, none⟩ = some (.int .i64 ((t.pos : Int) + (s.size : Int) + 1)))
                (first | exact hS0 | exact HS.out _ (bnext ((Below.refl _ _).alloc (Nat.le_refl _) _) (Drew.below (Drew.refl _).step1)) | exact HS.out _ (bnext (bnext ((Below.refl _ _).alloc (Nat.le_refl _) _) (Drew.below (Drew.refl _).step1)) Hb5.out))
                (first | (go_at_call 12; refine (Hsm.out _ rfl).mono ?_; rintro e w5 ⟨rfl, hb5⟩; have Hb5 := Lib.hid hb5; clear hb5))
              all_goals go_wp2
              all_goals go_roundw
              · exact ⟨bnext (bnext HbW.out (bnext ((Below.refl _ _).alloc (Nat.le_refl _) _) (Drew.below (Drew.refl _).step1))) Hb5.out, j + 1, by omega, by go_num⟩
              · simp [intOf]; omega
            · have haw := Haw.out _ (bnext Hb30.out Hbl2.out)
              have Haw2 := Lib.hid haw
              clear haw
              go_wp2_with fail
              refine Haw2.out.mono ?_
              rintro e w5 ⟨rfl, hb5⟩
              go_wp2
              go_ret
              exact ⟨rfl, by have h := bnext (bnext Hb30.out Hbl2.out) hb5; rw [Hw0.out] at h; exact h⟩
end Go.Proofs.YtckiojofncdoeaaGreatDoor
