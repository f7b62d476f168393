/- lexer: Number, the walk. -/
import Derived.Test.YtckiojofncdoeaaGreatDoorLexC
namespace Go.Proofs.YtckiojofncdoeaaGreatDoor
open Go.RowKit

theorem set3_heap {w : World} {g : Nat} {a b c x y z : Value} {t : TypeId} (h : w.heap[g]? = some (.cells #[a, b, c] t (0, 0))) : (((w.setCell ⟨g, 0, none⟩ x).setCell ⟨g, 1, none⟩ y).setCell ⟨g, 2, none⟩ z).heap[g]? = some (.cells #[x, y, z] t (0, 0)) :=
  heap_set (heap_set (heap_set h))
theorem set3_heap_ne {w : World} {g k : Nat} {x y z : Value} {o : Obj} (hne : g ≠ k) (h : w.heap[k]? = some o) : (((w.setCell ⟨g, 0, none⟩ x).setCell ⟨g, 1, none⟩ y).setCell ⟨g, 2, none⟩ z).heap[k]? = some o := by
  rw [heap_set_ne hne, heap_set_ne hne, heap_set_ne hne]; exact h
theorem cells3f {w : World} {g : Nat} {a b c : Value} {t : TypeId} (h : w.heap[g]? = some (.cells #[a, b, c] t (0, 0))) :
    w.cell? ⟨g, 0, none⟩ = some a ∧ w.cell? ⟨g, 1, none⟩ = some b ∧ w.cell? ⟨g, 2, none⟩ = some c ∧ w.frozen? ⟨g, 0, none⟩ = false ∧ w.frozen? ⟨g, 1, none⟩ = false ∧ w.frozen? ⟨g, 2, none⟩ = false :=
  ⟨(cell_at h 0 _ rfl).1, (cell_at h 1 _ rfl).1, (cell_at h 2 _ rfl).1, (cell_at h 0 _ rfl).2, (cell_at h 1 _ rfl).2, (cell_at h 2 _ rfl).2⟩
theorem empty_iff (r : ByteArray) : ((!r.toList.isEmpty) = true → 0 < r.size) ∧ ((!r.toList.isEmpty) = false → r.size = 0) := by
  rw [ByteArray.toList_eq]
  have h := bytes_size r
  cases hh : r.data.toList with
  | nil => rw [hh] at h; exact ⟨fun h2 => (by simp at h2), fun _ => h.symm⟩
  | cons a t => rw [hh, List.length_cons] at h; exact ⟨fun _ => by omega, fun h2 => (by simp at h2)⟩
theorem trim_len (l p : List UInt8) : (Lib.trimPrefix l p).length ≤ l.length := by
  unfold Lib.trimPrefix
  split
  · rw [List.length_drop]; omega
  · exact Nat.le_refl _

set_option maxRecDepth 100000 in
set_option maxHeartbeats 3200000 in
theorem number_any (w : World) (T : Tab w) (s : ByteArray) (hs : s.size ≤ 4096) : Calls Tryz.prog 10 #[.string s] w fun e w' => Below w.heap.size w w' ∧
    (numOf s.data.toList = none → e = .returned (.tuple #[.agg #[.bool false, .slice none 0 0, .slice none 0 0], .bool false])) ∧
    (∀ q, numOf s.data.toList = some q → ∃ v, e = .returned (.tuple #[v, .bool true]) ∧ RatO w.heap.size w' v q) := by
  have Hbx := Lib.hid (alloc_last w (.cells #[.bool false, .slice none 0 0, .slice none 0 0] 31))
  have Hbw := Lib.hid (show Below w.heap.size w (w.alloc (.cells #[.bool false, .slice none 0 0, .slice none 0 0] 31)) from (Below.refl _ _).alloc (Nat.le_refl _) _)
  have hsz : w.heap.size < (w.alloc (.cells #[.bool false, .slice none 0 0, .slice none 0 0] 31)).heap.size := by simp
  have HT := Lib.hid (T.ext Hbw.out); clear T
  have hcp := Tryz.strings_CutPrefix s ⟨#[45]⟩
  have hnumd : numOf s.data.toList = (numAbs (Lib.trimPrefix s.data.toList [45])).map fun q => if Lib.hasPrefix s.data.toList [45] then -q else q := rfl
  rw [hnumd]
  have hul := trim_len s.data.toList [45]
  rw [bytes_size] at hul
  change ∀ w : World, Calls Tryz.prog 25 #[.string s, .string ⟨#[45]⟩] w fun e w' => e = .returned (.tuple #[.string ⟨(Lib.trimPrefix s.data.toList [45]).toArray⟩, .bool (Lib.hasPrefix s.data.toList [45])]) ∧ w' = w at hcp
  obtain ⟨u, hu⟩ : ∃ u : ByteArray, u = ⟨(Lib.trimPrefix s.data.toList [45]).toArray⟩ := ⟨_, rfl⟩
  have hul2 : u.data.toList = Lib.trimPrefix s.data.toList [45] := by rw [hu]
  rw [← hu] at hcp
  rw [← hul2] at hul ⊢
  generalize Lib.hasPrefix s.data.toList [45] = neg at *
  have hus : u.size ≤ 4096 := by rw [bytes_size] at hul; omega
  obtain ⟨N, hNe⟩ : ∃ N, N = numAbs u.data.toList := ⟨_, rfl⟩
  rw [← hNe]
  have HNe := Lib.hid hNe; clear hNe
  have Hcp := Lib.hid hcp
  clear hcp hu hul2 hul hnumd
  go_enter Tryz.func10, Tryz.ntmps10
  go_wp2_with fail
  generalize (w.alloc (.cells #[.bool false, .slice none 0 0, .slice none 0 0] 31)) = W at *
  refine (Hcp.out W).mono ?_
  rintro e w' ⟨rfl, rfl⟩
  go_wp2_with fail
  refine (group_any w' HT.out u hus).mono ?_
  rintro e w1 ⟨hb1, hbad, hgood⟩
  have Hb1 := Lib.hid hb1
  have HT1 := Lib.hid (HT.out.ext hb1)
  by_cases hg : (lead u.data.toList).length < 1 ∨ 30 < (lead u.data.toList).length
  · obtain rfl := hbad hg
    have Hxz := Lib.hid (show Below w1.heap.size w1 (w1.alloc (.cells #[.bool false, .slice none 0 0, .slice none 0 0] 31)) from (Below.refl _ _).alloc (Nat.le_refl _) _)
    have HbZ := Lib.hid (bnext Hb1.out Hxz.out)
    have Hn : Hid (N = none) := Lib.hid (by rw [HNe.out]; exact numAbs_bad hg)
    clear hb1 hbad hgood hg
    obtain ⟨k1, k2, k3⟩ := cells3 HbZ.out hsz Hbx.out
    have k4 := thaw' HbZ.out hsz Hbx.out 0; have k5 := thaw' HbZ.out hsz Hbx.out 1; have k6 := thaw' HbZ.out hsz Hbx.out 2
    go_wp2
    all_goals (refine bodyPost_ret (v := .tuple #[.agg #[.bool false, .slice none 0 0, .slice none 0 0], .bool false]) ?_ rfl ⟨?_, fun _ => rfl, fun q h => absurd h (by rw [Hn.out]; simp)⟩)
    all_goals first
      | (rw [results_cell_tmp rfl]; simp [go_sem, asAddr, Result.andThen, k1, k2, k3]; done)
      | exact bset3 (bnext Hbw.out HbZ.out) (Nat.le_refl _) _ _ _
  · obtain ⟨v1, r1, rfl, hr1, ho1⟩ := hgood (by omega) (by omega)
    obtain ⟨b5, A5, n5, c5, B5, m5, d5, rfl, _, _, _, _⟩ := ho1.rv.cut
    have hV := dec_lead_lt (l := u.data.toList) (by omega)
    have hVs := nat_small hV
    obtain ⟨V, hVe⟩ : ∃ V, V = dec (lead u.data.toList) := ⟨_, rfl⟩
    have Hone := Lib.hid (numAbs_one hg)
    have Hcons := Lib.hid (fun c r => numAbs_cons (c := c) (r := r) hg)
    rw [← HNe.out] at Hone Hcons
    rw [← hVe] at hV hVs ho1 Hone Hcons
    obtain ⟨L, hL⟩ : ∃ L, L = u.data.toList.drop (lead u.data.toList).length := ⟨_, rfl⟩
    rw [← hL] at hr1 Hone Hcons
    have hlen1 : r1.size ≤ 4096 := by
      have h1 := bytes_size r1
      rw [hr1, hL, List.length_drop, bytes_size] at h1
      omega
    have HV := Lib.hid hV; have HVs := Lib.hid hVs; have Ho1 := Lib.hid ho1; have Hr1 := Lib.hid hr1
    have Hx := Lib.hid (alloc_last w1 (.cells #[.bool b5, .slice A5 n5 c5, .slice B5 m5 d5] 31))
    have Hxw := Lib.hid (show Below w1.heap.size w1 (w1.alloc (.cells #[.bool b5, .slice A5 n5 c5, .slice B5 m5 d5] 31)) from (Below.refl _ _).alloc (Nat.le_refl _) _)
    clear hb1 hbad hgood hV hVs ho1 hr1 hL hVe
    generalize ((lead u.data.toList).length) = nl at *
    go_upto_if 32 with fail
    have hrb : ((!r1.toList.isEmpty) = true → 0 < r1.size) ∧ ((!r1.toList.isEmpty) = false → r1.size = 0) := empty_iff r1
    generalize (!r1.toList.isEmpty) = rb at *
    have Hrb := Lib.hid hrb
    clear hrb
    go_cut [13] (fun _ wx => ∃ (q : Rat) (b : Bool) (A : Option Addr) (n ca : Nat) (B : Option Addr) (m cb : Nat), N = some q ∧ wx.heap[w1.heap.size]? = some (.cells #[.bool b, .slice A n ca, .slice B m cb] 31) ∧
      RatO w'.heap.size wx (.agg #[.bool b, .slice A n ca, .slice B m cb]) q ∧ Below w'.heap.size w' wx ∧ (digits q.num.natAbs).length ≤ 100 ∧ (digits q.den).length ≤ 100)
    case first =>
      generalize (w1.alloc (.cells #[.bool b5, .slice A5 n5 c5, .slice B5 m5 d5] 31)) = X at *
      have HbX := Lib.hid (bnext Hb1.out Hxw.out)
      have HTX := Lib.hid (HT1.out.ext Hxw.out)
      cases rb
      · have hr0 : r1.size = 0 := Hrb.out.2 rfl
        have HN := Lib.hid (Hone.out (by rw [← Hr1.out]; exact bytes_nil hr0))
        go_wp2
        go_meet
        exact ⟨_, _, _, _, _, _, _, _, HN.out, Hx.out, Ho1.out.ext Hxw.out, HbX.out, HVs.out.1, HVs.out.2⟩
      · have hr1p : 0 < r1.size := Hrb.out.1 rfl
        obtain ⟨c, tl, hct⟩ : ∃ c tl, L = c :: tl := by
          cases hh : L with
          | nil => rw [← Hr1.out] at hh; have := bytes_size r1; rw [hh] at this; simp at this; omega
          | cons c tl => exact ⟨c, tl, rfl⟩
        have hc : r1[0]'hr1p = c := by rw [← head_at r1 hr1p, Hr1.out, hct]; rfl
        have htl : (r1.extract 1 r1.size).data.toList = tl := by rw [drop_bytes, Hr1.out, hct]; rfl
        have hcons := Hcons.out c tl hct
        have hsz1 : (r1.extract 1 r1.size).size ≤ 4096 := by rw [ByteArray.size_extract]; omega
        have hgr := fun T => group_any X T (r1.extract 1 r1.size) hsz1
        rw [htl] at hgr
        have Hgr := Lib.hid (hgr HTX.out); have HC := Lib.hid hcons
        clear hgr hcons htl hct hsz1
        have hcv : (r1[0]'hr1p).toNat = c.toNat := by rw [hc]
        have Hcv := Lib.hid hcv; clear hcv hc
        go_wp2_with fail
        refine Hgr.out.mono ?_
        rintro e w2 ⟨hb2, hbad2, hgood2⟩
        have Hb2 := Lib.hid (bnext HbX.out hb2)
        have Hx2 := Lib.hid (heap_at hb2 Hx.out)
        have Ho2 := Lib.hid (Ho1.out.ext (bnext Hxw.out hb2))
        by_cases hg2 : (lead tl).length < 1 ∨ 30 < (lead tl).length
        · obtain rfl := hbad2 hg2
          have hN : N = none := by rw [HC.out, if_pos hg2]
          have Hn := Lib.hid hN
          have HbZ := Lib.hid (bnext Hb2.out (show Below w2.heap.size w2 (w2.alloc (.cells #[.bool false, .slice none 0 0, .slice none 0 0] 31)) from (Below.refl _ _).alloc (Nat.le_refl _) _))
          clear hb2 hbad2 hgood2 hg2 hN
          obtain ⟨k1, k2, k3⟩ := cells3 HbZ.out hsz Hbx.out
          have k4 := thaw' HbZ.out hsz Hbx.out 0; have k5 := thaw' HbZ.out hsz Hbx.out 1; have k6 := thaw' HbZ.out hsz Hbx.out 2
          go_wp2
          all_goals (refine bodyPost_ret (v := .tuple #[.agg #[.bool false, .slice none 0 0, .slice none 0 0], .bool false]) ?_ rfl ⟨?_, fun _ => rfl, fun q h => absurd h (by rw [Hn.out]; simp)⟩)
          all_goals first
            | (rw [results_cell_tmp rfl]; simp [go_sem, asAddr, Result.andThen, k1, k2, k3]; done)
            | exact bset3 (bnext Hbw.out HbZ.out) (Nat.le_refl _) _ _ _
        · obtain ⟨v2, r2, rfl, hr2, ho2⟩ := hgood2 (by omega) (by omega)
          obtain ⟨b9, A9, n9, c9, B9, m9, d9, rfl, _, _, _, _⟩ := ho2.rv.cut
          rw [if_neg hg2] at HC
          have hm30 : (lead tl).length ≤ 30 := by omega
          have hV2 := dec_lead_lt (l := tl) hm30
          generalize dec (lead tl) = V2 at *
          generalize (lead tl).length = cnt at *
          have Hx9 := Lib.hid (alloc_last w2 (.cells #[.bool b9, .slice A9 n9 c9, .slice B9 m9 d9] 31))
          have Hxw9 := Lib.hid (show Below w2.heap.size w2 (w2.alloc (.cells #[.bool b9, .slice A9 n9 c9, .slice B9 m9 d9] 31)) from (Below.refl _ _).alloc (Nat.le_refl _) _)
          have HbX9 := Lib.hid (bnext Hb2.out Hxw9.out)
          have Hx5 := Lib.hid (heap_at Hxw9.out Hx2.out)
          have Hc9 := Lib.hid (bnext Hxw.out (bnext hb2 Hxw9.out))
          have hgg : w1.heap.size ≤ w2.heap.size := Nat.le_of_lt (heap_lt Hx2.out)
          have hwg : w'.heap.size ≤ w1.heap.size := Hb1.out.size
          have Ho9 := Lib.hid ((ho2.ext Hxw9.out).mono HbX.out.size); have Ho5 := Lib.hid (Ho2.out.ext Hxw9.out)
          have hne95 : w1.heap.size < w2.heap.size := heap_lt Hx2.out
          have HV2 := Lib.hid hV2; have Hr2 := Lib.hid hr2
          clear hb2 hbad2 hgood2 hg2 ho2 hV2 hr2
          go_upto_if 46 with fail
          generalize (w2.alloc (.cells #[.bool b9, .slice A9 n9 c9, .slice B9 m9 d9] 31)) = X9 at *
          have hrb2 := empty_iff r2
          generalize (!r2.toList.isEmpty) = rb2 at *
          have Hrb2 := Lib.hid hrb2
          clear hrb2
          cases rb2
          · have hr2n : r2.data.toList = [] := bytes_nil (Hrb2.out.2 rfl)
            rw [Hr2.out] at hr2n
            rw [if_neg (fun h => h hr2n)] at HC
            clear hr2n
            have hten : ((10 : Nat) : Rat) ^ cnt = ((10 ^ cnt : Nat) : Rat) := pow_cast cnt
            have hten0 : (((10 : Nat) : Rat) ^ cnt).num ≠ 0 := by
              rw [hten, Rat.num_natCast]
              have := Nat.pow_pos (n := cnt) (show 0 < 10 by decide)
              omega
            have Hten0 := Lib.hid hten0
            clear hten hten0
            by_cases h46 : c = 46
            · have c46 : (((r1[0]'hr1p).toNat : Int) == 46) = true := by rw [Hcv.out, h46]; rfl
              rw [if_pos h46] at HC
              clear h46
              go_upto_region 14 with (first
                | (go_at_call 28; refine (rof10_any _).mono ?_; rintro e w3 ⟨v3, rfl, hb3, ho3⟩; obtain ⟨b3, A3, n3, c3, B3, m3, d3, rfl, _, _, _, _⟩ := ho3.rv.cut; have Hb3 := Lib.hid hb3; have Ho3 := Lib.hid ho3; clear hb3 ho3)
                | (go_at_call 27; refine (rpow_any _ _ ((10 : Nat) : Rat) cnt Ho3.out.rv (by omega) (by decide +kernel) (by decide +kernel) (by decide)).mono ?_; rintro e w4 ⟨v4, rfl, hb4, ho4⟩; obtain ⟨b4, A4, n4, c4, B4, m4, d4, rfl, _, _, _, _⟩ := ho4.rv.cut; have Hb4 := Lib.hid (bnext Hb3.out hb4); have Ho4 := Lib.hid (ho4.mono Hb3.out.size); clear hb4 ho4))
              have Hxw14 := Lib.hid (show Below w4.heap.size w4 (w4.alloc (.cells #[.bool b4, .slice A4 n4 c4, .slice B4 m4 d4] 31)) from (Below.refl _ _).alloc (Nat.le_refl _) _)
              have Hx14 := Lib.hid (alloc_last w4 (.cells #[.bool b4, .slice A4 n4 c4, .slice B4 m4 d4] 31))
              have HbY := Lib.hid (bnext Hb4.out Hxw14.out)
              generalize (w4.alloc (.cells #[.bool b4, .slice A4 n4 c4, .slice B4 m4 d4] 31)) = X14 at *
              have H9 := Lib.hid (heap_at HbY.out Hx9.out); have H5 := Lib.hid (heap_at HbY.out Hx5.out)
              have hf9 := cells3f H9.out; have hf14 := cells3f Hx14.out
              have hVz := nat_small HV2.out
              have hTz := ten_small hm30
              have HVz := Lib.hid hVz; have HTz := Lib.hid hTz
              clear hVz hTz
              have Hdv := Lib.hid (rdiv_any X14 _ _ ((V2 : Nat) : Rat) (((10 : Nat) : Rat) ^ cnt) (Ho9.out.ext HbY.out).rv (Ho4.out.ext Hxw14.out).rv (Nat.le_trans HVz.out.1 (by decide)) (Nat.le_trans HVz.out.2 (by decide)) (Nat.le_trans HTz.out.1 (by decide)) (Nat.le_trans HTz.out.2 (by decide)))
              go_upto_region 15 with (go_at_call 29; refine Hdv.out.mono ?_; rintro e w5 ⟨_, hq⟩; obtain ⟨r5, rfl, hb5, ho5⟩ := hq Hten0.out; obtain ⟨b6, A6, n6, c6, B6, m6, d6, rfl, _, _, _, _⟩ := ho5.rv.cut; have Hb5 := Lib.hid hb5; have Hq5 := Lib.hid ho5; have hf9b := cells3f (heap_at hb5 H9.out); clear hq hb5 ho5)
              have S9 := Lib.hid (set3_heap (x := .bool b6) (y := .slice A6 n6 c6) (z := .slice B6 m6 d6) (heap_at Hb5.out H9.out))
              have S5 := Lib.hid (set3_heap_ne (x := .bool b6) (y := .slice A6 n6 c6) (z := .slice B6 m6 d6) (Nat.ne_of_gt hne95) (heap_at Hb5.out H5.out))
              have Sq := Lib.hid (Hq5.out.set3 (heap_lt H9.out) (.bool b6) (.slice A6 n6 c6) (.slice B6 m6 d6))
              have Sc := Lib.hid (bset3 (bthen (bnext Hc9.out HbY.out) Hb5.out (bnext Hc9.out HbY.out).size) hgg (.bool b6) (.slice A6 n6 c6) (.slice B6 m6 d6))
              have Sb := Lib.hid (bset3 (bthen (bnext HbX9.out HbY.out) Hb5.out (bnext HbX9.out HbY.out).size) (Nat.le_trans hwg hgg) (.bool b6) (.slice A6 n6 c6) (.slice B6 m6 d6))
              clear hf9 hf14 hf9b
              generalize (((w5.setCell ⟨w2.heap.size, 0, none⟩ (.bool b6)).setCell ⟨w2.heap.size, 1, none⟩ (.slice A6 n6 c6)).setCell ⟨w2.heap.size, 2, none⟩ (.slice B6 m6 d6)) = X15 at *
              have hf9 := cells3f S9.out; have hf5 := cells3f S5.out
              have Hqz := Lib.hid (quo_small HV2.out hm30)
              have Hdz := Lib.hid (dot_small HV.out HV2.out hm30)
              have Had := Lib.hid (radd_any X15 _ _ ((V : Nat) : Rat) (((V2 : Nat) : Rat) / (((10 : Nat) : Rat) ^ cnt)) (Ho1.out.ext Sc.out).rv Sq.out.rv (Nat.le_trans HVs.out.1 (by decide)) (Nat.le_trans HVs.out.2 (by decide)) (Nat.le_trans Hqz.out.1 (by decide)) (Nat.le_trans Hqz.out.2 (by decide)) (fr_natCast V).2.2)
              go_wp2_with fail
              refine Had.out.mono ?_
              rintro e w6 ⟨r6, rfl, hb6, ho6⟩
              obtain ⟨b7, A7, n7, c7, B7, m7, d7, rfl, _, _, _, _⟩ := ho6.rv.cut
              have Hb6 := Lib.hid hb6; have Ho6 := Lib.hid ho6; have hf5b := cells3f (heap_at hb6 S5.out)
              clear hb6 ho6 hf5 hf9
              go_wp2
              go_meet
              exact ⟨_, _, _, _, _, _, _, _, HC.out, set3_heap (heap_at Hb6.out S5.out), (Ho6.out.set3 (heap_lt S5.out) _ _ _).mono Sb.out.size, bset3 (bthen Sb.out Hb6.out Sb.out.size) hwg _ _ _, Hdz.out.1, Hdz.out.2⟩
            · have c46 : (((r1[0]'hr1p).toNat : Int) == 46) = false := by
                rw [Hcv.out, beq_eq_false_iff_ne]
                intro h
                exact h46 (UInt8.toNat_inj.1 (by exact_mod_cast h))
              rw [if_neg h46] at HC
              clear h46
              by_cases h47 : c = 47
              · have c47 : (((r1[0]'hr1p).toNat : Int) == 47) = true := by rw [Hcv.out, h47]; rfl
                rw [if_pos h47] at HC
                clear h47
                have hf5 := cells3f Hx5.out; have hf9 := cells3f Hx9.out
                have Hdv := Lib.hid (rdiv_any X9 _ _ ((V : Nat) : Rat) ((V2 : Nat) : Rat) Ho5.out.rv Ho9.out.rv (Nat.le_trans HVs.out.1 (by decide)) (Nat.le_trans HVs.out.2 (by decide)) (Nat.le_trans (nat_small HV2.out).1 (by decide)) (Nat.le_trans (nat_small HV2.out).2 (by decide)))
                by_cases hz : V2 = 0
                · rw [if_pos hz] at HC
                  have hz0 : (((V2 : Nat) : Rat)).num = 0 := by rw [hz]; rfl
                  have Hz0 := Lib.hid hz0
                  clear hz hz0
                  have Hn : Hid (N = none) := HC
                  go_wp2_with fail
                  refine Hdv.out.mono ?_
                  rintro e w5 ⟨hq, _⟩
                  obtain ⟨rfl, hb5⟩ := hq Hz0.out
                  have Hb5 := Lib.hid hb5
                  have hf5b := cells3f (heap_at hb5 Hx5.out)
                  have HbZ := Lib.hid (bset3 (bnext HbX9.out hb5) hwg (.bool false) (.slice none 0 0) (.slice none 0 0))
                  clear hq hb5 hf5 hf9
                  obtain ⟨k1, k2, k3⟩ := cells3 HbZ.out hsz Hbx.out
                  have k4 := thaw' HbZ.out hsz Hbx.out 0; have k5 := thaw' HbZ.out hsz Hbx.out 1; have k6 := thaw' HbZ.out hsz Hbx.out 2
                  go_wp2
                  all_goals (refine bodyPost_ret (v := .tuple #[.agg #[.bool false, .slice none 0 0, .slice none 0 0], .bool false]) ?_ rfl ⟨?_, fun _ => rfl, fun q h => absurd h (by rw [Hn.out]; simp)⟩)
                  all_goals first
                    | (rw [results_cell_tmp rfl]; simp [go_sem, asAddr, Result.andThen, k1, k2, k3]; done)
                    | exact bset3 (bnext Hbw.out HbZ.out) (Nat.le_refl _) _ _ _
                · rw [if_neg hz] at HC
                  have hz0 : (((V2 : Nat) : Rat)).num ≠ 0 := by rw [Rat.num_natCast]; omega
                  have Hz0 := Lib.hid hz0
                  have Hfz := Lib.hid (frac_small HV.out HV2.out hz)
                  clear hz hz0
                  go_wp2_with fail
                  refine Hdv.out.mono ?_
                  rintro e w5 ⟨_, hq⟩
                  obtain ⟨r5, rfl, hb5, ho5⟩ := hq Hz0.out
                  obtain ⟨b7, A7, n7, c7, B7, m7, d7, rfl, _, _, _, _⟩ := ho5.rv.cut
                  have Hb5 := Lib.hid hb5; have Hq5 := Lib.hid ho5
                  have hf5b := cells3f (heap_at hb5 Hx5.out)
                  clear hq hb5 ho5 hf5 hf9
                  go_wp2
                  go_meet
                  exact ⟨_, _, _, _, _, _, _, _, HC.out, set3_heap (heap_at Hb5.out Hx5.out), (Hq5.out.set3 (heap_lt Hx5.out) _ _ _).mono HbX9.out.size, bset3 (bnext HbX9.out Hb5.out) hwg _ _ _, Hfz.out.1, Hfz.out.2⟩
              · have c47 : (((r1[0]'hr1p).toNat : Int) == 47) = false := by
                  rw [Hcv.out, beq_eq_false_iff_ne]
                  intro h
                  exact h47 (UInt8.toNat_inj.1 (by exact_mod_cast h))
                rw [if_neg h47] at HC
                clear h47
                have Hn : Hid (N = none) := HC
                obtain ⟨k1, k2, k3⟩ := cells3 HbX9.out hsz Hbx.out
                have k4 := thaw' HbX9.out hsz Hbx.out 0; have k5 := thaw' HbX9.out hsz Hbx.out 1; have k6 := thaw' HbX9.out hsz Hbx.out 2
                go_wp2
                all_goals (refine bodyPost_ret (v := .tuple #[.agg #[.bool false, .slice none 0 0, .slice none 0 0], .bool false]) ?_ rfl ⟨?_, fun _ => rfl, fun q h => absurd h (by rw [Hn.out]; simp)⟩)
                all_goals first
                  | (rw [results_cell_tmp rfl]; simp [go_sem, asAddr, Result.andThen, k1, k2, k3]; done)
                  | exact bset3 (bnext Hbw.out HbX9.out) (Nat.le_refl _) _ _ _
          · have hN : N = none := by
              rw [HC.out, if_pos]
              rw [← Hr2.out]
              intro h
              have h1 := bytes_size r2
              have h2 := Hrb2.out.1 rfl
              rw [h] at h1
              simp at h1; omega
            have Hn := Lib.hid hN
            clear hN
            obtain ⟨k1, k2, k3⟩ := cells3 HbX9.out hsz Hbx.out
            have k4 := thaw' HbX9.out hsz Hbx.out 0; have k5 := thaw' HbX9.out hsz Hbx.out 1; have k6 := thaw' HbX9.out hsz Hbx.out 2
            go_wp2
            all_goals (refine bodyPost_ret (v := .tuple #[.agg #[.bool false, .slice none 0 0, .slice none 0 0], .bool false]) ?_ rfl ⟨?_, fun _ => rfl, fun q h => absurd h (by rw [Hn.out]; simp)⟩)
            all_goals first
              | (rw [results_cell_tmp rfl]; simp [go_sem, asAddr, Result.andThen, k1, k2, k3]; done)
              | exact bset3 (bnext Hbw.out HbX9.out) (Nat.le_refl _) _ _ _
    case rest =>
      obtain ⟨q, b, A, n, ca, B, m, cb, hN, hx, ho, hb, hs1, hs2⟩ := hcut
      have HN := Lib.hid hN; have Hxx := Lib.hid hx; have Hoo := Lib.hid ho; have Hbb := Lib.hid hb
      clear hN hx ho hb
      have hf5 := cells3f Hxx.out
      have hw1 : w.heap.size < w1.heap.size := Nat.lt_of_lt_of_le hsz Hb1.out.size
      cases neg
      · obtain ⟨k1, k2, k3⟩ := cells3 Hbb.out hsz Hbx.out
        have k4 := thaw' Hbb.out hsz Hbx.out 0; have k5 := thaw' Hbb.out hsz Hbx.out 1; have k6 := thaw' Hbb.out hsz Hbx.out 2
        go_wp2
        refine bodyPost_ret (v := .tuple #[.agg #[.bool b, .slice A n ca, .slice B m cb], .bool true]) ?_ rfl ⟨?_, fun h => absurd h (by rw [HN.out]; simp), fun q' h => ?_⟩
        · rw [results_cell_tmp rfl]; simp [go_sem, asAddr, Result.andThen, k1, k2, k3]
        · exact bset3 (bnext Hbw.out Hbb.out) (Nat.le_refl _) _ _ _
        · rw [HN.out] at h
          obtain rfl : q = q' := by simpa using h
          exact ⟨_, rfl, (Hoo.out.set3 hsz _ _ _).mono (Nat.le_of_lt hsz)⟩
      · have Hng := Lib.hid (rneg_any wc _ q Hoo.out.rv (Nat.le_trans hs1 (by decide)) (Nat.le_trans hs2 (by decide)))
        go_upto_region 22 with (go_at_call 31; refine Hng.out.mono ?_; rintro e w6 ⟨r6, rfl, hb6, ho6⟩; obtain ⟨b7, A7, n7, c7, B7, m7, d7, rfl, _, _, _, _⟩ := ho6.rv.cut; have Hb6 := Lib.hid hb6; have Ho6 := Lib.hid ho6; have hf5b := cells3f (heap_at hb6 Hxx.out); clear hb6 ho6)
        have S5 := Lib.hid (set3_heap (x := .bool b7) (y := .slice A7 n7 c7) (z := .slice B7 m7 d7) (heap_at Hb6.out Hxx.out))
        have Sq := Lib.hid (Ho6.out.set3 (heap_lt Hxx.out) (.bool b7) (.slice A7 n7 c7) (.slice B7 m7 d7))
        have Sb := Lib.hid (bset3 (bthen Hbb.out Hb6.out Hbb.out.size) Hb1.out.size (.bool b7) (.slice A7 n7 c7) (.slice B7 m7 d7))
        clear hf5 hf5b
        generalize (((w6.setCell ⟨w1.heap.size, 0, none⟩ (.bool b7)).setCell ⟨w1.heap.size, 1, none⟩ (.slice A7 n7 c7)).setCell ⟨w1.heap.size, 2, none⟩ (.slice B7 m7 d7)) = X22 at *
        obtain ⟨k1, k2, k3⟩ := cells3 Sb.out hsz Hbx.out
        have k4 := thaw' Sb.out hsz Hbx.out 0; have k5 := thaw' Sb.out hsz Hbx.out 1; have k6 := thaw' Sb.out hsz Hbx.out 2
        have hf5 := cells3f S5.out
        go_wp2
        refine bodyPost_ret (v := .tuple #[.agg #[.bool b7, .slice A7 n7 c7, .slice B7 m7 d7], .bool true]) ?_ rfl ⟨?_, fun h => absurd h (by rw [HN.out]; simp), fun q' h => ?_⟩
        · rw [results_cell_tmp rfl]; simp [go_sem, asAddr, Result.andThen, k1, k2, k3]
        · exact bset3 (bnext Hbw.out Sb.out) (Nat.le_refl _) _ _ _
        · rw [HN.out] at h
          obtain rfl : q = q' := by simpa using h
          have hlt : w.heap.size < wc.heap.size := Nat.lt_of_lt_of_le hsz Hbb.out.size
          exact ⟨_, rfl, (Sq.out.set3 hlt _ _ _).mono (Nat.le_of_lt hlt)⟩
end Go.Proofs.YtckiojofncdoeaaGreatDoor
