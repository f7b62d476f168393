/- integer.Parse and rational.Parse on strings of digits; lexer.group. -/
import Derived.Test.YtckiojofncdoeaaGreatDoorLexA
namespace Go.Proofs.YtckiojofncdoeaaGreatDoor
open Go.RowKit

theorem bytes_ext {a b : ByteArray} (h : a.data.toList = b.data.toList) : a = b := by
  cases a; cases b
  congr 1
  exact Array.ext' h
theorem ahead_all {c : UInt8} {l : List UInt8} (h : ∀ x ∈ l, x ≠ c) : ahead c l = l := by
  induction l with
  | nil => rfl
  | cons b l ih =>
    have hb : (b != c) = true := by simpa using h b (by simp)
    unfold ahead at *
    rw [List.takeWhile_cons_of_pos (p := fun x => x != c) hb, ih (fun x hx => h x (by simp [hx]))]
theorem any_none {c : UInt8} {l : List UInt8} (h : ∀ x ∈ l, x ≠ c) : l.any (· == c) = false := any_of_ahead (ahead_all h)

theorem iparse_any (w : World) (s : ByteArray) (hs : s.size ≤ 4096) (h0 : 0 < s.size) (hd : AllDig s.data.toList) (hz : s.size = 1 ∨ (s[0]'h0).toNat ≠ 48) :
    Calls Tryz.prog 83 #[.string s] w fun e w' => ∃ v, e = .returned (.tuple #[.agg #[.bool false, v], .int .i64 0]) ∧ Below w.heap.size w w' ∧ OwnU w.heap.size w' v (digits (dec s.data.toList)) := by
  have hp := fun w => parse_any w s hs h0 hd hz
  have hne := not_empty h0
  have hnb : (((s[0]'h0).toNat : Int) == 45) = false := by
    have h1 := hd.at_ 0 (by rw [bytes_size]; exact h0)
    rw [← byte_at s 0 h0] at h1
    simp; omega
  have Hp := Lib.hid hp; clear hp hd hz
  have hbx := alloc_last w (.cells #[.bool false, .slice none 0 0] 29)
  have hbw : Below w.heap.size w (w.alloc (.cells #[.bool false, .slice none 0 0] 29)) := (Below.refl _ _).alloc (Nat.le_refl _) _
  have hsz : w.heap.size < (w.alloc (.cells #[.bool false, .slice none 0 0] 29)).heap.size := by simp
  have Hbx := Lib.hid hbx; have Hbw := Lib.hid hbw; clear hbx hbw
  go_enter Tryz.func83, Tryz.ntmps83
  go_wp2_with fail
  generalize (w.alloc (.cells #[.bool false, .slice none 0 0] 29)) = W at *
  refine (Hp.out W).mono ?_
  rintro e w1 ⟨v, rfl, hb1, ho1⟩
  obtain ⟨A1, c1, rfl, hc1, _⟩ := ho1.rv
  have Hb1 := Lib.hid hb1; have Ho1 := Lib.hid ho1; clear hb1 ho1
  go_wp2_with fail
  refine (signed_any' w1 false A1 _ c1).mono ?_
  rintro e w2 ⟨b, rfl, hb, hb2⟩
  have hbf : b = false := hb.out
  subst hbf
  have Hb2 := Lib.hid (bnext Hb1.out hb2); have Ho2 := Lib.hid (Ho1.out.ext hb2); clear hb2 Ho1 hb
  obtain ⟨k1, k3⟩ := cells2 Hb2.out hsz Hbx.out; have k2 := thaw' Hb2.out hsz Hbx.out 0; have k4 := thaw' Hb2.out hsz Hbx.out 1
  go_wp2
  refine bodyPost_ret (v := .tuple #[.agg #[.bool false, .slice A1 (digits (dec s.data.toList)).length c1], .int .i64 0]) ?_ rfl ⟨_, rfl, ?_, ?_⟩
  · rw [results_cell_tmp rfl]; simp [go_sem, asAddr, Result.andThen, k1, k3]
  · exact ((bnext Hbw.out Hb2.out).setCell (Nat.le_refl _) _).setCell (Nat.le_refl _) _
  · exact ((Ho2.out.setBelow hsz _).setBelow hsz _).mono (Nat.le_of_lt hsz)

theorem rparse_any (w : World) (s : ByteArray) (hs : s.size ≤ 4096) (h0 : 0 < s.size) (hd : AllDig s.data.toList) (hz : s.size = 1 ∨ (s[0]'h0).toNat ≠ 48) :
    Calls Tryz.prog 50 #[.string s] w fun e w' => ∃ v, e = .returned (.tuple #[v, .int .i64 0]) ∧ Below w.heap.size w w' ∧ RatO w.heap.size w' v ((dec s.data.toList : Nat) : Rat) := by
  have hf := fr_natCast (dec s.data.toList)
  generalize ((dec s.data.toList : Nat) : Rat) = q at *
  have Hf := Lib.hid hf; clear hf
  have hp := fun w => iparse_any w s hs h0 hd hz
  have hnc : ∀ x ∈ s.data.toList, x ≠ 47 := fun x hx e => by
    have := hd x hx
    rw [e] at this
    exact absurd this.1 (by decide)
  have hah : ahead 47 s.data.toList = s.data.toList := ahead_all hnc
  have hany := Lib.hid (any_none hnc)
  clear hnc
  have Hp := Lib.hid hp; have Hah := Lib.hid hah; clear hp hah hd hz
  have hbx := alloc_last w (.cells #[.bool false, .slice none 0 0, .slice none 0 0] 31)
  have hbw : Below w.heap.size w (w.alloc (.cells #[.bool false, .slice none 0 0, .slice none 0 0] 31)) := (Below.refl _ _).alloc (Nat.le_refl _) _
  have hsz : w.heap.size < (w.alloc (.cells #[.bool false, .slice none 0 0, .slice none 0 0] 31)).heap.size := by simp
  have Hbx := Lib.hid hbx; have Hbw := Lib.hid hbw; clear hbx hbw
  go_enter Tryz.func50, Tryz.ntmps50
  go_wp2_with fail
  generalize (w.alloc (.cells #[.bool false, .slice none 0 0, .slice none 0 0] 31)) = W at *
  refine (cut_any1 W s 47 (by omega)).mono ?_
  rintro e w1 ⟨a, bb, rfl, ha, _, nd, rfl⟩
  rw [Hah.out] at ha
  obtain rfl := bytes_ext ha
  rw [hany.out]
  have Hb0 := Lib.hid (bdrewN (w := W) nd)
  have Ha := Lib.hid ha; clear ha
  go_wp2_with fail
  refine (Hp.out _).mono ?_
  rintro e w2 ⟨v, rfl, hb2, ho2⟩
  obtain ⟨A2, c2, rfl, hc2, _⟩ := ho2.rv
  have Hb2 := Lib.hid (bnext Hb0.out hb2); have Ho2 := Lib.hid ho2; clear hb2 ho2
  have Hbx3 := Lib.hid (((Below.refl w2.heap.size w2).alloc (Nat.le_refl _) (.cells #[.bool false, .slice A2 (digits (dec a.data.toList)).length c2] 29)))
  go_wp2_with fail
  refine (whole_any _ false A2 _ c2).mono ?_
  rintro e w3 ⟨g, rfl, hb3, ho3⟩
  rw [show [(1 : Int)] = digits 1 from (digits_one (by decide) (by decide)).symm] at ho3
  have Hb3 := Lib.hid (bnext Hb2.out (bnext Hbx3.out hb3)); have Ho3 := Lib.hid (Ho2.out.ext (bnext Hbx3.out hb3)); have Ho4 := Lib.hid (ho3.mono Hbx3.out.size); clear hb3 ho3 Ho2
  have hsz2 : w.heap.size < w2.heap.size := Nat.lt_of_lt_of_le hsz Hb2.out.size
  obtain ⟨k1, k2, k3⟩ := cells3 Hb3.out hsz Hbx.out
  have k4 := thaw' Hb3.out hsz Hbx.out 0; have k5 := thaw' Hb3.out hsz Hbx.out 1; have k6 := thaw' Hb3.out hsz Hbx.out 2
  go_wp2
  refine bodyPost_ret (v := .tuple #[.agg #[.bool false, .slice A2 (digits (dec a.data.toList)).length c2, .slice (some ⟨g, 0, none⟩) 1 1], .int .i64 0]) ?_ rfl ⟨_, rfl, ?_, ?_⟩
  · rw [results_cell_tmp rfl]; simp [go_sem, asAddr, Result.andThen, k1, k2, k3]
  · exact bset3 (bnext Hbw.out Hb3.out) (Nat.le_refl _) _ _ _
  · exact RatO.of Hf.out ((Ho3.out.set3 hsz _ _ _).mono (Nat.le_of_lt hsz)) ((Ho4.out.set3 hsz2 _ _ _).mono (Nat.le_of_lt hsz2))

theorem cells3r {w : World} {g r : Nat} {a b c x y z : Value} (h : r ≠ g) (hc : w.cell? ⟨g, 0, none⟩ = some a ∧ w.cell? ⟨g, 1, none⟩ = some b ∧ w.cell? ⟨g, 2, none⟩ = some c) :
    (((w.setCell ⟨r, 0, none⟩ x).setCell ⟨r, 1, none⟩ y).setCell ⟨r, 2, none⟩ z).cell? ⟨g, 0, none⟩ = some a ∧ (((w.setCell ⟨r, 0, none⟩ x).setCell ⟨r, 1, none⟩ y).setCell ⟨r, 2, none⟩ z).cell? ⟨g, 1, none⟩ = some b ∧
    (((w.setCell ⟨r, 0, none⟩ x).setCell ⟨r, 1, none⟩ y).setCell ⟨r, 2, none⟩ z).cell? ⟨g, 2, none⟩ = some c := by
  have e : ∀ (w : World) (i : Nat) (u : Value) (j : Nat), (w.setCell ⟨r, i, none⟩ u).cell? ⟨g, j, none⟩ = w.cell? ⟨g, j, none⟩ := fun w i u j => World.cell?_setCell_far w _ _ u h
  rw [e, e, e, e, e, e, e, e, e]
  exact hc
theorem results_cell_tmp3 {fn : Func} {p u v x : Tmp} {ty : TypeId} (h : fn.results = #[.cell p ty, .tmp u, .tmp v, .tmp x]) (tmps : Array Value) (P : Program) (w : World) :
    (results fn tmps).run P w =
      ((asAddr (tmps.getD p undef)).run P w).andThen fun a w₁ => ((loadVar ty a).run P w₁).andThen fun y w₂ => .ok (.tuple #[y, tmps.getD u undef, tmps.getD v undef, tmps.getD x undef]) w₂ := by
  simp only [results, h]
  simp [Sem.run_bind, Result.andThen]

def isDig (c : UInt8) : Bool := decide (cls c.toNat = 2)
/-- the digits at the beginning -/
def lead (l : List UInt8) : List UInt8 := l.takeWhile isDig
theorem takeWhile_take {p : UInt8 → Bool} : ∀ {l : List UInt8} {k : Nat}, k ≤ l.length → (∀ j (hj : j < l.length), j < k → p l[j] = true) → (∀ hk : k < l.length, p l[k] = false) → l.takeWhile p = l.take k
  | [], k, _, _, _ => by simp
  | b :: l, 0, _, _, h2 => by
    have := h2 (by simp)
    simp at this
    rw [List.takeWhile_cons_of_neg (by simp [this])]
    rfl
  | b :: l, k + 1, hk, h1, h2 => by
    have hb : p b = true := h1 0 (by simp) (by omega)
    rw [List.takeWhile_cons_of_pos hb, List.take_succ_cons]
    congr 1
    refine takeWhile_take (by simpa using hk) (fun j hj hjk => ?_) (fun hk' => ?_)
    · have := h1 (j + 1) (by simp; omega) (by omega)
      simpa using this
    · have := h2 (by simp; omega)
      simpa using this
theorem lead_at (s : ByteArray) (k : Nat) (hk : k ≤ s.size) (h1 : ∀ j (hj : j < s.size), j < k → cls (s[j]).toNat = 2) (h2 : ∀ hk' : k < s.size, cls (s[k]).toNat ≠ 2) : lead s.data.toList = s.data.toList.take k := by
  refine takeWhile_take (by rw [bytes_size]; exact hk) (fun j hj hjk => ?_) (fun hk' => ?_)
  · have h := h1 j (by rw [bytes_size] at hj; exact hj) hjk
    rw [byte_at] at h
    exact decide_eq_true h
  · have h := h2 (by rw [bytes_size] at hk'; exact hk')
    rw [byte_at] at h
    exact decide_eq_false h
theorem takeWhile_all {p : UInt8 → Bool} {c : UInt8} : ∀ {l : List UInt8}, c ∈ l.takeWhile p → p c = true
  | [], h => by simp at h
  | b :: l, h => by
    by_cases hb : p b = true
    · rw [List.takeWhile_cons_of_pos hb] at h
      rcases List.mem_cons.1 h with rfl | h
      · exact hb
      · exact takeWhile_all h
    · rw [List.takeWhile_cons_of_neg hb] at h
      simp at h
theorem lead_dig (l : List UInt8) : AllDig (lead l) := fun c hc => by
  have h := takeWhile_all hc
  unfold isDig at h
  have h2 : cls c.toNat = 2 := of_decide_eq_true h
  unfold cls at h2
  split at h2
  · cases h2
  · split at h2
    · assumption
    · split at h2 <;> cases h2
/-- what is read: without the 0s ahead, and one 0 if nothing is left -/
def bare (l : List UInt8) : List UInt8 := if (l.dropWhile (· == 48)) = [] then [48] else l.dropWhile (· == 48)
theorem dec_drop0 : ∀ l : List UInt8, dec (l.dropWhile (· == 48)) = dec l
  | [] => rfl
  | b :: l => by
    by_cases hb : b = 48
    · subst hb
      rw [List.dropWhile_cons_of_pos (by rfl), dec_drop0 l]
      have h := dec_append [48] l
      rw [List.singleton_append] at h
      rw [h, dec_one]
      simp
    · rw [List.dropWhile_cons_of_neg (by simpa using hb)]
theorem dec_bare (l : List UInt8) : dec (bare l) = dec l := by
  unfold bare
  split
  · rename_i h
    have h2 := dec_drop0 l
    rw [h] at h2
    rw [← h2]; rfl
  · exact dec_drop0 l
theorem bare_dig {l : List UInt8} (h : AllDig l) : AllDig (bare l) := by
  unfold bare
  split
  · intro c hc
    simp at hc
    subst hc
    decide
  · intro c hc
    exact h c ((List.dropWhile_suffix _).subset hc)
theorem bare_ne (l : List UInt8) : bare l ≠ [] := by
  unfold bare
  split
  · simp
  · assumption
theorem bare_len (l : List UInt8) (h : 1 ≤ l.length) : (bare l).length ≤ l.length := by
  unfold bare
  split
  · simpa using h
  · exact (List.dropWhile_suffix _).length_le
theorem bare_head (l : List UInt8) : (bare l).length = 1 ∨ (bare l).headD 0 ≠ 48 := by
  unfold bare
  split
  · left; rfl
  · rename_i h
    right
    have h2 := List.head_dropWhile_not (p := fun x : UInt8 => x == 48) (l := l) (by simpa using h)
    cases hh : l.dropWhile (· == 48) with
    | nil => exact absurd hh h
    | cons a t =>
      simp only [hh, List.head_cons] at h2
      simpa using h2

set_option maxHeartbeats 1600000 in
theorem group_any (w : World) (T : Tab w) (s : ByteArray) (hs : s.size ≤ 4096) : Calls Tryz.prog 26 #[.string s] w fun e w' => Below w.heap.size w w' ∧
    ((lead s.data.toList).length < 1 ∨ 30 < (lead s.data.toList).length → e = .returned (.tuple #[.agg #[.bool false, .slice none 0 0, .slice none 0 0], .int .i64 0, .string ⟨#[]⟩, .bool false])) ∧
    (1 ≤ (lead s.data.toList).length → (lead s.data.toList).length ≤ 30 → ∃ v r, e = .returned (.tuple #[v, .int .i64 (lead s.data.toList).length, .string r, .bool true]) ∧
      r.data.toList = s.data.toList.drop (lead s.data.toList).length ∧ RatO w.heap.size w' v ((dec (lead s.data.toList) : Nat) : Rat)) := by
  have Hbx := Lib.hid (alloc_last w (.cells #[.bool false, .slice none 0 0, .slice none 0 0] 31))
  have Hbw := Lib.hid (show Below w.heap.size w (w.alloc (.cells #[.bool false, .slice none 0 0, .slice none 0 0] 31)) from (Below.refl _ _).alloc (Nat.le_refl _) _)
  have hsz : w.heap.size < (w.alloc (.cells #[.bool false, .slice none 0 0, .slice none 0 0] 31)).heap.size := by simp
  have HT := Lib.hid (T.ext Hbw.out); clear T
  go_enter Tryz.func26, Tryz.ntmps26
  go_wp2
  generalize (w.alloc (.cells #[.bool false, .slice none 0 0, .slice none 0 0] 31)) = W at *
  go_loopw [6] (fun i wq => wq = W ∧ ∃ k : Nat, i = .int .i64 k ∧ k ≤ s.size ∧ ∀ j (hj : j < s.size), j < k → cls (s[j]).toNat = 2) (fun i _ => s.size - (intOf i).toNat)
  case atStart => exact ⟨rfl, 0, rfl, Nat.zero_le _, fun j _ h => absurd h (by omega)⟩
  case round =>
    obtain ⟨rfl, k, rfl, hk, hall⟩ := hrel
    have Hall := Lib.hid hall; clear hall
    by_cases hgo : ∃ hlt : k < s.size, cls (s[k]).toNat = 2
    · obtain ⟨hlt, hc⟩ := hgo
      have hk1 := class_any _ HT.out (s[k]).toNat (UInt8.toNat_lt _)
      rw [hc] at hk1
      have Hk1 := Lib.hid hk1; have Hc := Lib.hid hc; clear hk1 hc
      go_wp2_with fail
      refine Hk1.out.mono ?_
      rintro e w' ⟨rfl, rfl⟩
      go_wp2
      go_roundw
      case rel =>
        refine ⟨by first | rfl | trivial, k + 1, by go_num, by omega, fun j hj hjk => ?_⟩
        rcases Nat.lt_or_ge j k with h | h
        · exact Hall.out j hj h
        · obtain rfl : j = k := by omega
          exact Hc.out
      case measure => simp [intOf]; omega
    · have hl : lead s.data.toList = s.data.toList.take k := lead_at s k hk Hall.out (fun hk' h => hgo ⟨hk', h⟩)
      have hlen : (lead s.data.toList).length = k := by rw [hl, List.length_take, bytes_size]; omega
      have hld := lead_dig s.data.toList
      have Hl := Lib.hid hl; have Hlen := Lib.hid hlen; have Hld := Lib.hid hld; clear hl hlen hld
      by_cases hlt : k < s.size
      · obtain ⟨c, hcc⟩ : ∃ c, c = cls (s[k]).toNat := ⟨_, rfl⟩
        have hc2 : ((c : Int) == 2) = false := by
          have : c ≠ 2 := fun h => hgo ⟨hlt, by rw [← hcc]; exact h⟩
          simp; omega
        have hk1 := class_any _ HT.out (s[k]).toNat (UInt8.toNat_lt _)
        rw [← hcc] at hk1
        have Hk1 := Lib.hid hk1
        clear hk1 hcc hgo
        go_wp2_with fail
        refine Hk1.out.mono ?_
        rintro e w' ⟨rfl, rfl⟩
        by_cases hbad : k < 1 ∨ 30 < k
        · obtain ⟨k1, k2, k3⟩ := cells3 (Below.refl _ _) hsz Hbx.out
          have k4 := thaw' (Below.refl _ _) hsz Hbx.out 0; have k5 := thaw' (Below.refl _ _) hsz Hbx.out 1; have k6 := thaw' (Below.refl _ _) hsz Hbx.out 2
          rcases hbad with hb | hb
          all_goals go_wp2
          all_goals (refine bodyPost_ret (v := .tuple #[.agg #[.bool false, .slice none 0 0, .slice none 0 0], .int .i64 0, .string ⟨#[]⟩, .bool false]) ?_ rfl ⟨?_, fun _ => rfl, fun h1 h2 => absurd (Hlen.out ▸ h1) (by have := Hlen.out; omega)⟩)
          all_goals first
            | (rw [results_cell_tmp3 rfl]; simp [go_sem, asAddr, Result.andThen, k1, k2, k3]; done)
            | exact bset3 Hbw.out (Nat.le_refl _) _ _ _
            | exact Hbw.out
        · have hk1 : 1 ≤ k := by omega
          have hk30 : k ≤ 30 := by omega
          have c1 : (0 : Int) ≤ ↑k := by omega
          have c2 : (↑k : Int) ≤ ↑s.size := by omega
          clear hbad
          go_wp2_with fail
          refine (Tryz.strings_TrimLeft_one (s.extract 0 k) 48 (by decide) _).mono ?_
          rintro e w' ⟨rfl, rfl⟩
          have hu : (⟨(Lib.trimLeftB (s.extract 0 k).data.toList 48).toArray⟩ : ByteArray).data.toList = (lead s.data.toList).dropWhile (· == 48) := by
            rw [take_bytes, ← Hl.out]; rfl
          generalize (⟨(Lib.trimLeftB (s.extract 0 k).data.toList 48).toArray⟩ : ByteArray) = u at *
          have Hu := Lib.hid hu; clear hu
          by_cases hu0 : u.size = 0
          · have hnil : u.toList = [] := by rw [ByteArray.toList_eq]; exact bytes_nil hu0
            have HB : Hid (((dec (⟨#[48]⟩ : ByteArray).data.toList : Nat) : Rat) = ((dec (lead s.data.toList) : Nat) : Rat)) := Lib.hid (by
              have h1 := dec_drop0 (lead s.data.toList)
              rw [← Hu.out, bytes_nil hu0] at h1
              rw [← h1]; rfl)
            go_wp2_with fail
            refine (rparse_any _ (⟨#[48]⟩ : ByteArray) (by decide) (by decide) (fun c hc => by simp at hc; subst hc; decide) (.inl rfl)).mono ?_
            rintro e w2 ⟨v2, rfl, hb2, ho2⟩
            rw [HB.out] at ho2
            obtain ⟨b2, A2, n2, c2, B2, m2, d2, rfl, _, _, _, _⟩ := ho2.rv.cut
            have Hb2 := Lib.hid hb2; have Ho2 := Lib.hid ho2
            have Hx := Lib.hid (alloc_last w2 (.cells #[.bool b2, .slice A2 n2 c2, .slice B2 m2 d2] 31))
            have Hxw := Lib.hid (show Below w2.heap.size w2 (w2.alloc (.cells #[.bool b2, .slice A2 n2 c2, .slice B2 m2 d2] 31)) from (Below.refl _ _).alloc (Nat.le_refl _) _)
            have hxs : w2.heap.size < (w2.alloc (.cells #[.bool b2, .slice A2 n2 c2, .slice B2 m2 d2] 31)).heap.size := by simp
            clear hb2 ho2
            go_upto_region 10 with fail
            generalize (w2.alloc (.cells #[.bool b2, .slice A2 n2 c2, .slice B2 m2 d2] 31)) = X at *
            have HbX := Lib.hid (bnext Hb2.out (bnext Hxw.out (Drew.below (Drew.refl X).step1)))
            have HbY := Lib.hid (bnext Hb2.out Hxw.out)
            obtain ⟨k1, k2, k3⟩ := cells3 HbY.out hsz Hbx.out
            have k4 := thaw' HbY.out hsz Hbx.out 0; have k5 := thaw' HbY.out hsz Hbx.out 1; have k6 := thaw' HbY.out hsz Hbx.out 2
            have hS0 := cells3 (Drew.below (Drew.refl X).step1) hxs Hx.out
            have hne : w.heap.size ≠ w2.heap.size := Nat.ne_of_lt (Nat.lt_of_lt_of_le hsz Hb2.out.size)
            have c3 : (0 : Int) ≤ ↑k := by omega
            have c4 : (↑k : Int) ≤ ↑s.size := by omega
            go_region_held3 (fun w' => w'.cell? ⟨w2.heap.size, 0, none⟩ = some (.bool b2) ∧ w'.cell? ⟨w2.heap.size, 1, none⟩ = some (.slice A2 n2 c2) ∧ w'.cell? ⟨w2.heap.size, 2, none⟩ = some (.slice B2 m2 d2))
              (first | exact hS0 | exact cells3r hne hS0)
              (fail)
            all_goals go_wp2
            all_goals (refine bodyPost_ret (v := .tuple #[.agg #[.bool b2, .slice A2 n2 c2, .slice B2 m2 d2], .int .i64 k, .string (s.extract k s.size), .bool true]) ?_ rfl ⟨?_, fun h => absurd h (by rw [Hlen.out]; omega), fun _ _ => ⟨_, s.extract k s.size, by rw [Hlen.out], by rw [Hlen.out, drop_bytes], ?_⟩⟩)
            all_goals first
              | (rw [results_cell_tmp3 rfl]; simp [go_sem, asAddr, Result.andThen, k1, k2, k3]; done)
              | exact bset3 (bnext Hbw.out HbX.out) (Nat.le_refl _) _ _ _
              | exact ((Ho2.out.ext (bnext Hxw.out (Drew.below (Drew.refl X).step1))).set3 hsz _ _ _).mono (Nat.le_of_lt hsz)
          · have hne := not_empty (T := u) (by omega)
            have hu1 : 0 < u.size := by omega
            have hul : u.size ≤ 4096 := by
              have h1 := bytes_size u
              rw [Hu.out] at h1
              have h2 := (List.dropWhile_suffix (fun x : UInt8 => x == 48) (l := lead s.data.toList)).length_le
              have h3 := Hlen.out
              omega
            have hud : AllDig u.data.toList := fun c hc => Hld.out c ((List.dropWhile_suffix _).subset (by rw [Hu.out] at hc; exact hc))
            have huz : u.size = 1 ∨ (u[0]'hu1).toNat ≠ 48 := .inr (fun h => by
              have h1 := head_at u hu1
              have h2 := bare_head (lead s.data.toList)
              have h3 : ¬ (lead s.data.toList).dropWhile (· == 48) = [] := fun e => by rw [← Hu.out] at e; have := bytes_size u; rw [e] at this; simp at this; omega
              have h4 := List.head_dropWhile_not (p := fun x : UInt8 => x == 48) (l := lead s.data.toList) h3
              rw [Hu.out] at h1
              cases hh : (lead s.data.toList).dropWhile (· == 48) with
              | nil => exact h3 hh
              | cons a t =>
                simp only [hh, List.head_cons, List.headD_cons] at h4 h1
                rw [← h1] at h
                have : a = 48 := UInt8.toNat_inj.1 (by simpa using h)
                simp [this] at h4)
            have HB : Hid (((dec u.data.toList : Nat) : Rat) = ((dec (lead s.data.toList) : Nat) : Rat)) := Lib.hid (by rw [Hu.out, dec_drop0])
            have Hrp := Lib.hid (fun w => rparse_any w u hul hu1 hud huz)
            clear hud huz hul
            go_wp2_with fail
            refine (Hrp.out _).mono ?_
            rintro e w2 ⟨v2, rfl, hb2, ho2⟩
            rw [HB.out] at ho2
            obtain ⟨b2, A2, n2, c2, B2, m2, d2, rfl, _, _, _, _⟩ := ho2.rv.cut
            have Hb2 := Lib.hid hb2; have Ho2 := Lib.hid ho2
            have Hx := Lib.hid (alloc_last w2 (.cells #[.bool b2, .slice A2 n2 c2, .slice B2 m2 d2] 31))
            have Hxw := Lib.hid (show Below w2.heap.size w2 (w2.alloc (.cells #[.bool b2, .slice A2 n2 c2, .slice B2 m2 d2] 31)) from (Below.refl _ _).alloc (Nat.le_refl _) _)
            have hxs : w2.heap.size < (w2.alloc (.cells #[.bool b2, .slice A2 n2 c2, .slice B2 m2 d2] 31)).heap.size := by simp
            clear hb2 ho2
            go_upto_region 10 with fail
            generalize (w2.alloc (.cells #[.bool b2, .slice A2 n2 c2, .slice B2 m2 d2] 31)) = X at *
            have HbX := Lib.hid (bnext Hb2.out (bnext Hxw.out (Drew.below (Drew.refl X).step1)))
            have HbY := Lib.hid (bnext Hb2.out Hxw.out)
            obtain ⟨k1, k2, k3⟩ := cells3 HbY.out hsz Hbx.out
            have k4 := thaw' HbY.out hsz Hbx.out 0; have k5 := thaw' HbY.out hsz Hbx.out 1; have k6 := thaw' HbY.out hsz Hbx.out 2
            have hS0 := cells3 (Drew.below (Drew.refl X).step1) hxs Hx.out
            have hne : w.heap.size ≠ w2.heap.size := Nat.ne_of_lt (Nat.lt_of_lt_of_le hsz Hb2.out.size)
            have c3 : (0 : Int) ≤ ↑k := by omega
            have c4 : (↑k : Int) ≤ ↑s.size := by omega
            go_region_held3 (fun w' => w'.cell? ⟨w2.heap.size, 0, none⟩ = some (.bool b2) ∧ w'.cell? ⟨w2.heap.size, 1, none⟩ = some (.slice A2 n2 c2) ∧ w'.cell? ⟨w2.heap.size, 2, none⟩ = some (.slice B2 m2 d2))
              (first | exact hS0 | exact cells3r hne hS0)
              (fail)
            all_goals go_wp2
            all_goals (refine bodyPost_ret (v := .tuple #[.agg #[.bool b2, .slice A2 n2 c2, .slice B2 m2 d2], .int .i64 k, .string (s.extract k s.size), .bool true]) ?_ rfl ⟨?_, fun h => absurd h (by rw [Hlen.out]; omega), fun _ _ => ⟨_, s.extract k s.size, by rw [Hlen.out], by rw [Hlen.out, drop_bytes], ?_⟩⟩)
            all_goals first
              | (rw [results_cell_tmp3 rfl]; simp [go_sem, asAddr, Result.andThen, k1, k2, k3]; done)
              | exact bset3 (bnext Hbw.out HbX.out) (Nat.le_refl _) _ _ _
              | exact ((Ho2.out.ext (bnext Hxw.out (Drew.below (Drew.refl X).step1))).set3 hsz _ _ _).mono (Nat.le_of_lt hsz)
      · clear hgo
        by_cases hbad : k < 1 ∨ 30 < k
        · obtain ⟨k1, k2, k3⟩ := cells3 (Below.refl _ _) hsz Hbx.out
          have k4 := thaw' (Below.refl _ _) hsz Hbx.out 0; have k5 := thaw' (Below.refl _ _) hsz Hbx.out 1; have k6 := thaw' (Below.refl _ _) hsz Hbx.out 2
          rcases hbad with hb | hb
          all_goals go_wp2
          all_goals (refine bodyPost_ret (v := .tuple #[.agg #[.bool false, .slice none 0 0, .slice none 0 0], .int .i64 0, .string ⟨#[]⟩, .bool false]) ?_ rfl ⟨?_, fun _ => rfl, fun h1 h2 => absurd (Hlen.out ▸ h1) (by have := Hlen.out; omega)⟩)
          all_goals first
            | (rw [results_cell_tmp3 rfl]; simp [go_sem, asAddr, Result.andThen, k1, k2, k3]; done)
            | exact bset3 Hbw.out (Nat.le_refl _) _ _ _
            | exact Hbw.out
        · have hk1 : 1 ≤ k := by omega
          have hk30 : k ≤ 30 := by omega
          have c1 : (0 : Int) ≤ ↑k := by omega
          have c2 : (↑k : Int) ≤ ↑s.size := by omega
          clear hbad
          go_wp2_with fail
          refine (Tryz.strings_TrimLeft_one (s.extract 0 k) 48 (by decide) _).mono ?_
          rintro e w' ⟨rfl, rfl⟩
          have hu : (⟨(Lib.trimLeftB (s.extract 0 k).data.toList 48).toArray⟩ : ByteArray).data.toList = (lead s.data.toList).dropWhile (· == 48) := by
            rw [take_bytes, ← Hl.out]; rfl
          generalize (⟨(Lib.trimLeftB (s.extract 0 k).data.toList 48).toArray⟩ : ByteArray) = u at *
          have Hu := Lib.hid hu; clear hu
          by_cases hu0 : u.size = 0
          · have hnil : u.toList = [] := by rw [ByteArray.toList_eq]; exact bytes_nil hu0
            have HB : Hid (((dec (⟨#[48]⟩ : ByteArray).data.toList : Nat) : Rat) = ((dec (lead s.data.toList) : Nat) : Rat)) := Lib.hid (by
              have h1 := dec_drop0 (lead s.data.toList)
              rw [← Hu.out, bytes_nil hu0] at h1
              rw [← h1]; rfl)
            go_wp2_with fail
            refine (rparse_any _ (⟨#[48]⟩ : ByteArray) (by decide) (by decide) (fun c hc => by simp at hc; subst hc; decide) (.inl rfl)).mono ?_
            rintro e w2 ⟨v2, rfl, hb2, ho2⟩
            rw [HB.out] at ho2
            obtain ⟨b2, A2, n2, c2, B2, m2, d2, rfl, _, _, _, _⟩ := ho2.rv.cut
            have Hb2 := Lib.hid hb2; have Ho2 := Lib.hid ho2
            have Hx := Lib.hid (alloc_last w2 (.cells #[.bool b2, .slice A2 n2 c2, .slice B2 m2 d2] 31))
            have Hxw := Lib.hid (show Below w2.heap.size w2 (w2.alloc (.cells #[.bool b2, .slice A2 n2 c2, .slice B2 m2 d2] 31)) from (Below.refl _ _).alloc (Nat.le_refl _) _)
            have hxs : w2.heap.size < (w2.alloc (.cells #[.bool b2, .slice A2 n2 c2, .slice B2 m2 d2] 31)).heap.size := by simp
            clear hb2 ho2
            go_upto_region 10 with fail
            generalize (w2.alloc (.cells #[.bool b2, .slice A2 n2 c2, .slice B2 m2 d2] 31)) = X at *
            have HbX := Lib.hid (bnext Hb2.out (bnext Hxw.out (Drew.below (Drew.refl X).step1)))
            have HbY := Lib.hid (bnext Hb2.out Hxw.out)
            obtain ⟨k1, k2, k3⟩ := cells3 HbY.out hsz Hbx.out
            have k4 := thaw' HbY.out hsz Hbx.out 0; have k5 := thaw' HbY.out hsz Hbx.out 1; have k6 := thaw' HbY.out hsz Hbx.out 2
            have hS0 := cells3 (Drew.below (Drew.refl X).step1) hxs Hx.out
            have hne : w.heap.size ≠ w2.heap.size := Nat.ne_of_lt (Nat.lt_of_lt_of_le hsz Hb2.out.size)
            have c3 : (0 : Int) ≤ ↑k := by omega
            have c4 : (↑k : Int) ≤ ↑s.size := by omega
            go_region_held3 (fun w' => w'.cell? ⟨w2.heap.size, 0, none⟩ = some (.bool b2) ∧ w'.cell? ⟨w2.heap.size, 1, none⟩ = some (.slice A2 n2 c2) ∧ w'.cell? ⟨w2.heap.size, 2, none⟩ = some (.slice B2 m2 d2))
              (first | exact hS0 | exact cells3r hne hS0)
              (fail)
            all_goals go_wp2
            all_goals (refine bodyPost_ret (v := .tuple #[.agg #[.bool b2, .slice A2 n2 c2, .slice B2 m2 d2], .int .i64 k, .string (s.extract k s.size), .bool true]) ?_ rfl ⟨?_, fun h => absurd h (by rw [Hlen.out]; omega), fun _ _ => ⟨_, s.extract k s.size, by rw [Hlen.out], by rw [Hlen.out, drop_bytes], ?_⟩⟩)
            all_goals first
              | (rw [results_cell_tmp3 rfl]; simp [go_sem, asAddr, Result.andThen, k1, k2, k3]; done)
              | exact bset3 (bnext Hbw.out HbX.out) (Nat.le_refl _) _ _ _
              | exact ((Ho2.out.ext (bnext Hxw.out (Drew.below (Drew.refl X).step1))).set3 hsz _ _ _).mono (Nat.le_of_lt hsz)
          · have hne := not_empty (T := u) (by omega)
            have hu1 : 0 < u.size := by omega
            have hul : u.size ≤ 4096 := by
              have h1 := bytes_size u
              rw [Hu.out] at h1
              have h2 := (List.dropWhile_suffix (fun x : UInt8 => x == 48) (l := lead s.data.toList)).length_le
              have h3 := Hlen.out
              omega
            have hud : AllDig u.data.toList := fun c hc => Hld.out c ((List.dropWhile_suffix _).subset (by rw [Hu.out] at hc; exact hc))
            have huz : u.size = 1 ∨ (u[0]'hu1).toNat ≠ 48 := .inr (fun h => by
              have h1 := head_at u hu1
              have h2 := bare_head (lead s.data.toList)
              have h3 : ¬ (lead s.data.toList).dropWhile (· == 48) = [] := fun e => by rw [← Hu.out] at e; have := bytes_size u; rw [e] at this; simp at this; omega
              have h4 := List.head_dropWhile_not (p := fun x : UInt8 => x == 48) (l := lead s.data.toList) h3
              rw [Hu.out] at h1
              cases hh : (lead s.data.toList).dropWhile (· == 48) with
              | nil => exact h3 hh
              | cons a t =>
                simp only [hh, List.head_cons, List.headD_cons] at h4 h1
                rw [← h1] at h
                have : a = 48 := UInt8.toNat_inj.1 (by simpa using h)
                simp [this] at h4)
            have HB : Hid (((dec u.data.toList : Nat) : Rat) = ((dec (lead s.data.toList) : Nat) : Rat)) := Lib.hid (by rw [Hu.out, dec_drop0])
            have Hrp := Lib.hid (fun w => rparse_any w u hul hu1 hud huz)
            clear hud huz hul
            go_wp2_with fail
            refine (Hrp.out _).mono ?_
            rintro e w2 ⟨v2, rfl, hb2, ho2⟩
            rw [HB.out] at ho2
            obtain ⟨b2, A2, n2, c2, B2, m2, d2, rfl, _, _, _, _⟩ := ho2.rv.cut
            have Hb2 := Lib.hid hb2; have Ho2 := Lib.hid ho2
            have Hx := Lib.hid (alloc_last w2 (.cells #[.bool b2, .slice A2 n2 c2, .slice B2 m2 d2] 31))
            have Hxw := Lib.hid (show Below w2.heap.size w2 (w2.alloc (.cells #[.bool b2, .slice A2 n2 c2, .slice B2 m2 d2] 31)) from (Below.refl _ _).alloc (Nat.le_refl _) _)
            have hxs : w2.heap.size < (w2.alloc (.cells #[.bool b2, .slice A2 n2 c2, .slice B2 m2 d2] 31)).heap.size := by simp
            clear hb2 ho2
            go_upto_region 10 with fail
            generalize (w2.alloc (.cells #[.bool b2, .slice A2 n2 c2, .slice B2 m2 d2] 31)) = X at *
            have HbX := Lib.hid (bnext Hb2.out (bnext Hxw.out (Drew.below (Drew.refl X).step1)))
            have HbY := Lib.hid (bnext Hb2.out Hxw.out)
            obtain ⟨k1, k2, k3⟩ := cells3 HbY.out hsz Hbx.out
            have k4 := thaw' HbY.out hsz Hbx.out 0; have k5 := thaw' HbY.out hsz Hbx.out 1; have k6 := thaw' HbY.out hsz Hbx.out 2
            have hS0 := cells3 (Drew.below (Drew.refl X).step1) hxs Hx.out
            have hne : w.heap.size ≠ w2.heap.size := Nat.ne_of_lt (Nat.lt_of_lt_of_le hsz Hb2.out.size)
            have c3 : (0 : Int) ≤ ↑k := by omega
            have c4 : (↑k : Int) ≤ ↑s.size := by omega
            go_region_held3 (fun w' => w'.cell? ⟨w2.heap.size, 0, none⟩ = some (.bool b2) ∧ w'.cell? ⟨w2.heap.size, 1, none⟩ = some (.slice A2 n2 c2) ∧ w'.cell? ⟨w2.heap.size, 2, none⟩ = some (.slice B2 m2 d2))
              (first | exact hS0 | exact cells3r hne hS0)
              (fail)
            all_goals go_wp2
            all_goals (refine bodyPost_ret (v := .tuple #[.agg #[.bool b2, .slice A2 n2 c2, .slice B2 m2 d2], .int .i64 k, .string (s.extract k s.size), .bool true]) ?_ rfl ⟨?_, fun h => absurd h (by rw [Hlen.out]; omega), fun _ _ => ⟨_, s.extract k s.size, by rw [Hlen.out], by rw [Hlen.out, drop_bytes], ?_⟩⟩)
            all_goals first
              | (rw [results_cell_tmp3 rfl]; simp [go_sem, asAddr, Result.andThen, k1, k2, k3]; done)
              | exact bset3 (bnext Hbw.out HbX.out) (Nat.le_refl _) _ _ _
              | exact ((Ho2.out.ext (bnext Hxw.out (Drew.below (Drew.refl X).step1))).set3 hsz _ _ _).mono (Nat.le_of_lt hsz)
end Go.Proofs.YtckiojofncdoeaaGreatDoor
