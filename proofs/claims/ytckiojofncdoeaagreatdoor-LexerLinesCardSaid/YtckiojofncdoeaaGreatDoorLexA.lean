/- lexer: strings.Cut at one byte, class, Word. -/
import Derived.Test.YtckiojofncdoeaaGreatDoorRatC
import Derived.Test.YtckiojofncdoeaaGreatDoorShelf
import Derived.Test.YtckiojofncdoeaaGreatDoorNatK
namespace Go.Proofs.YtckiojofncdoeaaGreatDoor
open Go.RowKit

/-- the text ahead of the first c, and behind it -/
def ahead (c : UInt8) (l : List UInt8) : List UInt8 := l.takeWhile (· != c)
def behind (c : UInt8) (l : List UInt8) : List UInt8 := (l.dropWhile (· != c)).drop 1
theorem index_cases (c : UInt8) : ∀ l : List UInt8, (Lib.indexByte l c = -1 ∧ ahead c l = l ∧ behind c l = []) ∨ ∃ i : Nat, i < l.length ∧ Lib.indexByte l c = i ∧ ahead c l = l.take i ∧ behind c l = l.drop (i + 1)
  | [] => .inl ⟨rfl, rfl, rfl⟩
  | b :: l => by
    by_cases hb : b = c
    · subst hb
      refine .inr ⟨0, by simp, by simp [Lib.indexByte], by simp [ahead], by simp [behind]⟩
    · have hb1 : (b == c) = false := by simpa using hb
      have hb2 : (b != c) = true := by simpa using hb
      rcases index_cases c l with ⟨h1, h2, h3⟩ | ⟨i, hi, h1, h2, h3⟩
      · left
        unfold ahead at h2; unfold behind at h3
        exact ⟨by simp [Lib.indexByte, hb1, h1], by unfold ahead; rw [List.takeWhile_cons_of_pos (p := fun x => x != c) hb2, h2], by unfold behind; rw [List.dropWhile_cons_of_pos (p := fun x => x != c) hb2, h3]⟩
      · right
        unfold ahead at h2; unfold behind at h3
        refine ⟨i + 1, by simp; omega, ?_, by unfold ahead; rw [List.takeWhile_cons_of_pos (p := fun x => x != c) hb2, h2]; rfl, by unfold behind; rw [List.dropWhile_cons_of_pos (p := fun x => x != c) hb2, h3]; rfl⟩
        have h4 : ((i : Int) == -1) = false := by simp
        simp [Lib.indexByte, hb1, h1]
theorem any_of_ahead {c : UInt8} : ∀ {l : List UInt8}, ahead c l = l → l.any (· == c) = false
  | [], _ => rfl
  | b :: l, h => by
    unfold ahead at h
    by_cases hb : b = c
    · subst hb; simp at h
    · have hb2 : (b != c) = true := by simpa using hb
      rw [List.takeWhile_cons_of_pos (p := fun x => x != c) hb2] at h
      have h2 := any_of_ahead (c := c) (l := l) (by unfold ahead; exact (List.cons.inj h).2)
      rw [List.any_cons, h2, Bool.or_false]
      simpa using hb
theorem any_of_index {c : UInt8} : ∀ {l : List UInt8} {i : Nat}, Lib.indexByte l c = i → l.any (· == c) = true
  | [], i, h => by simp [Lib.indexByte] at h
  | b :: l, i, h => by
    by_cases hb : b = c
    · subst hb; simp
    · have hb1 : (b == c) = false := by simpa using hb
      rw [List.any_cons, hb1, Bool.false_or]
      rcases index_cases c l with ⟨h1, _, _⟩ | ⟨j, _, h1, _, _⟩
      · simp [Lib.indexByte, hb1, h1] at h
      · exact any_of_index h1
theorem take_bytes (s : ByteArray) (i : Nat) : (s.extract 0 i).data.toList = s.data.toList.take i := by
  rw [Lib.extract_data]; simp

theorem cut_lite (w : World) (s : ByteArray) (c : UInt8) (hs : s.size ≤ 1000000) : Calls Tryz.prog 47 #[.string s, .string ⟨#[c]⟩] w fun e w' =>
    ∃ a b, e = .returned (.tuple #[.string a, .string b, .bool (s.data.toList.any (· == c))]) ∧ a.data.toList = ahead c s.data.toList ∧ b.data.toList = behind c s.data.toList ∧ ∃ n, w' = w.drewN n := by
  have hix := Tryz.stringslite_Index_one s c
  rcases index_cases c s.data.toList with ⟨h1, h2, h3⟩ | ⟨i, hi, h1, h2, h3⟩
  · rw [h1] at hix
    rw [any_of_ahead h2]
    have Hix := Lib.hid hix; clear hix h1
    go_enter Tryz.func47, Tryz.ntmps47
    go_wp2_with fail
    refine (Hix.out _).mono ?_
    rintro e w' ⟨rfl, rfl⟩
    go_wp2
    go_ret3
    exact ⟨_, _, rfl, h2.symm, h3.symm, 0, rfl⟩
  · rw [any_of_index h1]
    rw [h1] at hix
    rw [bytes_size] at hi
    have c1 : (0 : Int) ≤ ↑i := by omega
    have c2 : (↑i : Int) ≤ ↑s.size := by omega
    have c3 : (0 : Int) ≤ ↑i + 1 := by omega
    have c4 : (↑i + 1 : Int) ≤ ↑s.size := by omega
    have c5 : IntKind.i64.wrap ((i : Int) + 1) = (i : Int) + 1 := IntWalk.i64_in _ (by omega)
    have Hix := Lib.hid hix; have H2 := Lib.hid h2; have H3 := Lib.hid h3; clear hix h1 h2 h3
    go_enter Tryz.func47, Tryz.ntmps47
    go_wp2_with fail
    refine (Hix.out _).mono ?_
    rintro e w' ⟨rfl, rfl⟩
    go_wp2
    go_region
    all_goals go_wp2
    all_goals go_ret3
    all_goals exact ⟨_, _, rfl, by rw [take_bytes, H2.out], by rw [drop_bytes, H3.out], 1, rfl⟩

theorem cut_any1 (w : World) (s : ByteArray) (c : UInt8) (hs : s.size ≤ 1000000) : Calls Tryz.prog 23 #[.string s, .string ⟨#[c]⟩] w fun e w' =>
    ∃ a b, e = .returned (.tuple #[.string a, .string b, .bool (s.data.toList.any (· == c))]) ∧ a.data.toList = ahead c s.data.toList ∧ b.data.toList = behind c s.data.toList ∧ ∃ n, w' = w.drewN n := by
  have hl := fun w => cut_lite w s c hs
  generalize s.data.toList.any (fun x => x == c) = f at *
  have Hl := Lib.hid hl; clear hl
  go_enter Tryz.func23, Tryz.ntmps23
  go_wp2_with fail
  refine (Hl.out _).mono ?_
  rintro e w' ⟨a, b, rfl, ha, hb, n, rfl⟩
  have Ha := Lib.hid ha; have Hb := Lib.hid hb; clear ha hb
  go_wp2
  go_ret3
  exact ⟨_, _, rfl, Ha.out, Hb.out, n, rfl⟩

/-- the class of a byte -/
def cls (b : Nat) : Nat := if b = 45 then 3 else if 48 ≤ b ∧ b ≤ 57 then 2 else if 97 ≤ b ∧ b ≤ 122 then 1 else 0
/-- The table lies in its block. -/
def Tab (w : World) : Prop := ∀ k : Nat, k < 128 → w.cell? ⟨0, k, none⟩ = some (.int .u8 (cls k : Nat))
theorem Tab.ext {w w' : World} (h : Tab w) (hb : Below w.heap.size w w') : Tab w' := fun k hk => cell_below hb (h k hk)

set_option maxRecDepth 100000 in
theorem class_any (w : World) (T : Tab w) (b : Nat) (hb : b < 256) : Calls Tryz.prog 37 #[.int .u8 b] w fun e w' => w = w' ∧ e = .returned (.int .u8 (cls b : Nat)) := by
  by_cases h : b < 128
  · have hc := T b h
    have HT := Lib.hid T; clear T
    generalize cls b = c at *
    go_enter Tryz.func37, Tryz.ntmps37
    go_wp2
    go_ret
    exact ⟨rfl, rfl⟩
  · have hc : cls b = 0 := by unfold cls; rw [if_neg (by omega), if_neg (by omega), if_neg (by omega)]
    have HT := Lib.hid T; clear T
    rw [hc]
    clear hc
    go_enter Tryz.func37, Tryz.ntmps37
    go_wp2
    go_ret
    exact ⟨rfl, rfl⟩

def isWord (l : List UInt8) : Bool := decide (1 ≤ l.length) && decide (l.length ≤ 12) && decide (cls (l.headD 0).toNat = 1) && l.all (fun c => decide (cls c.toNat ≠ 0))
theorem headD_at (l : List UInt8) (h : 0 < l.length) : l.headD 0 = l[0] := by
  cases l with
  | nil => exact absurd h (by simp)
  | cons a t => rfl
theorem head_at (s : ByteArray) (h : 0 < s.size) : s.data.toList.headD 0 = s[0] := by
  rw [byte_at s 0 h]
  exact headD_at _ (by rw [bytes_size]; exact h)
theorem all_cls (s : ByteArray) (h : ∀ j (hj : j < s.size), cls (s[j]).toNat ≠ 0) : s.data.toList.all (fun c => decide (cls c.toNat ≠ 0)) = true := by
  rw [List.all_eq_true]
  intro c hc
  obtain ⟨j, hj, rfl⟩ := List.getElem_of_mem hc
  have h1 := h j (by rw [bytes_size] at hj; exact hj)
  rw [byte_at] at h1
  exact decide_eq_true h1
theorem not_all_cls (s : ByteArray) (k : Nat) (hk : k < s.size) (h : cls (s[k]).toNat = 0) : s.data.toList.all (fun c => decide (cls c.toNat ≠ 0)) = false := by
  rw [List.all_eq_false]
  refine ⟨s.data.toList[k]'(by rw [bytes_size]; exact hk), List.getElem_mem _, ?_⟩
  rw [byte_at s k hk] at h
  rw [decide_eq_false (fun h2 => h2 h)]
  decide

set_option maxRecDepth 100000 in
theorem word_any (w : World) (T : Tab w) (s : ByteArray) (hs : s.size ≤ 1000000) : Calls Tryz.prog 14 #[.string s] w fun e w' => w = w' ∧ e = .returned (.bool (isWord s.data.toList)) := by
  have HT := Lib.hid T; clear T
  have hlen := bytes_size s
  by_cases h0 : s.size < 1
  · have hr : isWord s.data.toList = false := by unfold isWord; rw [hlen, decide_eq_false (by omega)]; rfl
    rw [hr]; clear hr hlen
    go_enter Tryz.func14, Tryz.ntmps14
    go_wp2
    go_ret
    exact ⟨rfl, rfl⟩
  by_cases h1 : 12 < s.size
  · have hr : isWord s.data.toList = false := by unfold isWord; rw [hlen, decide_eq_false (show ¬ s.size ≤ 12 by omega)]; simp
    rw [hr]; clear hr hlen
    go_enter Tryz.func14, Tryz.ntmps14
    go_wp2
    go_ret
    exact ⟨rfl, rfl⟩
  have hs0 : 0 < s.size := by omega
  have hhd := head_at s hs0
  have hw : isWord s.data.toList = (decide (cls (s[0]).toNat = 1) && s.data.toList.all (fun c => decide (cls c.toNat ≠ 0))) := by
    unfold isWord; rw [hlen, hhd, decide_eq_true (by omega : 1 ≤ s.size), decide_eq_true (by omega : s.size ≤ 12)]; rfl
  rw [hw]; clear hw hhd
  obtain ⟨c0, hc0⟩ : ∃ c, c = cls (s[0]).toNat := ⟨_, rfl⟩
  have hk0 := class_any w HT.out (s[0]).toNat (UInt8.toNat_lt _)
  rw [← hc0] at hk0 ⊢
  have Hk0 := Lib.hid hk0; clear hk0 hc0
  have Hlen := Lib.hid hlen; clear hlen
  by_cases hc : c0 = 1
  · subst hc
    go_enter Tryz.func14, Tryz.ntmps14
    go_wp2_with fail
    refine Hk0.out.mono ?_
    rintro e w' ⟨rfl, rfl⟩
    go_wp2
    go_loopw [20] (fun i wq => wq = w ∧ ∃ k : Nat, i = .int .i64 k ∧ k ≤ s.size ∧ ∀ j (hj : j < s.size), j < k → cls (s[j]).toNat ≠ 0) (fun i _ => s.size - (intOf i).toNat)
    case atStart => exact ⟨rfl, 0, rfl, Nat.zero_le _, fun j _ h => absurd h (by omega)⟩
    case round =>
      obtain ⟨rfl, k, rfl, hk, hall⟩ := hrel
      have Hall := Lib.hid hall; clear hall
      by_cases hlt : k < s.size
      · obtain ⟨c, hcc⟩ : ∃ c, c = cls (s[k]).toNat := ⟨_, rfl⟩
        have hk1 := class_any _ HT.out (s[k]).toNat (UInt8.toNat_lt _)
        rw [← hcc] at hk1
        have Hk1 := Lib.hid hk1; have Hcc := Lib.hid hcc; clear hk1 hcc
        by_cases hz : c = 0
        · subst hz
          go_wp2_with fail
          refine Hk1.out.mono ?_
          rintro e w' ⟨rfl, rfl⟩
          go_wp2
          go_ret
          exact ⟨rfl, ret_bool (by rw [not_all_cls s k hlt Hcc.out.symm, Bool.and_false])⟩
        · have hzb : ((c : Int) == 0) = false := by simpa using hz
          go_wp2_with fail
          refine Hk1.out.mono ?_
          rintro e w' ⟨rfl, rfl⟩
          go_wp2
          go_roundw
          case rel =>
            refine ⟨by first | rfl | trivial, k + 1, by go_num, by omega, fun j hj hjk => ?_⟩
            rcases Nat.lt_or_ge j k with h | h
            · exact Hall.out j hj h
            · obtain rfl : j = k := by omega
              rw [← Hcc.out]; exact hz
          case measure => simp [intOf]; omega
      · go_wp2
        go_ret
        exact ⟨rfl, ret_bool (by rw [all_cls s (fun j hj => Hall.out j hj (by omega))]; rfl)⟩
  · have hcb : ((c0 : Int) == 1) = false := by simp; omega
    have hcn : ((c0 : Int) != 1) = true := by simp; omega
    rw [decide_eq_false hc]
    go_enter Tryz.func14, Tryz.ntmps14
    go_wp2_with fail
    refine Hk0.out.mono ?_
    rintro e w' ⟨rfl, rfl⟩
    go_wp2
    go_ret
    exact ⟨rfl, rfl⟩
end Go.Proofs.YtckiojofncdoeaaGreatDoor
