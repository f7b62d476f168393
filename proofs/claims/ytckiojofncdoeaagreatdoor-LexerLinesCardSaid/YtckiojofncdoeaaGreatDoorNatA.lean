/- nat: cut, Normal, Clone, Trim, Compare, small: what they return. -/
import Derived.Test.YtckiojofncdoeaaGreatDoorProg
import Derived.Test.YtckiojofncdoeaaGreatDoorApp
namespace Go.Proofs.YtckiojofncdoeaaGreatDoor
open Go.RowKit

def cmpI (x y : Int) : Int := if x < y then -1 else if y < x then 1 else 0
theorem cmpI_lt {x y : Int} (h : x < y) : cmpI x y = -1 := by simp [cmpI, h]
theorem cmpI_gt {x y : Int} (h : y < x) : cmpI x y = 1 := by have h' : ¬ x < y := by omega
                                                             simp [cmpI, h, h']
theorem cmpI_eq {x y : Int} (h : x = y) : cmpI x y = 0 := by subst h; simp [cmpI]
theorem ret_i64 {a b : Int} (h : a = b) : Ending.returned (.int .i64 a) = Ending.returned (.int .i64 b) := by rw [h]
theorem ret_sl {A : Option Addr} {n m cap : Nat} (h : n = m) : Ending.returned (.slice A n cap) = Ending.returned (.slice A m cap) := by rw [h]
theorem ret_bool {a b : Bool} (h : a = b) : Ending.returned (.bool a) = Ending.returned (.bool b) := by rw [h]

theorem cmpInt_any (x y : Int) (w : World) : Calls Tryz.prog 93 #[.int .i64 x, .int .i64 y] w fun e w' => w = w' ∧ e = .returned (.int .i64 (cmpI x y)) := by
  go_enter Tryz.func93, Tryz.ntmps93
  go_wp2
  · go_ret; exact ⟨rfl, ret_i64 (cmpI_lt ‹_›).symm⟩
  · go_ret; exact ⟨rfl, ret_i64 (cmpI_gt ‹_›).symm⟩
  · go_ret; exact ⟨rfl, ret_i64 (cmpI_eq (by omega)).symm⟩
theorem cmpU32_any (x y : Int) (w : World) : Calls Tryz.prog 94 #[.int .u32 x, .int .u32 y] w fun e w' => w = w' ∧ e = .returned (.int .i64 (cmpI x y)) := by
  go_enter Tryz.func94, Tryz.ntmps94
  go_wp2
  · go_ret; exact ⟨rfl, ret_i64 (cmpI_lt ‹_›).symm⟩
  · go_ret; exact ⟨rfl, ret_i64 (cmpI_gt ‹_›).symm⟩
  · go_ret; exact ⟨rfl, ret_i64 (cmpI_eq (by omega)).symm⟩

theorem RU.cut {w : World} {A : Option Addr} {l : List Int} (h : RU w A l) : RU w A (digits (val l)) := by rw [digits_is_take h.wf]; exact h.take _

set_option maxHeartbeats 400000 in
theorem cut_any (w : World) (A : Option Addr) (n cap : Nat) (l : List Int) (hl : l.length = n) (hc : n ≤ cap) (hs : n ≤ 4611686018427387904) (h : RU w A l) :
    Calls Tryz.prog 70 #[.slice A n cap] w fun e w' => w = w' ∧ e = .returned (.slice A (clen l) cap) := by
  go_enter Tryz.func70, Tryz.ntmps70
  go_wp2
  go_loop [3] (fun m => ∃ k : Nat, k ≤ n ∧ m = .int .i64 k ∧ (∀ j, k ≤ j → j < n → dg l j = 0)) (fun m => (intOf m).toNat)
  case atStart => exact ⟨n, Nat.le_refl _, rfl, fun j h1 h2 => by omega⟩
  case round =>
    obtain ⟨k, hk, rfl, hz⟩ := hrel
    have Hz := Lib.hid hz; clear hz
    have Hl := Lib.hid hl; clear hl
    rcases k with _ | k
    · go_wp2
      go_ret
      exact ⟨rfl, ret_sl (clen_eq h.wf (Nat.zero_le _) (fun j h1 h2 => Hz.out j h1 (by rw [Hl.out] at h2; exact h2)) (.inl rfl))⟩
    · obtain ⟨b, o, rfl, hcell⟩ := h.cells (by rw [Hl.out]; omega)
      have h1 := hcell k (by rw [Hl.out]; omega)
      have Hh := Lib.hid h; clear h
      clear hcell
      by_cases h0 : dg l k = 0
      · rw [h0] at h1
        have H0 := Lib.hid h0; clear h0
        go_wp2
        go_round
        case rel => exact ⟨k, by omega, rfl, fun j h1 h2 => by
          by_cases hj : j = k
          · subst hj; exact H0.out
          · exact Hz.out j (by omega) h2⟩
        case measure => simp [intOf]
      · have h0' : (dg l k == 0) = false := by simpa using h0
        go_wp2
        go_ret
        exact ⟨rfl, ret_sl (clen_eq Hh.out.wf (by rw [Hl.out]; omega) (fun j h1 h2 => Hz.out j h1 (by rw [Hl.out] at h2; exact h2)) (.inr (by simpa using h0)))⟩

theorem normal_any (w : World) (A : Option Addr) (n cap : Nat) (l : List Int) (hl : l.length = n) (hs : n ≤ 4611686018427387904) (h : RU w A l) :
    Calls Tryz.prog 106 #[.slice A n cap] w fun e w' => w = w' ∧ e = .returned (.bool (decide (l.length = 0 ∨ dg l (l.length - 1) ≠ 0))) := by
  subst hl
  by_cases h0 : l.length = 0
  · have h0' : ((l.length : Int) == 0) = true := by simp [h0]
    go_enter Tryz.func106, Tryz.ntmps106
    go_wp2
    go_ret
    exact ⟨rfl, ret_bool (by simp [h0])⟩
  · obtain ⟨b, o, rfl, hcell⟩ := h.cells (by omega)
    obtain ⟨m, hm⟩ : ∃ m, l.length = m + 1 := ⟨l.length - 1, by omega⟩
    have h1 := hcell m (by omega)
    rw [hm] at hs ⊢
    have h0' : (((m + 1 : Nat) : Int) == 0) = false := by simp; omega
    clear hcell h h0 hm
    go_enter Tryz.func106, Tryz.ntmps106
    go_wp2
    go_ret
    exact ⟨rfl, ret_bool (by simp [bne, Bool.beq_eq_decide_eq]; omega)⟩

theorem clone_any (w : World) (A : Option Addr) (n cap : Nat) (l : List Int) (hl : l.length = n) (hc : n ≤ cap) (hs : n ≤ 4294967296) (h : RU w A l) :
    Calls Tryz.prog 97 #[.slice A n cap] w fun e w' => ∃ v, e = .returned v ∧ Below w.heap.size w w' ∧ OwnU w.heap.size w' v l := by
  cases A with
  | none =>
    have hn : l = [] := by
      rcases Nat.eq_zero_or_pos l.length with h0 | h0
      · exact List.eq_nil_of_length_eq_zero h0
      · obtain ⟨_, _, h1, _⟩ := h.cells h0; cases h1
    have Hn := Lib.hid hn; clear hn hl h hs
    go_enter Tryz.func97, Tryz.ntmps97
    go_wp2
    go_ret
    exact ⟨_, rfl, Below.refl _ _, by rw [Hn.out]; exact OwnU.nil _ _⟩
  | some a =>
    have Hl := Lib.hid hl; clear hl
    have Hh := Lib.hid h; clear h
    have Hs := Lib.hid hs; clear hs
    go_enter Tryz.func97, Tryz.ntmps97
    go_wp2_with (at_builtin; refine wp_appU w.heap.size rfl _ _ rfl _ [] rfl (own_empty w _ (Nat.le_refl _)) _ l rfl ((RV.of Hl.out hc Hh.out).ext ((Below.refl _ _).alloc (Nat.le_refl _) _)) ((Below.refl _ _).alloc (Nat.le_refl _) _) (by simp) (by have := Hl.out; have := Hs.out; simp; omega) ?_; intro v1 w1 hown hb _)
    go_ret
    exact ⟨_, rfl, hb, hown⟩

theorem trim_any (w : World) (A : Option Addr) (n cap : Nat) (l : List Int) (hl : l.length = n) (hc : n ≤ cap) (hs : n ≤ 4294967296) (h : RU w A l) :
    Calls Tryz.prog 69 #[.slice A n cap] w fun e w' => ∃ v, e = .returned v ∧ Below w.heap.size w w' ∧ OwnU w.heap.size w' v (digits (val l)) := by
  have hcl := clen_le h.wf
  rw [hl] at hcl
  have Hl := Lib.hid hl; clear hl
  have Hh := Lib.hid h; clear h
  go_enter Tryz.func69, Tryz.ntmps69
  go_wp2_with (first
    | (go_at_call 70; refine (cut_any w A n cap l Hl.out hc (by omega) Hh.out).mono ?_; rintro e w' ⟨rfl, rfl⟩)
    | (go_at_call 97; refine (clone_any w A (clen l) cap (digits (val l)) rfl (by omega) (by omega) Hh.out.cut).mono ?_; rintro e w' ⟨v, rfl, hb, ho⟩))
  go_ret
  exact ⟨_, rfl, hb, ho⟩

/-- The number of a comparison. -/
def cmpN (a b : Nat) : Int := if a < b then -1 else if b < a then 1 else 0
theorem cmpN_lt {x y : Nat} (h : x < y) : cmpN x y = -1 := by simp [cmpN, h]
theorem cmpN_gt {x y : Nat} (h : y < x) : cmpN x y = 1 := by have h' : ¬ x < y := by omega
                                                             simp [cmpN, h, h']
theorem cmpN_eq {x y : Nat} (h : x = y) : cmpN x y = 0 := by subst h; simp [cmpN]
theorem RU.addr {w : World} {A : Option Addr} {l : List Int} (h : RU w A l) (k : Nat) (hk : k < l.length) : ∃ b o, A = some ⟨b, o, none⟩ ∧ w.cell? ⟨b, o + k, none⟩ = some (.int .u32 (dg l k)) := by
  obtain ⟨b, o, e, hc⟩ := h.cells (by omega)
  exact ⟨b, o, e, hc k hk⟩

theorem RU.addrB {w w' : World} {A : Option Addr} {l : List Int} (h : RU w A l) (hb : Below w.heap.size w w') (k : Nat) (hk : k < l.length) : ∃ b o, A = some ⟨b, o, none⟩ ∧ b < w.heap.size ∧ w'.cell? ⟨b, o + k, none⟩ = some (.int .u32 (dg l k)) := by
  obtain ⟨b, o, e, hc⟩ := h.cells (by omega)
  exact ⟨b, o, e, World.block_lt_of_cell? w _ (hc k hk), cell_below hb (hc k hk)⟩

set_option maxHeartbeats 800000 in
theorem compare_any (w : World) (A B : Option Addr) (n cap m cap' : Nat) (l r : List Int) (hl : l.length = n) (hc : n ≤ cap) (hs : n ≤ 4294967296) (h : RU w A l)
    (hr : r.length = m) (hc' : m ≤ cap') (hs' : m ≤ 4294967296) (h' : RU w B r) :
    Calls Tryz.prog 61 #[.slice A n cap, .slice B m cap'] w fun e w' => e = .returned (.int .i64 (cmpN (val l) (val r))) ∧ ∃ q, w' = w.drewN q := by
  have hcl := clen_le h.wf
  have hcr := clen_le h'.wf
  rw [hl] at hcl
  rw [hr] at hcr
  have hd := Lib.hid (Wf.digits (val l)); have hd' := Lib.hid (Wf.digits (val r))
  have H := Lib.hid h.cut
  have H' := Lib.hid h'.cut
  have Hl := Lib.hid hl; clear hl
  have Hr := Lib.hid hr; clear hr
  have Hh := Lib.hid h; clear h
  have Hh' := Lib.hid h'; clear h'
  by_cases hne : clen l = clen r
  · have Hne := Lib.hid hne
    have hb : ((clen l : Int) != (clen r : Int)) = false := by simp [hne]
    clear hne
    go_enter Tryz.func61, Tryz.ntmps61
    go_wp2_with (first
      | (go_at_call 70; first | ((with_reducible refine (cut_any w A n cap l Hl.out hc (by omega) Hh.out).mono ?_); rintro e w' ⟨rfl, rfl⟩) | ((with_reducible refine (cut_any w B m cap' r Hr.out hc' (by omega) Hh'.out).mono ?_); rintro e w' ⟨rfl, rfl⟩)))
    go_loopw [7] (fun i wr => ∃ k : Nat, k ≤ clen l ∧ i = .int .i64 ((k : Int) - 1) ∧ (∀ j, k ≤ j → j < clen l → dg (digits (val l)) j = dg (digits (val r)) j) ∧ Drew w wr) (fun i _ => (intOf i + 1).toNat)
    case atStart => exact ⟨clen l, Nat.le_refl _, rfl, fun j h1 h2 => by omega, Drew.refl _⟩
    case round =>
      obtain ⟨k, hk, rfl, heq, hw⟩ := hrel
      have Heq := Lib.hid heq; clear heq
      have Hw := Lib.hid hw; clear hw
      rcases k with _ | k
      · go_wp2
        go_ret
        exact ⟨ret_i64 (cmpN_eq (by rw [← val_digits (val l), ← val_digits (val r), ext_dg Hne.out fun j hj => Heq.out j (Nat.zero_le _) hj])).symm, Hw.out.out⟩
      · obtain ⟨b, o, rfl, h1⟩ := H.out.addr k (by unfold clen at hk; omega)
        obtain ⟨b', o', rfl, h1'⟩ := H'.out.addr k (by have := Hne.out; unfold clen at *; omega)
        rw [← Hw.out.cell] at h1 h1'
        have hkr : k + 1 ≤ clen r := by have := Hne.out; omega
        have i1 : (0 : Int) ≤ (k : Int) := by omega
        have i2 : (k : Int) < (clen l : Int) := by omega
        have i3 : (k : Int) < (clen r : Int) := by omega
        by_cases hd0 : dg (digits (val l)) k = dg (digits (val r)) k
        · have hb1 : (dg (digits (val l)) k != dg (digits (val r)) k) = false := by simpa using hd0
          have Hd0 := Lib.hid hd0; clear hd0
          go_wp2
          go_quiet (fail)
          go_wp2
          go_roundw
          case rel => exact ⟨k, by omega, rfl, fun j h1 h2 => by
            by_cases hj : j = k
            · subst hj; exact Hd0.out
            · exact Heq.out j (by omega) h2, Hw.out.step _⟩
          case measure => simp [intOf]
        · have hb1 : (dg (digits (val l)) k != dg (digits (val r)) k) = true := by simpa using hd0
          go_wp2
          go_quiet (fail)
          go_wp2
          go_quiet ((go_at_call 94; exact q_left2 (cmpU32_any _ _ _)))
          go_wp2
          go_ret
          refine ⟨ret_i64 ?_, ((Hw.out.step _).step _).out⟩
          by_cases hlt : dg (digits (val l)) k < dg (digits (val r)) k
          · rw [cmpI_lt hlt, cmpN_lt]
            rw [← val_digits (val l), ← val_digits (val r)]
            exact val_lt_of_top hd.out hd'.out Hne.out k (by unfold clen at hk; omega) (fun j h1 h2 => Heq.out j (by omega) h2) hlt
          · rw [cmpI_gt (by omega), cmpN_gt]
            rw [← val_digits (val l), ← val_digits (val r)]
            exact val_lt_of_top hd'.out hd.out Hne.out.symm k (by have := Hne.out; unfold clen at *; omega) (fun j h1 h2 => (Heq.out j (by omega) (by have := Hne.out; unfold clen at *; omega)).symm) (by omega)
  · have hb : ((clen l : Int) != (clen r : Int)) = true := by simp; omega
    go_enter Tryz.func61, Tryz.ntmps61
    go_wp2_with (first
      | (go_at_call 70; first | ((with_reducible refine (cut_any w A n cap l Hl.out hc (by omega) Hh.out).mono ?_); rintro e w' ⟨rfl, rfl⟩) | ((with_reducible refine (cut_any w B m cap' r Hr.out hc' (by omega) Hh'.out).mono ?_); rintro e w' ⟨rfl, rfl⟩))
      | (go_at_call 93; refine (cmpInt_any _ _ _).mono ?_; rintro e w' ⟨rfl, rfl⟩))
    go_ret
    refine ⟨ret_i64 ?_, 0, rfl⟩
    by_cases hlt : clen l < clen r
    · rw [cmpI_lt (by omega), cmpN_lt]
      rw [← val_digits (val l), ← val_digits (val r)]
      exact val_lt_of_shorter hd.out hd'.out (norm_digits _) hlt
    · rw [cmpI_gt (by omega), cmpN_gt]
      rw [← val_digits (val l), ← val_digits (val r)]
      exact val_lt_of_shorter hd'.out hd.out (norm_digits _) (by unfold clen at *; omega)
end Go.Proofs.YtckiojofncdoeaaGreatDoor
