/- reference, layer 1: Trim, Same. -/
import Derived.Test.YtckiojofncdoeaaGreatDoorNatB
namespace Go.Proofs.YtckiojofncdoeaaGreatDoor
open Go.RowKit

set_option maxHeartbeats 400000 in
theorem r1trim_any (w : World) (A : Option Addr) (n cap : Nat) (l : List Int) (hl : l.length = n) (hc : n ≤ cap) (hs : n ≤ 4294967296) (h : RU w A l) :
    Calls Tryz.prog 72 #[.slice A n cap] w fun e w' => ∃ v, e = .returned v ∧ Below w.heap.size w w' ∧ OwnU w.heap.size w' v (digits (val l)) := by
  go_enter Tryz.func72, Tryz.ntmps72
  go_wp2
  go_loop [3] (fun m => ∃ k : Nat, k ≤ n ∧ m = .int .i64 k ∧ (∀ j, k ≤ j → j < n → dg l j = 0)) (fun m => (intOf m).toNat)
  case atStart => exact ⟨n, Nat.le_refl _, rfl, fun j h1 h2 => by omega⟩
  case round =>
    obtain ⟨k, hk, rfl, hz⟩ := hrel
    have Hz := Lib.hid hz; clear hz
    have Hl := Lib.hid hl; clear hl
    rcases k with _ | k
    · have hd : digits (val l) = [] := by
        have h1 := clen_eq h.wf (Nat.zero_le _) (fun j h1 h2 => Hz.out j h1 (by rw [Hl.out] at h2; exact h2)) (.inl rfl)
        exact List.eq_nil_of_length_eq_zero h1.symm
      have Hd := Lib.hid hd; clear hd h
      go_wp2_with (at_builtin; refine wp_appU w.heap.size rfl _ _ rfl _ [] rfl (OwnU.nil _ _) _ [] rfl ⟨A, cap, rfl, Nat.zero_le _, Wf.nil, fun h => absurd h (by simp)⟩ (Below.refl _ _) (Nat.le_refl _) (by simp) ?_; intro v1 w1 hown hb _)
      go_ret
      exact ⟨_, rfl, hb, by rw [Hd.out]; exact hown⟩
    · obtain ⟨b, o, rfl, hcell⟩ := h.cells (by rw [Hl.out]; omega)
      have h1 := hcell k (by rw [Hl.out]; omega)
      have Hh := Lib.hid h; clear h
      clear hcell
      by_cases h0 : dg l k = 0
      · rw [h0] at h1
        have H0 := Lib.hid h0; clear h0
        go_wp2
        go_round
        case rel => exact ⟨k, by omega, rfl, fun j h1 h2 => by
          by_cases hj : j = k
          · subst hj; exact H0.out
          · exact Hz.out j (by omega) h2⟩
        case measure => simp [intOf]
      · have h0' : (dg l k == 0) = false := by simpa using h0
        have hd : (digits (val l)).length = k + 1 := (clen_eq Hh.out.wf (by rw [Hl.out]; omega) (fun j h1 h2 => Hz.out j h1 (by rw [Hl.out] at h2; exact h2)) (.inr (by simpa using h0))).symm
        have Hd := Lib.hid hd; have H0 := Lib.hid h0; clear hd h0
        go_wp2_with (at_builtin; refine wp_appU w.heap.size rfl _ _ rfl _ [] rfl (OwnU.nil _ _) _ (digits (val l)) rfl (RV.of Hd.out (by omega) Hh.out.cut) (Below.refl _ _) (Nat.le_refl _) (by have := Hd.out; simp; omega) ?_; intro v1 w1 hown hb _)
        go_ret
        exact ⟨_, rfl, hb, hown⟩

theorem r1same_any (w : World) (A B : Option Addr) (n cap m cap' : Nat) (l r : List Int) (hl : l.length = n) (_hc : n ≤ cap) (hs : n ≤ 4294967296) (h : RU w A l)
    (hr : r.length = m) (hc' : m ≤ cap') (hs' : m ≤ 4294967296) (h' : RU w B r) :
    Calls Tryz.prog 36 #[.slice A n cap, .slice B m cap'] w fun e w' => e = .returned (.bool (decide (l = r))) ∧ Below w.heap.size w w' := by
  by_cases hne : n = m
  · subst hne
    go_enter Tryz.func36, Tryz.ntmps36
    go_wp2
    go_loopw [5] (fun i wr => Drew w wr ∧ ∃ k : Nat, k ≤ n ∧ i = .int .i64 k ∧ (∀ j, j < k → dg l j = dg r j)) (fun i _ => n - (intOf i).toNat)
    case atStart => exact ⟨Drew.refl _, 0, Nat.zero_le _, rfl, fun j h => absurd h (by omega)⟩
    case round =>
      obtain ⟨hdw, k, hk, rfl, hall⟩ := hrel
      have Hall := Lib.hid hall; clear hall
      have Hl := Lib.hid hl; have Hr := Lib.hid hr; clear hl hr
      have Hdw := Lib.hid hdw; clear hdw
      by_cases hlt : k < n
      · obtain ⟨b, o, rfl, hcA⟩ := h.addr k (by rw [Hl.out]; exact hlt)
        obtain ⟨b', o', rfl, hcB⟩ := h'.addr k (by rw [Hr.out]; exact hlt)
        rw [← Hdw.out.cell] at hcA hcB
        by_cases hd : dg l k = dg r k
        · rw [hd] at hcA
          have Hd := Lib.hid hd; clear hd
          have Hh := Lib.hid h; have Hh' := Lib.hid h'; clear h h'
          obtain ⟨x, hx⟩ : ∃ x, x = dg r k := ⟨_, rfl⟩
          rw [← hx] at hcA hcB
          clear hx
          go_wp2
          go_quiet (fail)
          go_wp2
          go_roundw
          case rel =>
            refine ⟨Hdw.out.step _, k + 1, by omega, by go_num, fun j hj => ?_⟩
            rcases Nat.lt_or_ge j k with h | h
            · exact Hall.out j h
            · obtain rfl : j = k := by omega
              exact Hd.out
          case measure => simp [intOf]; omega
        · have hdb : (dg l k == dg r k) = false := by simpa using hd
          have hdn : (dg l k != dg r k) = true := by simpa using hd
          have hlr : decide (l = r) = false := decide_eq_false (fun e => hd (by rw [e]))
          have Hlr := Lib.hid hlr
          have Hh := Lib.hid h; have Hh' := Lib.hid h'; clear h h' hlr hd
          go_wp2
          go_quiet (fail)
          go_wp2
          go_ret
          exact ⟨ret_bool (by rw [Hlr.out]), (Hdw.out.step _).below⟩
      · have hlr : decide (l = r) = true := decide_eq_true (ext_dg (by rw [Hl.out, Hr.out]) (fun j hj => Hall.out j (by rw [Hl.out] at hj; omega)))
        have Hlr := Lib.hid hlr
        clear hlr
        go_wp2
        go_ret
        exact ⟨ret_bool (by rw [Hlr.out]), Hdw.out.below⟩
  · have hlr : decide (l = r) = false := decide_eq_false (fun e => hne (by rw [← hl, ← hr, e]))
    have hnb : ((n : Int) == (m : Int)) = false := by rw [beq_eq_false_iff_ne]; omega
    have hnn : ((n : Int) != (m : Int)) = true := by rw [bne, hnb]; rfl
    rw [hlr]
    clear hlr hl hr h h' hne
    go_enter Tryz.func36, Tryz.ntmps36
    go_wp2
    go_ret
    exact ⟨rfl, Below.refl _ _⟩
end Go.Proofs.YtckiojofncdoeaaGreatDoor
