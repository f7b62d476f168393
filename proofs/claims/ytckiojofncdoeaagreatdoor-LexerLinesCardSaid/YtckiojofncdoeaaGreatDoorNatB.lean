/- nat: Add, Sub. -/
import Derived.Test.YtckiojofncdoeaaGreatDoorNatA
namespace Go.Proofs.YtckiojofncdoeaaGreatDoor
open Go.RowKit

set_option maxRecDepth 100000 in
set_option maxHeartbeats 1600000 in
theorem add_any (w : World) (A B : Option Addr) (n cap m cap' : Nat) (l r : List Int) (hl : l.length = n) (hc : n ≤ cap) (hs : n ≤ 4294967296) (h : RU w A l)
    (hr : r.length = m) (hc' : m ≤ cap') (hs' : m ≤ 4294967296) (h' : RU w B r) :
    Calls Tryz.prog 91 #[.slice A n cap, .slice B m cap'] w fun e w' => ∃ v, e = .returned v ∧ Below w.heap.size w w' ∧ OwnU w.heap.size w' v (digits (val l + val r)) := by
  have hcl := clen_le h.wf
  have hcr := clen_le h'.wf
  rw [hl] at hcl
  rw [hr] at hcr
  have H := Lib.hid h.cut
  have H' := Lib.hid h'.cut
  have Hl := Lib.hid hl; clear hl
  have Hr := Lib.hid hr; clear hr
  have Hh := Lib.hid h; clear h
  have Hh' := Lib.hid h'; clear h'
  go_enter Tryz.func91, Tryz.ntmps91
  go_upto_if 20 with (go_at_call 70; first | ((with_reducible refine (cut_any w A n cap l Hl.out hc (by omega) Hh.out).mono ?_); rintro e w' ⟨rfl, rfl⟩) | ((with_reducible refine (cut_any w B m cap' r Hr.out hc' (by omega) Hh'.out).mono ?_); rintro e w' ⟨rfl, rfl⟩))
  go_cut [5, 6] (fun x y wx => wx = w ∧ ∃ X Y : List Int, ∃ a c a' c', x = .slice a X.length c ∧ y = .slice a' Y.length c' ∧ Y.length ≤ X.length ∧ X.length ≤ c ∧ Y.length ≤ c' ∧ X.length ≤ 4294967296 ∧ RU w a X ∧ RU w a' Y ∧ val X + val Y = val l + val r)
  case first =>
    by_cases hlt : clen l < clen r
    · go_wp2
      go_meet
      exact ⟨rfl, digits (val r), digits (val l), B, cap', A, cap, rfl, rfl, by unfold clen at *; omega, by unfold clen at *; omega, by unfold clen at *; omega, by unfold clen at *; omega, H'.out, H.out, by rw [val_digits, val_digits]; omega⟩
    · go_wp2
      go_meet
      exact ⟨rfl, digits (val l), digits (val r), A, cap, B, cap', rfl, rfl, by unfold clen at *; omega, by unfold clen at *; omega, by unfold clen at *; omega, by unfold clen at *; omega, H.out, H'.out, by rw [val_digits, val_digits]⟩
  case rest =>
    obtain ⟨rfl, X, Y, a, c, a', c', rfl, rfl, hYX, hXc, hYc, hX, hx, hy, hv⟩ := hcut
    have Hv := Lib.hid hv; clear hv
    have Hx := Lib.hid hx; clear hx
    have Hy := Lib.hid hy; clear hy
    have hmk := run_makeU' ((X.length : Int) + 1) (X.length + 1) (by omega) (by omega)
    go_wp2
    have own0 := Lib.hid (own_madeU wc wc.heap.size (X.length + 1) (Nat.le_refl _) (by omega))
    clear hmk
    go_loopw [8, 29] (fun cy i wr => ∃ (k : Nat) (q : Int) (L : List Int), k ≤ X.length ∧ i = .int .i64 k ∧ cy = .int .u64 q ∧ 0 ≤ q ∧ q ≤ 1 ∧ L.length = X.length + 1 ∧
      OwnU wc.heap.size wr (.slice (some ⟨wc.heap.size, 0, none⟩) (X.length + 1) (X.length + 1)) L ∧ val (L.take k) + bB ^ k * q.toNat = val (X.take k) + val (Y.take k) ∧ Below wc.heap.size wc wr) (fun _ i _ => X.length - (intOf i).toNat)
    case atStart => exact ⟨0, 0, List.replicate (X.length + 1) 0, Nat.zero_le _, rfl, rfl, by omega, by omega, by simp, own0.out, by simp [val_nil], (Below.refl _ _).alloc (Nat.le_refl _) _⟩
    case round =>
      obtain ⟨k, q, L, hk, rfl, rfl, hq0, hq1, hL, hown, heq, hb⟩ := hrel
      have HL := Lib.hid hL; clear hL
      have Heq := Lib.hid heq; clear heq
      have Hown := Lib.hid hown; clear hown
      have Hb := Lib.hid hb; clear hb
      by_cases hlt : k < X.length
      · obtain ⟨hcell, hfr⟩ := Hown.out.at_ k (by rw [HL.out]; omega)
        obtain ⟨b, o, rfl, h1⟩ := (Hx.out.ext Hb.out).addr k hlt
        have b1 := Hx.out.wf.dg k
        by_cases hky : k < Y.length
        · obtain ⟨b', o', rfl, h2⟩ := (Hy.out.ext Hb.out).addr k hky
          have b2 := Hy.out.wf.dg k
          go_wp2
          go_roundw
          case rel =>
            refine ⟨k + 1, (dg X k + q + dg Y k) / 4294967296, L.set k ((dg X k + q + dg Y k) % 4294967296), by omega, by go_num, by first | rfl | go_num, by omega, by omega, by rw [List.length_set]; exact HL.out,
              Hown.out.store k (by omega) (by omega), ?_, Hb.out.setCell (Nat.le_refl _) _⟩
            rw [carry_step _ _ _ (by rw [HL.out]; omega) (by omega), val_take_succ, val_take_succ]
            have e : (dg X k + q + dg Y k).toNat = (dg X k).toNat + (dg Y k).toNat + q.toNat := by omega
            have := Heq.out
            rw [e, Nat.mul_add, Nat.mul_add]
            omega
          case measure => simp [intOf]; omega
        · have hd0 := dg_ge Y k (by omega)
          have Hd0 := Lib.hid hd0; clear hd0
          go_wp2
          go_roundw
          case rel =>
            refine ⟨k + 1, (dg X k + q) / 4294967296, L.set k ((dg X k + q) % 4294967296), by omega, by go_num, by first | rfl | go_num, by omega, by omega, by rw [List.length_set]; exact HL.out,
              Hown.out.store k (by omega) (by omega), ?_, Hb.out.setCell (Nat.le_refl _) _⟩
            rw [carry_step _ _ _ (by rw [HL.out]; omega) (by omega), val_take_succ, val_take_succ, Hd0.out, show (0 : Int).toNat = 0 from rfl, Nat.mul_zero]
            have e : (dg X k + q).toNat = (dg X k).toNat + q.toNat := by omega
            have := Heq.out
            rw [e, Nat.mul_add]
            omega
          case measure => simp [intOf]; omega
      · obtain rfl : k = X.length := by omega
        obtain ⟨hcell, hfr⟩ := Hown.out.at_ X.length (by rw [HL.out]; omega)
        have Hown' := Lib.hid (Hown.out.store X.length (x := q) (by omega) (by omega))
        have hlen := Lib.hid (show (L.set X.length q).length = X.length + 1 by rw [List.length_set]; exact HL.out)
        go_wp2_with (go_at_call 70; refine (cut_any _ _ _ _ (L.set X.length q) hlen.out (Nat.le_refl _) (by omega) Hown'.out.ru).mono ?_; rintro e w' ⟨rfl, rfl⟩)
        go_ret
        refine ⟨_, rfl, Hb.out.setCell (Nat.le_refl _) _, ?_⟩
        have hval : val (L.set X.length q) = val l + val r := by
          rw [carry_end L X.length q HL.out (by omega), Heq.out, val_take_all, val_take_ge Y _ hYX]
          exact Hv.out
        have hcut := Hown'.out.cut
        rw [hval] at hcut
        have e : clen (L.set X.length q) = (digits (val l + val r)).length := by unfold clen; rw [hval]
        show OwnU _ _ (.slice _ (clen (L.set X.length q)) _) _
        rw [e]
        exact hcut

set_option maxRecDepth 100000 in
set_option maxHeartbeats 1600000 in
theorem sub_any (w : World) (A B : Option Addr) (n cap m cap' : Nat) (l r : List Int) (hl : l.length = n) (hc : n ≤ cap) (hs : n ≤ 4294967296) (h : RU w A l)
    (hr : r.length = m) (hc' : m ≤ cap') (hs' : m ≤ 4294967296) (h' : RU w B r) :
    Calls Tryz.prog 92 #[.slice A n cap, .slice B m cap'] w fun e w' => ∃ v, e = .returned v ∧ Below w.heap.size w w' ∧ OwnU w.heap.size w' v (digits (val l - val r)) := by
  have hcl := clen_le h.wf
  have hcr := clen_le h'.wf
  rw [hl] at hcl
  rw [hr] at hcr
  have H := Lib.hid h.cut
  have H' := Lib.hid h'.cut
  have Hl := Lib.hid hl; clear hl
  have Hr := Lib.hid hr; clear hr
  have Hh := Lib.hid h; clear h
  have Hh' := Lib.hid h'; clear h'
  by_cases hle : val l ≤ val r
  · have hcm : cmpN (val l) (val r) ≤ 0 := by
      rcases Nat.lt_or_eq_of_le hle with h | h
      · rw [cmpN_lt h]; decide
      · rw [cmpN_eq h]; decide
    have hd : digits (val l - val r) = [] := by rw [Nat.sub_eq_zero_of_le hle, digits_zero]
    have Hd := Lib.hid hd; clear hd hle
    go_enter Tryz.func92, Tryz.ntmps92
    go_wp2_with (go_at_call 61; refine (compare_any w A B n cap m cap' l r Hl.out hc hs Hh.out Hr.out hc' hs' Hh'.out).mono ?_; rintro e w' ⟨rfl, hq⟩)
    go_ret
    exact ⟨_, rfl, Drew.below hq, by rw [Hd.out]; exact OwnU.nil _ _⟩
  · have hcm : 1 ≤ cmpN (val l) (val r) := by rw [cmpN_gt (by omega)]; decide
    have hlen : clen r ≤ clen l := by
      rcases Nat.lt_or_ge (clen l) (clen r) with hlt | hge
      · have := val_lt_of_shorter (Wf.digits (val l)) (Wf.digits (val r)) (norm_digits _) hlt
        rw [val_digits, val_digits] at this
        omega
      · exact hge
    have Hle := Lib.hid hle; clear hle
    go_enter Tryz.func92, Tryz.ntmps92
    go_wp2_with fail
    refine (compare_any w A B n cap m cap' l r Hl.out hc hs Hh.out Hr.out hc' hs' Hh'.out).mono ?_
    rintro e w1 ⟨rfl, hq⟩
    have Hq := Lib.hid (Drew.below hq); clear hq
    have Hx := Lib.hid (H.out.ext Hq.out); have Hy := Lib.hid (H'.out.ext Hq.out)
    have hcl2 : clen l ≤ 4294967296 := by omega
    have hmk := run_makeU (clen l) (by omega)
    go_wp2_with (go_at_call 70; first | ((with_reducible refine (cut_any _ A n cap l Hl.out hc (by omega) (Hh.out.ext Hq.out)).mono ?_); rintro e w' ⟨rfl, rfl⟩) | ((with_reducible refine (cut_any _ B m cap' r Hr.out hc' (by omega) (Hh'.out.ext Hq.out)).mono ?_); rintro e w' ⟨rfl, rfl⟩))
    have own0 := Lib.hid (own_madeU w1 w1.heap.size (clen l) (Nat.le_refl _) (by omega))
    clear hmk
    obtain ⟨X, hX⟩ : ∃ X, X = digits (val l) := ⟨_, rfl⟩
    obtain ⟨Y, hY⟩ : ∃ Y, Y = digits (val r) := ⟨_, rfl⟩
    have eX : X.length = clen l := by rw [hX]; rfl
    have eY : Y.length = clen r := by rw [hY]; rfl
    have Hx1 := Lib.hid (show RU w1 A X by rw [hX]; exact Hx.out)
    have Hy1 := Lib.hid (show RU w1 B Y by rw [hY]; exact Hy.out)
    have Hval := Lib.hid (show val X = val l ∧ val Y = val r by rw [hX, hY, val_digits, val_digits]; exact ⟨rfl, rfl⟩)
    have EX := Lib.hid eX; have EY := Lib.hid eY
    clear hX hY eX eY Hx Hy
    go_loopw [8, 25] (fun cy i wr => ∃ (k : Nat) (q : Int) (L : List Int), k ≤ clen l ∧ i = .int .i64 k ∧ cy = .int .u64 q ∧ 0 ≤ q ∧ q ≤ 1 ∧ L.length = clen l ∧
      OwnU w1.heap.size wr (.slice (some ⟨w1.heap.size, 0, none⟩) (clen l) (clen l)) L ∧ val (L.take k) + val (Y.take k) = val (X.take k) + bB ^ k * q.toNat ∧ Below w1.heap.size w1 wr) (fun _ i _ => clen l - (intOf i).toNat)
    case atStart => exact ⟨0, 0, List.replicate (clen l) 0, Nat.zero_le _, rfl, rfl, by omega, by omega, by simp, own0.out, by simp [val_nil], (Below.refl _ _).alloc (Nat.le_refl _) _⟩
    case round =>
      obtain ⟨k, q, L, hk, rfl, rfl, hq0, hq1, hL, hown, heq, hb⟩ := hrel
      have HL := Lib.hid hL; clear hL
      have Heq := Lib.hid heq; clear heq
      have Hown := Lib.hid hown; clear hown
      have Hb := Lib.hid hb; clear hb
      by_cases hlt : k < clen l
      · obtain ⟨hcell, hfr⟩ := Hown.out.at_ k (by rw [HL.out]; omega)
        obtain ⟨b, o, rfl, h1⟩ := (Hx1.out.ext Hb.out).addr k (by rw [EX.out]; omega)
        have b1 := Hx1.out.wf.dg k
        by_cases hky : k < clen r
        · obtain ⟨b', o', rfl, h2⟩ := (Hy1.out.ext Hb.out).addr k (by rw [EY.out]; omega)
          have b2 := Hy1.out.wf.dg k
          obtain ⟨d, bb, e1, e2, hd0, hd1, hb0, hb1, hsum⟩ := borrow_step (dg X k) (dg Y k) q b1.1 b1.2 b2.1 b2.2 hq0 hq1
          have E1 := Lib.hid e1; have E2 := Lib.hid e2; clear e1 e2
          go_wp2
          rw [E1.out, E2.out]
          go_roundw
          case rel =>
            refine ⟨k + 1, bb, L.set k d, by omega, by go_num, rfl, hb0, hb1, by rw [List.length_set]; exact HL.out, Hown.out.store k hd0 hd1, ?_, Hb.out.setCell (Nat.le_refl _) _⟩
            rw [val_set_take _ _ _ (by rw [HL.out]; omega), val_take_succ, val_take_succ, Nat.pow_succ, Nat.mul_assoc]
            have h3 : bB ^ k * ((dg X k).toNat + bB * bb.toNat) = bB ^ k * ((dg Y k).toNat + q.toNat + d.toNat) := by rw [bB_eq, hsum]
            have := Heq.out
            rw [Nat.mul_add, Nat.mul_add, Nat.mul_add] at h3
            omega
          case measure => simp [intOf]; omega
        · have hd0 := dg_ge Y k (by rw [EY.out]; omega)
          have Hd0 := Lib.hid hd0; clear hd0
          obtain ⟨d, bb, e1, e2, hd0, hd1, hb0, hb1, hsum⟩ := borrow_step0 (dg X k) q b1.1 b1.2 hq0 hq1
          have E1 := Lib.hid e1; have E2 := Lib.hid e2; clear e1 e2
          go_wp2
          rw [E1.out, E2.out]
          go_roundw
          case rel =>
            refine ⟨k + 1, bb, L.set k d, by omega, by go_num, rfl, hb0, hb1, by rw [List.length_set]; exact HL.out, Hown.out.store k hd0 hd1, ?_, Hb.out.setCell (Nat.le_refl _) _⟩
            rw [val_set_take _ _ _ (by rw [HL.out]; omega), val_take_succ, val_take_succ, Hd0.out, show (0 : Int).toNat = 0 from rfl, Nat.mul_zero, Nat.pow_succ, Nat.mul_assoc]
            have h3 : bB ^ k * ((dg X k).toNat + bB * bb.toNat) = bB ^ k * (q.toNat + d.toNat) := by rw [bB_eq, hsum]
            have := Heq.out
            rw [Nat.mul_add, Nat.mul_add] at h3
            omega
          case measure => simp [intOf]; omega
      · obtain rfl : k = clen l := by omega
        go_wp2_with (go_at_call 70; refine (cut_any _ _ _ _ L HL.out (Nat.le_refl _) (by omega) Hown.out.ru).mono ?_; rintro e w' ⟨rfl, rfl⟩)
        go_ret
        have hval : val L = val l - val r := by
          have h1 := Heq.out
          rw [← EX.out, val_take_all, val_take_ge L _ (by rw [HL.out, EX.out]; omega), val_take_ge Y _ (by rw [EX.out, EY.out]; exact hlen), Hval.out.1, Hval.out.2] at h1
          have h2 := val_lt Hown.out.2
          have h3 := Hle.out
          have h4 : q.toNat = 0 := by
            rcases Nat.eq_zero_or_pos q.toNat with h | h
            · exact h
            · exfalso
              have h5 : bB ^ X.length ≤ bB ^ X.length * q.toNat := Nat.le_mul_of_pos_right _ h
              rw [HL.out, ← EX.out] at h2
              have h6 := val_lt (l := Y) Hy1.out.wf
              have h7 : bB ^ Y.length ≤ bB ^ X.length := Nat.pow_le_pow_right bB_pos (by rw [EX.out, EY.out]; exact hlen)
              have h8 := Hval.out
              omega
          rw [h4] at h1
          omega
        refine ⟨_, rfl, bnext Hq.out Hb.out, ?_⟩
        have hcut := Hown.out.cut
        rw [hval] at hcut
        have e : clen L = (digits (val l - val r)).length := by unfold clen; rw [hval]
        show OwnU _ _ (.slice _ (clen L) _) _
        rw [e]
        exact hcut.mono Hq.out.size
end Go.Proofs.YtckiojofncdoeaaGreatDoor
