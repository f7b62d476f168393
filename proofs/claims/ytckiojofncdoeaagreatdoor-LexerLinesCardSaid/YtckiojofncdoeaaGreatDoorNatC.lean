/- nat: Mul, small. -/
import Derived.Test.YtckiojofncdoeaaGreatDoorNatB
namespace Go.Proofs.YtckiojofncdoeaaGreatDoor
open Go.RowKit

theorem mul_bound {x y : Int} (hx0 : 0 ≤ x) (hx : x < 4294967296) (hy0 : 0 ≤ y) (hy : y < 4294967296) : 0 ≤ x * y ∧ x * y ≤ 18446744065119617025 := by
  refine ⟨Int.mul_nonneg hx0 hy0, ?_⟩
  have h : x * y ≤ 4294967295 * 4294967295 := Int.mul_le_mul (by omega) (by omega) hy0 (by omega)
  omega
/-- the step of a product's row -/
theorem mul_step (P : List Int) (i j : Nat) (x y c : Int) (hk : i + j < P.length) (hp : 0 ≤ dg P (i + j)) (hx0 : 0 ≤ x) (hy0 : 0 ≤ y) (hc : 0 ≤ c) :
    val (P.set (i + j) ((x * y + dg P (i + j) + c) % 4294967296)) + bB ^ (i + (j + 1)) * ((x * y + dg P (i + j) + c) / 4294967296).toNat = val P + bB ^ (i + j) * c.toNat + bB ^ i * (bB ^ j * (x.toNat * y.toNat)) := by
  have h1 := val_set P (i + j) ((x * y + dg P (i + j) + c) % 4294967296) hk
  have hxy : (x * y).toNat = x.toNat * y.toNat := by rw [Int.toNat_mul hx0 hy0]
  have hxy0 := Int.mul_nonneg hx0 hy0
  have h2 : ((x * y + dg P (i + j) + c) % 4294967296).toNat + bB * ((x * y + dg P (i + j) + c) / 4294967296).toNat = x.toNat * y.toNat + (dg P (i + j)).toNat + c.toNat := by rw [← hxy, bB_eq]; omega
  have h3 : bB ^ (i + j) * (((x * y + dg P (i + j) + c) % 4294967296).toNat + bB * ((x * y + dg P (i + j) + c) / 4294967296).toNat) = bB ^ (i + j) * (x.toNat * y.toNat + (dg P (i + j)).toNat + c.toNat) := by rw [h2]
  rw [show i + (j + 1) = (i + j) + 1 from by omega, Nat.pow_succ, Nat.mul_assoc, ← Nat.mul_assoc (bB ^ i), ← Nat.pow_add]
  rw [Nat.mul_add, Nat.mul_add, Nat.mul_add] at h3
  omega

set_option maxRecDepth 100000 in
set_option maxHeartbeats 3200000 in
theorem mul_any (w : World) (A B : Option Addr) (n cap m cap' : Nat) (l r : List Int) (hl : l.length = n) (hc : n ≤ cap) (hs : n ≤ 4294967296) (h : RU w A l)
    (hr : r.length = m) (hc' : m ≤ cap') (hs' : m ≤ 4294967296) (h' : RU w B r) :
    Calls Tryz.prog 62 #[.slice A n cap, .slice B m cap'] w fun e w' => ∃ v, e = .returned v ∧ Below w.heap.size w w' ∧ OwnU w.heap.size w' v (digits (val l * val r)) := by
  have hcl := clen_le h.wf
  have hcr := clen_le h'.wf
  rw [hl] at hcl
  rw [hr] at hcr
  have H := Lib.hid h.cut
  have H' := Lib.hid h'.cut
  have Hl := Lib.hid hl; clear hl
  have Hr := Lib.hid hr; clear hr
  have Hh := Lib.hid h; clear h
  have Hh' := Lib.hid h'; clear h'
  by_cases hz : clen l = 0 ∨ clen r = 0
  · have hd : digits (val l * val r) = [] := by
      have : val l * val r = 0 := by
        rcases hz with h | h
        · rw [(digits_nil_iff _).1 h, Nat.zero_mul]
        · rw [(digits_nil_iff _).1 h, Nat.mul_zero]
      rw [this, digits_zero]
    have Hd := Lib.hid hd; clear hd
    by_cases hz1 : clen l = 0
    · have hb1 : ((clen l : Int) == 0) = true := by simp; omega
      clear hz hz1
      go_enter Tryz.func62, Tryz.ntmps62
      go_wp2_with (go_at_call 70; first | ((with_reducible refine (cut_any w A n cap l Hl.out hc (by omega) Hh.out).mono ?_); rintro e w' ⟨rfl, rfl⟩) | ((with_reducible refine (cut_any w B m cap' r Hr.out hc' (by omega) Hh'.out).mono ?_); rintro e w' ⟨rfl, rfl⟩))
      go_ret
      exact ⟨_, rfl, Below.refl _ _, by rw [Hd.out]; exact OwnU.nil _ _⟩
    · have hb1 : ((clen l : Int) == 0) = false := by simp; omega
      have hb2 : ((clen r : Int) == 0) = true := by simp; omega
      clear hz hz1
      go_enter Tryz.func62, Tryz.ntmps62
      go_wp2_with (go_at_call 70; first | ((with_reducible refine (cut_any w A n cap l Hl.out hc (by omega) Hh.out).mono ?_); rintro e w' ⟨rfl, rfl⟩) | ((with_reducible refine (cut_any w B m cap' r Hr.out hc' (by omega) Hh'.out).mono ?_); rintro e w' ⟨rfl, rfl⟩))
      go_ret
      exact ⟨_, rfl, Below.refl _ _, by rw [Hd.out]; exact OwnU.nil _ _⟩
  · have hb1 : ((clen l : Int) == 0) = false := by simp; omega
    have hb2 : ((clen r : Int) == 0) = false := by simp; omega
    clear hz
    have hmk := run_makeU' ((clen l : Int) + (clen r : Int)) (clen l + clen r) (by omega) (by omega)
    go_enter Tryz.func62, Tryz.ntmps62
    go_wp2_with (go_at_call 70; first | ((with_reducible refine (cut_any w A n cap l Hl.out hc (by omega) Hh.out).mono ?_); rintro e w' ⟨rfl, rfl⟩) | ((with_reducible refine (cut_any w B m cap' r Hr.out hc' (by omega) Hh'.out).mono ?_); rintro e w' ⟨rfl, rfl⟩))
    have own0 := Lib.hid (own_madeU w w.heap.size (clen l + clen r) (Nat.le_refl _) (by omega))
    clear hmk
    obtain ⟨X, hX⟩ : ∃ X, X = digits (val l) := ⟨_, rfl⟩
    obtain ⟨Y, hY⟩ : ∃ Y, Y = digits (val r) := ⟨_, rfl⟩
    have EX := Lib.hid (show X.length = clen l by rw [hX]; rfl)
    have EY := Lib.hid (show Y.length = clen r by rw [hY]; rfl)
    have Hx := Lib.hid (show RU w A X by rw [hX]; exact H.out)
    have Hy := Lib.hid (show RU w B Y by rw [hY]; exact H'.out)
    have Hval := Lib.hid (show val X = val l ∧ val Y = val r by rw [hX, hY, val_digits, val_digits]; exact ⟨rfl, rfl⟩)
    clear hX hY
    go_loopw [34] (fun i wr => ∃ (k : Nat) (L : List Int), k ≤ clen l ∧ i = .int .i64 k ∧ L.length = clen l + clen r ∧
      OwnU w.heap.size wr (.slice (some ⟨w.heap.size, 0, none⟩) (clen l + clen r) (clen l + clen r)) L ∧ (∀ j, k + clen r ≤ j → dg L j = 0) ∧ val L = val (X.take k) * val Y ∧ Below w.heap.size w wr) (fun i _ => clen l - (intOf i).toNat)
    case atStart => exact ⟨0, List.replicate (clen l + clen r) 0, Nat.zero_le _, rfl, by simp, own0.out, fun j _ => dg_replicate _ j, by simp [val_nil, val_zeros], (Below.refl _ _).alloc (Nat.le_refl _) _⟩
    case round =>
      obtain ⟨k, L, hk, rfl, hL, hown, hz, heq, hb⟩ := hrel
      have HL := Lib.hid hL; clear hL
      have Heq := Lib.hid heq; clear heq
      have Hown := Lib.hid hown; clear hown
      have Hb := Lib.hid hb; clear hb
      have Hz := Lib.hid hz; clear hz
      by_cases hlt : k < clen l
      · obtain ⟨b, o, rfl, h1⟩ := (Hx.out.ext Hb.out).addr k (by rw [EX.out]; omega)
        have b1 := Hx.out.wf.dg k
        by_cases hd0 : dg X k = 0
        · have hdb : (dg X k == 0) = true := by simpa using hd0
          have Hd0 := Lib.hid hd0; clear hd0
          go_wp2
          go_roundw
          case rel => exact ⟨k + 1, L, by omega, by go_num, HL.out, Hown.out, fun j hj => Hz.out j (by omega), by rw [val_take_succ, Hd0.out, show (0 : Int).toNat = 0 from rfl, Nat.mul_zero, Nat.add_zero]; exact Heq.out, Hb.out⟩
          case measure => simp [intOf]; omega
        · have hdb : (dg X k == 0) = false := by simpa using hd0
          clear hd0
          go_wp2
          go_loopw [10, 43] (fun cy j wr => ∃ (t : Nat) (q : Int) (P : List Int), t ≤ clen r ∧ j = .int .i64 t ∧ cy = .int .u64 q ∧ 0 ≤ q ∧ q ≤ 4294967295 ∧ P.length = clen l + clen r ∧
            OwnU w.heap.size wr (.slice (some ⟨w.heap.size, 0, none⟩) (clen l + clen r) (clen l + clen r)) P ∧ (∀ j, k + clen r ≤ j → dg P j = 0) ∧
            val P + bB ^ (k + t) * q.toNat = val (X.take k) * val Y + bB ^ k * ((dg X k).toNat * val (Y.take t)) ∧ Below w.heap.size w wr) (fun _ j _ => clen r - (intOf j).toNat)
          case atStart => exact ⟨0, 0, L, Nat.zero_le _, rfl, rfl, by omega, by omega, HL.out, Hown.out, Hz.out, by simp [val_nil, Heq.out], Hb.out⟩
          case round =>
            obtain ⟨t, q, P, ht, rfl, rfl, hq0, hq1, hP, hown, hz, heq, hb⟩ := hrel
            clear HL Heq Hown Hb Hz h1
            have HP := Lib.hid hP; clear hP
            have Heq := Lib.hid heq; clear heq
            have Hown := Lib.hid hown; clear hown
            have Hb := Lib.hid hb; clear hb
            have Hz := Lib.hid hz; clear hz
            by_cases htl : t < clen r
            · obtain ⟨b', o', rfl, h2⟩ := (Hy.out.ext Hb.out).addr t (by rw [EY.out]; omega)
              have b2 := Hy.out.wf.dg t
              obtain ⟨hcell, hfr⟩ := Hown.out.at_ (k + t) (by rw [HP.out]; omega)
              have b3 := Hown.out.2.dg (k + t)
              have b4 := mul_bound b1.1 b1.2 b2.1 b2.2
              go_wp2
              go_roundw
              case rel =>
                refine ⟨t + 1, (dg X k * dg Y t + dg P (k + t) + q) / 4294967296, P.set (k + t) ((dg X k * dg Y t + dg P (k + t) + q) % 4294967296), by omega, by go_num, by first | rfl | go_num, by omega, by omega, by rw [List.length_set]; exact HP.out,
                  Hown.out.store (k + t) (by omega) (by omega), fun j hj => by rw [dg_set_other _ _ _ _ (by omega)]; exact Hz.out j hj, ?_, Hb.out.setCell (Nat.le_refl _) _⟩
                rw [mul_step P k t _ _ _ (by rw [HP.out]; omega) b3.1 b1.1 b2.1 hq0, Heq.out, val_take_succ, Nat.mul_add (dg X k).toNat, Nat.mul_left_comm (dg X k).toNat (bB ^ t), Nat.mul_add (bB ^ k), Nat.add_assoc]
              case measure => simp [intOf]; omega
            · obtain rfl : t = clen r := by omega
              obtain ⟨hcell, hfr⟩ := Hown.out.at_ (k + clen r) (by rw [HP.out]; omega)
              go_wp2
              go_roundw
              case rel =>
                refine ⟨k + 1, P.set (k + clen r) q, by omega, by go_num, by rw [List.length_set]; exact HP.out, Hown.out.store (k + clen r) hq0 (by omega), fun j hj => ?_, ?_, Hb.out.setCell (Nat.le_refl _) _⟩
                · rw [dg_set_other _ _ _ _ (by omega)]; exact Hz.out j (by omega)
                · have h3 := val_set P (k + clen r) q (by rw [HP.out]; omega)
                  rw [Hz.out (k + clen r) (Nat.le_refl _), show (0 : Int).toNat = 0 from rfl, Nat.mul_zero, Nat.add_zero] at h3
                  rw [h3, Heq.out, val_take_succ, Nat.add_mul, ← EY.out, val_take_all, Nat.mul_assoc]
              case measure => simp [intOf]; omega
      · obtain rfl : k = clen l := by omega
        go_wp2_with (go_at_call 70; refine (cut_any _ _ _ _ L HL.out (Nat.le_refl _) (by omega) Hown.out.ru).mono ?_; rintro e w' ⟨rfl, rfl⟩)
        go_ret
        have hval : val L = val l * val r := by
          have h1 := Heq.out
          rwa [← EX.out, val_take_all, Hval.out.1, Hval.out.2] at h1
        refine ⟨_, rfl, Hb.out, ?_⟩
        have hcut := Hown.out.cut
        rw [hval] at hcut
        have e : clen L = (digits (val l * val r)).length := by unfold clen; rw [hval]
        show OwnU _ _ (.slice _ (clen L) _) _
        rw [e]
        exact hcut
end Go.Proofs.YtckiojofncdoeaaGreatDoor
