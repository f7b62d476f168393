/- nat: power, Pow. -/
import Derived.Test.YtckiojofncdoeaaGreatDoorNatI
namespace Go.Proofs.YtckiojofncdoeaaGreatDoor
open Go.RowKit

theorem digits_pow_length (a len i : Nat) (h : (digits a).length ≤ len) : (digits (a ^ i)).length ≤ len * i + 1 := by
  refine digits_length_le ?_
  have h1 : a < bB ^ len := by
    have := val_lt (Wf.digits a)
    rw [val_digits] at this
    exact Nat.lt_of_lt_of_le this (Nat.pow_le_pow_right bB_pos h)
  have h2 : a ^ i ≤ (bB ^ len) ^ i := Nat.pow_le_pow_left (Nat.le_of_lt h1) i
  rw [← Nat.pow_mul] at h2
  refine Nat.lt_of_le_of_lt h2 ?_
  rw [Nat.pow_succ]
  have := Nat.pow_pos (n := len * i) bB_pos
  rw [bB_eq] at *
  omega
theorem mul_le_of_half {i k n : Nat} (h : i * k ≤ n) (hk : 1 ≤ k) : i ≤ n := Nat.le_trans (Nat.le_mul_of_pos_right i hk) h

theorem power_any (w : World) (A : Option Addr) (n cap k0 : Nat) (l : List Int) (hl : l.length = n) (hc : n ≤ cap) (hs : n * k0 + 1 ≤ 1073741824) (hn : n ≤ 1073741824) (hk0 : k0 ≤ 64) (h : RU w A l) :
    Calls Tryz.prog 86 #[.slice A n cap, .int .i64 k0] w fun e w' => ∃ v, e = .returned v ∧ Below w.heap.size w w' ∧ OwnU w.heap.size w' v (digits (val l ^ k0)) := by
  obtain ⟨a, ha⟩ : ∃ a, a = val l := ⟨_, rfl⟩
  have hla : (digits a).length ≤ n := by rw [ha, ← hl]; exact digits_length_val h.wf
  have Hv := Lib.hid (RV.of hl hc h)
  have Ha := Lib.hid ha; clear ha
  have Hln := Lib.hid (show l.length ≤ 1073741824 by omega)
  clear hl h
  rw [← Ha.out]
  have hlp : ∀ i, i ≤ k0 → (digits (a ^ i)).length ≤ 1073741824 := fun i hi => by
    have h1 := digits_pow_length a n i hla
    have h2 : n * i ≤ n * k0 := Nat.mul_le_mul_left _ hi
    omega
  have Hlp := Lib.hid hlp; clear hlp
  go_enter Tryz.func86, Tryz.ntmps86
  go_wp2_with fail
  have Hlit := Lib.hid (own_litU w w.heap.size [(1 : Int)] (Wf.one (by omega) (by omega)) (Nat.le_refl _) (by simp))
  have hd1 : digits 1 = [(1 : Int)] := digits_one (by decide) (by decide)
  go_loopw [0, 1, 5] (fun x k r wr => ∃ (X : List Int) (i j t : Nat), RV wr x X ∧ X.length ≤ 1073741824 ∧ val X = a ^ i ∧ k = .int .i64 t ∧ t ≤ 64 ∧ OwnU w.heap.size wr r (digits (a ^ j)) ∧ i * t + j = k0 ∧ Below w.heap.size w wr) (fun _ k _ _ => (intOf k).toNat)
  case atStart => exact ⟨l, 1, 0, k0, Hv.out.ext ((Below.refl _ _).alloc (Nat.le_refl _) _), Hln.out, by rw [Nat.pow_one, Ha.out], rfl, hk0, by rw [Nat.pow_zero, hd1]; exact Hlit.out, by omega, (Below.refl _ _).alloc (Nat.le_refl _) _⟩
  case round =>
    obtain ⟨X, i, j, t, hx, hX, hvx, rfl, ht, hor, hij, hbl⟩ := hrel
    obtain ⟨A1, c1, rfl, hc1, hx1⟩ := hx
    obtain ⟨A2, c2, rfl, hc2, hx2⟩ := hor.rv
    have Hx1 := Lib.hid hx1; have Hx2 := Lib.hid hx2; have Hor := Lib.hid hor; have Hbl := Lib.hid hbl; have Hvx := Lib.hid hvx; have Hij := Lib.hid hij
    clear hx1 hx2 hor hbl hvx hd1 hij
    by_cases ht0 : t = 0
    · subst ht0
      go_wp2_with fail
      go_ret
      refine ⟨_, rfl, Hbl.out, ?_⟩
      have e := Hij.out
      rw [Nat.mul_zero, Nat.zero_add] at e
      rw [← e]
      exact Hor.out
    · have hjk : j ≤ k0 := by rw [← Hij.out]; exact Nat.le_add_left _ _
      have hlj := Hlp.out j hjk
      obtain ⟨u, hu⟩ : ∃ u, u = t / 2 := ⟨_, rfl⟩
      have hdv : (t : Int) / 2 = (u : Int) := by omega
      have Hdv := Lib.hid hdv; clear hdv
      rcases Nat.mod_two_eq_zero_or_one t with hp | hp
      · have hpb : ((t : Int) % 2 == 1) = false := by simp; omega
        have hij2 : (i + i) * u + j = k0 := by rw [← Hij.out, show t = u + u from by omega, Nat.add_mul, Nat.mul_add]
        have h2 : i + i ≤ k0 := mul_le_of_half (by rw [← hij2]; exact Nat.le_add_right _ _) (show 1 ≤ u by omega)
        have Hij2 := Lib.hid hij2; clear hij2
        have h2t : 2 ≤ t := by omega
        have hut : u < t := by omega
        clear hp ht0 hu
        go_wp2_with fail
        refine (mul_any wr A1 A1 _ c1 _ c1 X X rfl hc1 (by omega) Hx1.out rfl hc1 (by omega) Hx1.out).mono ?_
        rintro e w1 ⟨v, rfl, hb1, ho1⟩
        rw [Hvx.out, ← Nat.pow_add] at ho1
        go_wp2_with fail
        go_roundw
        case rel =>
          exact ⟨digits (a ^ (i + i)), i + i, j, u, ho1.rv, Hlp.out _ h2, val_digits _, by rw [Hdv.out], by omega, Hor.out.ext hb1, Hij2.out, bthen Hbl.out hb1 Hbl.out.size⟩
        case measure => simp [intOf]; omega
      · have hpb : ((t : Int) % 2 == 1) = true := by simp; omega
        have hij2 : (i + i) * u + (j + i) = k0 := by rw [← Hij.out, show t = u + u + 1 from by omega, Nat.add_mul, Nat.mul_add, Nat.mul_add]; omega
        have h1t : 1 ≤ t := by omega
        have hut : u < t := by omega
        have htu : t = u + u + 1 := by omega
        have hji : j + i ≤ k0 := by rw [← hij2]; exact Nat.le_add_left _ _
        have h2 : 1 ≤ u → i + i ≤ k0 := fun h => mul_le_of_half (by rw [← hij2]; exact Nat.le_add_right _ _) h
        have Hij2 := Lib.hid hij2; clear hij2
        have Htu := Lib.hid htu
        clear hp ht0 hu htu
        go_wp2_with fail
        refine (mul_any wr A2 A1 _ c2 _ c1 (digits (a ^ j)) X rfl hc2 (by omega) Hx2.out rfl hc1 (by omega) Hx1.out).mono ?_
        rintro e w1 ⟨v, rfl, hb1, ho1⟩
        rw [val_digits, Hvx.out, ← Nat.pow_add] at ho1
        have Ho1 := Lib.hid ho1; have Hbl1 := Lib.hid (bthen Hbl.out hb1 Hbl.out.size); have Hx3 := Lib.hid (Hx1.out.ext hb1)
        have Ho2 := Lib.hid (ho1.mono Hbl.out.size)
        clear ho1 hb1 Hor Ho1
        by_cases hu0 : u = 0
        · have ht1 : t ≤ 1 := by have := Htu.out; omega
          go_wp2_with fail
          go_roundw
          case rel =>
            exact ⟨X, i, j + i, u, ⟨A1, c1, rfl, hc1, Hx3.out⟩, hX, Hvx.out, by rw [Hdv.out], by omega, Ho2.out, by rw [← Hij2.out, hu0, Nat.mul_zero, Nat.mul_zero], Hbl1.out⟩
          case measure => simp [intOf]; omega
        · have ht2 : 2 ≤ t := by have := Htu.out; omega
          have h3 := h2 (by omega)
          go_wp2_with fail
          refine (mul_any w1 A1 A1 _ c1 _ c1 X X rfl hc1 (by omega) Hx3.out rfl hc1 (by omega) Hx3.out).mono ?_
          rintro e w2 ⟨v2, rfl, hb2, ho2⟩
          rw [Hvx.out, ← Nat.pow_add] at ho2
          go_wp2_with fail
          go_roundw
          case rel =>
            exact ⟨digits (a ^ (i + i)), i + i, j + i, u, ho2.rv, Hlp.out _ h3, val_digits _, by rw [Hdv.out], by omega, Ho2.out.ext hb2, Hij2.out, bthen Hbl1.out hb2 Hbl1.out.size⟩
          case measure => simp [intOf]; omega

theorem pow_any (w : World) (A : Option Addr) (n cap k0 : Nat) (l : List Int) (hl : l.length = n) (hc : n ≤ cap) (hs : n * k0 + 1 ≤ 1073741824) (hn : n ≤ 1073741824) (hk0 : k0 ≤ 64) (h : RU w A l) :
    Calls Tryz.prog 51 #[.slice A n cap, .int .i64 k0] w fun e w' => ∃ v, e = .returned (.tuple #[v, .int .i64 0]) ∧ Below w.heap.size w w' ∧ OwnU w.heap.size w' v (digits (val l ^ k0)) := by
  go_enter Tryz.func51, Tryz.ntmps51
  have Hl := Lib.hid hl; clear hl
  have Hh := Lib.hid h; clear h
  go_wp2_with fail
  refine (power_any w A n cap k0 l Hl.out hc hs hn hk0 Hh.out).mono ?_
  rintro e w1 ⟨v, rfl, hb, ho⟩
  go_wp2_with fail
  go_ret2
  exact ⟨_, rfl, hb, ho⟩
end Go.Proofs.YtckiojofncdoeaaGreatDoor
