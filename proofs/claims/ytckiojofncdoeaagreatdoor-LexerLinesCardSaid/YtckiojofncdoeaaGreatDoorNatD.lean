/- nat: lift, lower, small. -/
import Derived.Test.YtckiojofncdoeaaGreatDoorNatC
namespace Go.Proofs.YtckiojofncdoeaaGreatDoor
open Go.RowKit

set_option maxRecDepth 100000 in
set_option maxHeartbeats 1600000 in
theorem lift_any (w : World) (A : Option Addr) (n cap : Nat) (l : List Int) (s m : Nat) (hl : l.length = n) (hc : n ≤ cap) (hs : n ≤ 4294967296) (h : RU w A l) (hsh : s < 32) (hm : m = n ∨ m = n + 1) (hfit : val l * 2 ^ s < bB ^ m) :
    Calls Tryz.prog 120 #[.slice A n cap, .int .u64 s, .int .i64 m] w fun e w' => ∃ v L, e = .returned v ∧ Below w.heap.size w w' ∧ OwnU w.heap.size w' v L ∧ L.length = m ∧ val L = val l * 2 ^ s := by
  have Hl := Lib.hid hl; clear hl
  have Hh := Lib.hid h; clear h
  have Hfit := Lib.hid hfit; clear hfit
  have hm2 : n ≤ m ∧ m ≤ n + 1 := by omega
  have Hm := Lib.hid hm; clear hm
  have hmk := run_makeU m (by omega)
  go_enter Tryz.func120, Tryz.ntmps120
  go_wp2
  have own0 := Lib.hid (own_madeU w w.heap.size m (Nat.le_refl _) (by omega))
  clear hmk
  go_loopw [8, 15] (fun lo i wr => ∃ (k : Nat) (q : Int) (L : List Int), k ≤ n ∧ i = .int .i64 k ∧ lo = .int .u32 q ∧ 0 ≤ q ∧ q < 2 ^ s ∧ L.length = m ∧
      OwnU w.heap.size wr (.slice (some ⟨w.heap.size, 0, none⟩) m m) L ∧ (∀ j, k ≤ j → dg L j = 0) ∧ val (L.take k) + bB ^ k * q.toNat = val (l.take k) * 2 ^ s ∧ Below w.heap.size w wr) (fun _ i _ => n - (intOf i).toNat)
  case atStart => exact ⟨0, 0, List.replicate m 0, Nat.zero_le _, rfl, rfl, by omega, by exact_mod_cast Nat.two_pow_pos s, by simp, own0.out, fun j _ => dg_replicate _ j, by simp [val_nil], (Below.refl _ _).alloc (Nat.le_refl _) _⟩
  case round =>
    obtain ⟨k, q, L, hk, rfl, rfl, hq0, hq1, hL, hown, hz, heq, hb⟩ := hrel
    have HL := Lib.hid hL; clear hL
    have Heq := Lib.hid heq; clear heq
    have Hown := Lib.hid hown; clear hown
    have Hb := Lib.hid hb; clear hb
    have Hz := Lib.hid hz; clear hz
    have Hq1 := Lib.hid hq1; clear hq1
    by_cases hlt : k < n
    · obtain ⟨hcell, hfr⟩ := Hown.out.at_ k (by rw [HL.out]; omega)
      obtain ⟨b, o, rfl, h1⟩ := (Hh.out.ext Hb.out).addr k (by rw [Hl.out]; omega)
      have b1 := Hh.out.wf.dg k
      obtain ⟨x, c, e1, e2, hx0, hx1, hc0, hc1, hsum⟩ := lift_step (dg l k) q s hsh b1.1 b1.2 hq0 Hq1.out
      have E1 := Lib.hid e1; have E2 := Lib.hid e2; have Hc1 := Lib.hid hc1; have Hsum := Lib.hid hsum; clear e1 e2 hc1 hsum
      go_wp2
      rw [E1.out, E2.out]
      go_roundw
      case rel =>
        refine ⟨k + 1, c, L.set k x, by omega, by go_num, rfl, hc0, Hc1.out, by rw [List.length_set]; exact HL.out, Hown.out.store k hx0 hx1, fun j hj => by rw [dg_set_other _ _ _ _ (by omega)]; exact Hz.out j (by omega), ?_, Hb.out.setCell (Nat.le_refl _) _⟩
        rw [val_set_take _ _ _ (by rw [HL.out]; omega), val_take_succ, Nat.pow_succ, Nat.mul_assoc, Nat.add_mul, Nat.mul_assoc]
        have h3 : bB ^ k * (x.toNat + bB * c.toNat) = bB ^ k * ((dg l k).toNat * 2 ^ s + q.toNat) := by rw [Hsum.out]
        have := Heq.out
        rw [Nat.mul_add, Nat.mul_add] at h3
        omega
      case measure => simp [intOf]; omega
    · obtain rfl : k = n := by omega
      have hval : val (L.take k) + bB ^ k * q.toNat = val l * 2 ^ s := by have := Heq.out; rwa [val_take_ge l k (Nat.le_of_eq Hl.out)] at this
      have Hval := Lib.hid hval; clear hval
      by_cases hmk : k < m
      · obtain ⟨hcell, hfr⟩ := Hown.out.at_ k (by rw [HL.out]; omega)
        have hq2 : q < 4294967296 := by
          have h1 := Hq1.out
          have h2 := pow_lt_of s hsh
          have h3 : ((2 ^ s : Nat) : Int) = (2 : Int) ^ s := by push_cast; rfl
          omega
        go_wp2
        go_ret
        refine ⟨_, L.set k q, rfl, Hb.out.setCell (Nat.le_refl _) _, Hown.out.store k hq0 hq2, by rw [List.length_set]; exact HL.out, ?_⟩
        have hm1 : m = k + 1 := by rcases Hm.out with h | h <;> omega
        rw [carry_end L k q (by rw [HL.out]; exact hm1) hq0]
        exact Hval.out
      · go_wp2
        go_ret
        have hmk' : m = k := by omega
        refine ⟨_, L, rfl, Hb.out, Hown.out, HL.out, ?_⟩
        have h1 := Hval.out
        rw [val_take_ge L k (by rw [HL.out]; omega)] at h1
        have h2 := Hfit.out
        rw [hmk'] at h2
        have h4 : q.toNat = 0 := by
          rcases Nat.eq_zero_or_pos q.toNat with h | h
          · exact h
          · have : bB ^ k ≤ bB ^ k * q.toNat := Nat.le_mul_of_pos_right _ h
            omega
        rw [h4] at h1
        omega

set_option maxRecDepth 100000 in
set_option maxHeartbeats 1600000 in
theorem lower_any (w : World) (A : Option Addr) (n cap : Nat) (l : List Int) (s : Nat) (hl : l.length = n) (hs : n ≤ 4294967296) (h : RU w A l) (hsh : s < 32) :
    Calls Tryz.prog 122 #[.slice A n cap, .int .u64 s] w fun e w' => ∃ v L, e = .returned v ∧ Below w.heap.size w w' ∧ OwnU w.heap.size w' v L ∧ L.length = n ∧ val L = val l / 2 ^ s := by
  have Hl := Lib.hid hl; clear hl
  have Hh := Lib.hid h; clear h
  have hmk := run_makeU n (by omega)
  go_enter Tryz.func122, Tryz.ntmps122
  go_wp2
  have own0 := Lib.hid (own_madeU w w.heap.size n (Nat.le_refl _) (by omega))
  clear hmk
  go_loopw [6, 7] (fun hi i wr => ∃ (k r : Nat) (L : List Int), k ≤ n ∧ i = .int .i64 ((k : Int) - 1) ∧ hi = .int .u32 ((r * 2 ^ (32 - s) % 4294967296 : Nat) : Int) ∧ r < 2 ^ s ∧ L.length = n ∧
      OwnU w.heap.size wr (.slice (some ⟨w.heap.size, 0, none⟩) n n) L ∧ val (l.drop k) = val (L.drop k) * 2 ^ s + r ∧ Below w.heap.size w wr) (fun _ i _ => (intOf i + 1).toNat)
  case atStart => exact ⟨n, 0, List.replicate n 0, Nat.le_refl _, rfl, by simp, Nat.two_pow_pos s, by simp, own0.out, by rw [val_drop_ge l n (by rw [Hl.out]; omega), val_drop_ge _ n (by simp)]; simp, (Below.refl _ _).alloc (Nat.le_refl _) _⟩
  case round =>
    obtain ⟨k, r, L, hk, rfl, rfl, hr, hL, hown, heq, hb⟩ := hrel
    have HL := Lib.hid hL; clear hL
    have Heq := Lib.hid heq; clear heq
    have Hown := Lib.hid hown; clear hown
    have Hb := Lib.hid hb; clear hb
    have Hr := Lib.hid hr; clear hr
    rcases k with _ | k
    · go_wp2
      go_ret
      refine ⟨_, L, rfl, Hb.out, Hown.out, HL.out, ?_⟩
      have h1 := Heq.out
      simp only [List.drop_zero] at h1
      rw [h1, Nat.mul_comm, Nat.mul_add_div (Nat.two_pow_pos s), Nat.div_eq_of_lt Hr.out, Nat.add_zero]
    · obtain ⟨hcell, hfr⟩ := Hown.out.at_ k (by rw [HL.out]; omega)
      obtain ⟨b, o, rfl, hbw, h1⟩ := Hh.out.addrB Hb.out k (by rw [Hl.out]; omega)
      have b1 := Hh.out.wf.dg k
      obtain ⟨x, r', e1, e2, hx0, hx1, hr', hsum⟩ := low_step (dg l k) r s hsh b1.1 b1.2 Hr.out
      have E1 := Lib.hid e1; have E2 := Lib.hid e2; have Hr' := Lib.hid hr'; have Hsum := Lib.hid hsum; clear e1 e2 hr' hsum
      go_wp2
      rw [E1.out, E2.out]
      go_roundw
      case rel =>
        refine ⟨k, r', L.set k x, by omega, rfl, rfl, Hr'.out, by rw [List.length_set]; exact HL.out, Hown.out.store k hx0 hx1, ?_, Hb.out.setCell (Nat.le_refl _) _⟩
        rw [val_drop l k (by rw [Hl.out]; omega), val_drop (L.set k x) k (by rw [List.length_set, HL.out]; omega), dg_set_same _ _ _ (by rw [HL.out]; omega), drop_set_other, Heq.out, Nat.mul_add, Nat.add_mul, Nat.mul_assoc]
        have := Hsum.out
        omega
      case measure => simp [intOf]
end Go.Proofs.YtckiojofncdoeaaGreatDoor
