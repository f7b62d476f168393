/- nat: Parse. -/
import Derived.Test.YtckiojofncdoeaaGreatDoorNatJ
import Derived.Test.YtckiojofncdoeaaGreatDoorDec
import Derived.WalkMore
namespace Go.Proofs.YtckiojofncdoeaaGreatDoor
open Go.RowKit

theorem pow10_9 {i : Nat} (h : i ≤ 9) : 10 ^ i ≤ 1000000000 := by
  have : 10 ^ i ≤ 10 ^ 9 := Nat.pow_le_pow_right (by decide) h
  simpa using this
theorem dec_len (V k m : Nat) (hV : V < 10 ^ k) (hk : k ≤ m) : (digits V).length ≤ m :=
  digits_length_le (Nat.lt_of_lt_of_le hV (Nat.le_trans (Nat.pow_le_pow_right (by decide) hk) (Nat.pow_le_pow_left (by decide) m)))
theorem not_empty {T : ByteArray} (h : 0 < T.size) : (T.toList == ([] : List UInt8)) = false := by
  rw [ByteArray.toList_eq]
  have : T.data.toList ≠ [] := fun e => by have := bytes_size T; rw [e] at this; simp at this; omega
  simpa using this

/-- All digits, no 0 ahead of others. -/
theorem parse_any (w : World) (s : ByteArray) (hs : s.size ≤ 4096) (h0 : 0 < s.size) (hd : AllDig s.data.toList) (hz : s.size = 1 ∨ (s[0]'h0).toNat ≠ 48) :
    Calls Tryz.prog 84 #[.string s] w fun e w' => ∃ v, e = .returned (.tuple #[v, .int .i64 0]) ∧ Below w.heap.size w w' ∧ OwnU w.heap.size w' v (digits (dec s.data.toList)) := by
  have Hd := Lib.hid hd; clear hd
  have hne : s.toList.isEmpty = false := by have := not_empty h0; cases h : s.toList <;> simp_all
  obtain ⟨b, hb, hb1⟩ : ∃ b : Bool, (((s[0]'h0).toNat : Int) == 48) = b ∧ (b = true → s.size ≤ 1) := by
    refine ⟨_, rfl, fun h => ?_⟩
    have h1 : (s[0]'h0).toNat = 48 := by simp at h; exact_mod_cast h
    rcases hz with h | h <;> omega
  clear hz
  have hlen0 : ∀ V k : Nat, V < 10 ^ k → k ≤ 4096 → (digits V).length ≤ 4096 := fun V k hV hk => dec_len V k 4096 hV hk
  have Hlen0 := Lib.hid hlen0; clear hlen0
  cases b
  all_goals (try have hsz1 := hb1 rfl)
  all_goals clear hb1
  all_goals go_enter Tryz.func84, Tryz.ntmps84
  all_goals (go_wp2; go_step3; go_wp2; go_step3; go_wp2)
  all_goals (
    go_loopw [0, 4] (fun t v wr => ∃ (T : ByteArray) (V : Nat), t = .string T ∧ T.size ≤ 4096 ∧ AllDig T.data.toList ∧ OwnU w.heap.size wr v (digits V) ∧ V * 10 ^ T.size + dec T.data.toList = dec s.data.toList ∧ V < 10 ^ (4096 - T.size) ∧ Below w.heap.size w wr) (fun t _ _ => match t with | .string T => T.size | _ => 0)
    · exact ⟨s, 0, rfl, hs, Hd.out, by rw [digits_zero]; exact OwnU.nil _ _, by rw [Nat.zero_mul, Nat.zero_add], Nat.pow_pos (by decide), Below.refl _ _⟩
    · obtain ⟨T, V, rfl, hT, hdT, hov, heq, hV, hbl⟩ := hrel
      have Heq := Lib.hid heq; have HV := Lib.hid hV; have Hbl := Lib.hid hbl; have HdT := Lib.hid hdT; have Hov := Lib.hid hov
      clear heq hV hbl hdT hov
      by_cases hT0 : T.size = 0
      · have hnil : T.toList = [] := by rw [ByteArray.toList_eq]; exact bytes_nil hT0
        go_wp2
        try rw [Exit.noGoto_ret]
        go_ret2
        have e := Heq.out
        rw [hT0, bytes_nil hT0, dec_nil, Nat.pow_zero, Nat.mul_one, Nat.add_zero] at e
        exact ⟨_, rfl, Hbl.out, by rw [← e]; exact Hov.out⟩
      · have hneT := not_empty (T := T) (by omega)
        obtain ⟨p, hp⟩ : ∃ p : Nat, p = min T.size 9 := ⟨_, rfl⟩
        have hpi : min (T.size : Int) 9 = (p : Int) := by omega
        obtain ⟨A1, c1, rfl, hc1, _⟩ := Hov.out.rv
        have hp9 : p ≤ 9 := by omega
        have hpT : p ≤ T.size := by omega
        have hp1 : 1 ≤ p := by omega
        have Hp := Lib.hid hp; clear hp
        go_wp2
        go_loopw [6, 7, 30] (fun d sc i wq => wq = wr ∧ ∃ (k D S : Nat), k ≤ p ∧ i = .int .i64 k ∧ d = .int .u32 D ∧ sc = .int .u32 S ∧ D = dec (T.data.toList.take k) ∧ S = 10 ^ k) (fun _ _ i _ => p - (intOf i).toNat)
        · exact ⟨rfl, 0, 0, 1, Nat.zero_le _, rfl, rfl, rfl, rfl, rfl⟩
        · obtain ⟨rfl, k, D, S, hk, rfl, rfl, rfl, hD, hS⟩ := hrel
          have hDS : D < S := by
            have h1 := dec_lt (HdT.out.take k)
            rw [← hD, List.length_take, bytes_size, Nat.min_eq_left (by omega)] at h1
            omega
          by_cases hlt : k < p
          · have hS8 : S ≤ 100000000 := by
              rw [hS]
              exact Nat.le_trans (Nat.pow_le_pow_right (by decide) (show k ≤ 8 by omega)) (by decide)
            have hkT : k < T.size := by omega
            obtain ⟨c, hcc⟩ : ∃ c : Nat, (T[k]'hkT).toNat = c := ⟨_, rfl⟩
            have hcb : 48 ≤ c ∧ c ≤ 57 := by
              have h1 := HdT.out.at_ k (by rw [bytes_size]; exact hkT)
              rw [← byte_at T k hkT, hcc] at h1
              exact h1
            have hDn := dec_take_succ T.data.toList k (by rw [bytes_size]; exact hkT)
            rw [← byte_at T k hkT, hcc, ← hD] at hDn
            have HDn := Lib.hid hDn; have HS := Lib.hid hS; clear hDn hS hD
            go_wp2
            go_roundw
            · exact ⟨trivial, k + 1, D * 10 + (c - 48), S * 10, by omega, by go_num, by first | rfl | (congr 1; omega), by first | rfl | (congr 1; omega), HDn.out.symm, by rw [HS.out, Nat.pow_succ]⟩
            · simp [intOf]; omega
          · obtain rfl : k = p := by omega
            have hS9 : S ≤ 1000000000 := by rw [hS]; exact pow10_9 hp9
            have hwS : Wf [(S : Int)] := Wf.one (by omega) (by omega)
            have hwD : Wf [(D : Int)] := Wf.one (by omega) (by omega)
            have HlS := Lib.hid (own_litU wr wr.heap.size [(S : Int)] hwS (Nat.le_refl _) (by simp))
            have hbS := (Below.refl wr.heap.size wr).alloc (Nat.le_refl _) (.cells #[.int .u32 (S : Int)] 67)
            have hlV := Hlen0.out _ _ HV.out (Nat.sub_le _ _)
            have Hv1 := Lib.hid (val_one (S : Int)); have Hv2 := Lib.hid (val_one (D : Int))
            have HD := Lib.hid hD; have HS := Lib.hid hS; clear hD hS
            go_wp2_with fail
            refine (mul_any _ A1 _ _ c1 1 1 (digits V) [(S : Int)] rfl hc1 (by omega) (Hov.out.ru.ext hbS) rfl (Nat.le_refl _) (by omega) HlS.out.ru).mono ?_
            rintro e w5 ⟨v5, rfl, hb5, ho5⟩
            rw [val_digits, Hv1.out, Int.toNat_natCast] at ho5
            obtain ⟨A5, c5, rfl, hc5, _⟩ := ho5.rv
            have HlD := Lib.hid (own_litU w5 w5.heap.size [(D : Int)] hwD (Nat.le_refl _) (by simp))
            have hbD := (Below.refl w5.heap.size w5).alloc (Nat.le_refl _) (.cells #[.int .u32 (D : Int)] 67)
            have hVS : V * S + D < 10 ^ (4096 - (T.size - k)) := by
              have h1 : V + 1 ≤ 10 ^ (4096 - T.size) := HV.out
              have h2 := Nat.mul_le_mul_right S h1
              rw [HS.out, ← Nat.pow_add, show 4096 - T.size + k = 4096 - (T.size - k) from by omega] at h2
              rw [HS.out]
              rw [Nat.add_mul, ← HS.out] at h2
              rw [← HS.out]
              omega
            have hl5 : (digits (V * S)).length ≤ 4096 := Hlen0.out (V * S) _ (Nat.lt_of_le_of_lt (Nat.le_add_right _ _) hVS) (Nat.sub_le _ _)
            have Hb5 := Lib.hid (bthen Hbl.out (bnext hbS hb5) Hbl.out.size)
            have HVS := Lib.hid hVS; have Ho5 := Lib.hid ho5
            clear hb5 ho5 hVS
            go_wp2_with fail
            refine (add_any _ A5 _ _ c5 1 1 (digits (V * S)) [(D : Int)] rfl hc5 (by omega) (Ho5.out.ru.ext hbD) rfl (Nat.le_refl _) (by omega) HlD.out.ru).mono ?_
            rintro e w6 ⟨v6, rfl, hb6, ho6⟩
            rw [val_digits, Hv2.out, Int.toNat_natCast] at ho6
            have Hb6 := Lib.hid (bthen Hb5.out (bnext hbD hb6) Hb5.out.size)
            have Ho6 := Lib.hid (ho6.mono (Nat.le_trans Hb5.out.size (Nat.le_of_lt (by simp))))
            clear hb6 ho6
            go_wp2_with fail
            go_roundw
            · have hsz : (T.extract k T.size).size = T.size - k := by rw [ByteArray.size_extract]; omega
              refine ⟨T.extract k T.size, V * S + D, rfl, by rw [hsz]; omega, by rw [drop_bytes]; exact HdT.out.drop k, Ho6.out, ?_, by rw [hsz]; exact HVS.out, Hb6.out⟩
              have h1 := dec_split T.data.toList k
              have h2 := Heq.out
              rw [List.length_drop, bytes_size, ← HD.out] at h1
              rw [hsz, drop_bytes, ← h2, h1, HS.out, show 10 ^ T.size = 10 ^ k * 10 ^ (T.size - k) from by rw [← Nat.pow_add, show k + (T.size - k) = T.size from by omega]]
              rw [Nat.add_mul, Nat.mul_assoc, Nat.add_assoc]
            · have hsz : (T.extract k T.size).size = T.size - k := by rw [ByteArray.size_extract]; omega
              show (T.extract k T.size).size < T.size
              rw [hsz]
              omega)
end Go.Proofs.YtckiojofncdoeaaGreatDoor
