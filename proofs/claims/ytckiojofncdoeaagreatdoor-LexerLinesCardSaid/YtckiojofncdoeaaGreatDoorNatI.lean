/- nat: small, Gcd, DivMod. -/
import Derived.Test.YtckiojofncdoeaaGreatDoorNatH
namespace Go.Proofs.YtckiojofncdoeaaGreatDoor
open Go.RowKit

theorem RU.unique {w : World} {A : Option Addr} {l r : List Int} (h : RU w A l) (k : RU w A r) (hl : l.length = r.length) : l = r := by
  refine ext_dg hl fun j hj => ?_
  obtain ⟨b, o, rfl, h1⟩ := h.cells (by omega)
  obtain ⟨b', o', e, h2⟩ := k.cells (by omega)
  injection e with e
  injection e with e1 e2
  subst e1; subst e2
  have h3 := h1 j hj
  rw [h2 j (by omega)] at h3
  injection h3 with h3
  injection h3 with _ h3
  exact h3.symm
theorem RV.unique {w : World} {v : Value} {l r : List Int} (h : RV w v l) (k : RV w v r) : l = r := by
  obtain ⟨A, cap, rfl, _, h1⟩ := h
  obtain ⟨A', cap', e, _, h2⟩ := k
  injection e with e1 e2 e3
  subst e1
  exact h1.unique h2 e2
/-- The number that a slice of digits stands for. -/
noncomputable def valOf (w : World) (v : Value) : Nat := Classical.epsilon fun d => RV w v (digits d)
theorem valOf_eq {w : World} {v : Value} {d : Nat} (h : RV w v (digits d)) : valOf w v = d := by
  have h1 : RV w v (digits (valOf w v)) := Classical.epsilon_spec (p := fun d => RV w v (digits d)) ⟨d, h⟩
  exact digits_inj (h1.unique h)
theorem OwnU.valOf {base : Nat} {w : World} {v : Value} {d : Nat} (h : OwnU base w v (digits d)) : valOf w v = d := valOf_eq h.rv
theorem digits_length_mono {c a : Nat} (h : c ≤ a) : (digits c).length ≤ (digits a).length :=
  digits_length_le (Nat.lt_of_le_of_lt h (by have := val_lt (Wf.digits a); rwa [val_digits] at this))
theorem or64_lo (x y : Int) (hx0 : 0 ≤ x) (hx : x < 4294967296) (hy0 : 0 ≤ y) (hy : y < 4294967296) : bits .or .u64 y (x * 4294967296) = y + x * 4294967296 := by
  obtain ⟨N, rfl⟩ := Int.eq_ofNat_of_zero_le hx0
  obtain ⟨M, rfl⟩ := Int.eq_ofNat_of_zero_le hy0
  have h1 : N * 4294967296 < 18446744073709551616 := by omega
  have e : ((N : Int) * 4294967296) = ((N * 4294967296 : Nat) : Int) := by omega
  rw [e, u64_or_nat _ _ (by omega) h1, Nat.or_comm, Nat.mul_comm, show (4294967296 : Nat) = 2 ^ 32 from rfl, or_disj _ _ 32 (by omega)]
  omega
theorem or64_zero (y : Int) (hy0 : 0 ≤ y) (hy : y < 4294967296) : bits .or .u64 0 y = y := by
  obtain ⟨M, rfl⟩ := Int.eq_ofNat_of_zero_le hy0
  rw [show (0 : Int) = ((0 : Nat) : Int) from rfl, u64_or_nat _ _ (by omega) (by omega), Nat.zero_or]

theorem small_any (w : World) (A : Option Addr) (n cap : Nat) (l : List Int) (hl : l.length = n) (hs : n ≤ 2) (h : RU w A l) :
    Calls Tryz.prog 109 #[.slice A n cap] w fun e w' => w = w' ∧ e = .returned (.int .u64 (val l)) := by
  have Hl := Lib.hid hl; clear hl
  have Hh := Lib.hid h; clear h
  go_enter Tryz.func109, Tryz.ntmps109
  go_wp2
  go_loopw [3, 8] (fun v i wr => wr = w ∧ ∃ k : Nat, k ≤ n ∧ i = .int .i64 k ∧ v = .int .u64 (val (l.take k))) (fun _ i _ => n - (intOf i).toNat)
  case atStart => exact ⟨rfl, 0, by omega, rfl, by simp [val_nil]⟩
  case round =>
    obtain ⟨rfl, k, hk, rfl, rfl⟩ := hrel
    by_cases hlt : k < n
    · obtain ⟨b, o, rfl, hx1⟩ := Hh.out.addr k (by rw [Hl.out]; omega)
      have b1 := Hh.out.wf.dg k
      rcases k with _ | k
      · have hv : val (l.take 0) = 0 := by simp [val_nil]
        rw [hv]
        have hor := or64_zero (dg l 0) b1.1 b1.2
        have hx2 : wr.cell? ⟨b, o, none⟩ = some (.int .u32 (dg l 0)) := hx1
        clear hx1
        rw [show (((0 : Nat)) : Int) = 0 from rfl]
        go_wp2
        go_roundw
        case rel => exact ⟨trivial, 1, by omega, rfl, by rw [show (1 : Nat) = 0 + 1 from rfl, val_take_succ]; simp [val_nil]; omega⟩
        case measure => simp [intOf]; omega
      · obtain rfl : k = 0 := by omega
        obtain rfl : n = 2 := by omega
        have hv : val (l.take (0 + 1)) = (dg l 0).toNat := by rw [val_take_succ]; simp [val_nil]
        have b0 := Hh.out.wf.dg 0
        have hv2 : ((val (l.take (0 + 1)) : Nat) : Int) = dg l 0 := by rw [hv]; exact Int.toNat_of_nonneg b0.1
        rw [hv2]
        have hx2 : wr.cell? ⟨b, o + 1, none⟩ = some (.int .u32 (dg l 1)) := hx1
        clear hx1
        rw [show (((0 + 1 : Nat)) : Int) = 1 from rfl]
        have b2 := Hh.out.wf.dg 1
        clear b1
        have hor := or64_lo (dg l 1) (dg l 0) b2.1 b2.2 b0.1 b0.2
        go_wp2
        go_roundw
        case rel =>
          refine ⟨trivial, 2, by omega, rfl, ?_⟩
          rw [show (2 : Nat) = 0 + 1 + 1 from rfl, val_take_succ, hv]
          rw [show bB ^ (0 + 1) = 4294967296 from rfl, show dg l (0 + 1) = dg l 1 from rfl]
          exact congrArg (Value.int .u64) (by omega)
        case measure => decide
    · obtain rfl : k = n := by omega
      have hv : val (l.take k) = val l := val_take_ge l k (Nat.le_of_eq Hl.out)
      go_wp2
      go_ret
      exact ⟨rfl, congrArg (fun z : Nat => Ending.returned (.int .u64 (z : Int))) hv⟩

theorem divmod_any (w : World) (A B : Option Addr) (n cap m cap' : Nat) (l r : List Int) (hl : l.length = n) (hc : n ≤ cap) (hs : n ≤ 1073741824) (h : RU w A l)
    (hr : r.length = m) (hc' : m ≤ cap') (hs' : m ≤ 1073741824) (h' : RU w B r) :
    Calls Tryz.prog 88 #[.slice A n cap, .slice B m cap'] w fun e w' => Below w.heap.size w w' ∧ ((val r = 0 ∧ e = .returned (.tuple #[.slice none 0 0, .slice none 0 0, .int .i64 3])) ∨
      (0 < val r ∧ ∃ q m, e = .returned (.tuple #[q, m, .int .i64 0]) ∧ OwnU w.heap.size w' q (digits (val l / val r)) ∧ OwnU w.heap.size w' m (digits (val l % val r)))) := by
  have hcl := clen_le h.wf
  have hcr := clen_le h'.wf
  rw [hl] at hcl
  rw [hr] at hcr
  have H := Lib.hid h.cut
  have H' := Lib.hid h'.cut
  have Hl := Lib.hid hl; clear hl
  have Hr := Lib.hid hr; clear hr
  have Hh := Lib.hid h; clear h
  have Hh' := Lib.hid h'; clear h'
  go_enter Tryz.func88, Tryz.ntmps88
  by_cases hz : val r = 0
  · have hc0 : clen r = 0 := (digits_nil_iff _).2 hz
    go_wp2_with fail
    refine (cut_any w B m cap' r Hr.out hc' (by omega) Hh'.out).mono ?_
    rintro e w' ⟨rfl, rfl⟩
    rw [hc0]
    clear hc0 hcr
    go_wp2_with fail
    go_ret3
    exact ⟨Below.refl _ _, .inl ⟨hz, rfl⟩⟩
  · have hc0 : clen r ≠ 0 := fun h => hz ((digits_nil_iff _).1 h)
    have hcb : ((clen r : Int) == 0) = false := by simpa using hc0
    go_wp2_with fail
    refine (cut_any w B m cap' r Hr.out hc' (by omega) Hh'.out).mono ?_
    rintro e w' ⟨rfl, rfl⟩
    go_wp2_with fail
    refine (cut_any w A n cap l Hl.out hc (by omega) Hh.out).mono ?_
    rintro e w' ⟨rfl, rfl⟩
    go_wp2_with fail
    refine (divide_any w A B (clen l) cap (clen r) cap' (val l) (val r) (by omega) rfl (by omega) (by omega) H.out rfl (by omega) (by omega) H'.out).mono ?_
    rintro e w1 ⟨q, r1, rfl, hb1, ho1, ho2⟩
    go_wp2_with fail
    go_ret3
    exact ⟨hb1, .inr ⟨by omega, _, _, rfl, ho1, ho2⟩⟩

theorem gcd_any (w : World) (A B : Option Addr) (n cap m cap' : Nat) (l r : List Int) (hl : l.length = n) (hc : n ≤ cap) (hs : n ≤ 1073741824) (h : RU w A l)
    (hr : r.length = m) (hc' : m ≤ cap') (hs' : m ≤ 1073741824) (h' : RU w B r) :
    Calls Tryz.prog 90 #[.slice A n cap, .slice B m cap'] w fun e w' => ∃ v, e = .returned v ∧ Below w.heap.size w w' ∧ OwnU w.heap.size w' v (digits (Nat.gcd (val l) (val r))) := by
  obtain ⟨a, ha⟩ : ∃ a, a = val l := ⟨_, rfl⟩
  obtain ⟨b, hb⟩ : ∃ b, b = val r := ⟨_, rfl⟩
  have hla : (digits a).length ≤ n := by rw [ha, ← hl]; exact digits_length_val h.wf
  have hlb : (digits b).length ≤ m := by rw [hb, ← hr]; exact digits_length_val h'.wf
  have Ea := Lib.hid ha; have Eb := Lib.hid hb
  clear ha hb
  have Hl := Lib.hid hl; clear hl
  have Hr := Lib.hid hr; clear hr
  have Hh := Lib.hid h; clear h
  have Hh' := Lib.hid h'; clear h'
  rw [← Ea.out, ← Eb.out]
  go_enter Tryz.func90, Tryz.ntmps90
  go_wp2_with fail
  refine (trim_any w A n cap l Hl.out hc (by omega) Hh.out).mono ?_
  rintro e w1 ⟨v1, rfl, hb1, ho1⟩
  rw [← Ea.out] at ho1
  obtain ⟨A1, c1, rfl, hc1, _⟩ := ho1.rv
  have Hb1 := Lib.hid hb1; have Ho1 := Lib.hid ho1; clear hb1 ho1
  go_wp2_with fail
  refine (trim_any w1 B m cap' r Hr.out hc' (by omega) (Hh'.out.ext Hb1.out)).mono ?_
  rintro e w2 ⟨v2, rfl, hb2, ho2⟩
  rw [← Eb.out] at ho2
  obtain ⟨A2, c2, rfl, hc2, _⟩ := ho2.rv
  have Ho1' := Lib.hid (Ho1.out.ext hb2)
  have Hb2 := Lib.hid (bnext Hb1.out hb2); have Ho2 := Lib.hid (ho2.mono Hb1.out.size); clear hb2 ho2 Ho1 Hb1
  go_wp2_with fail
  refine (compare_any w2 A1 A2 _ c1 _ c2 (digits a) (digits b) rfl hc1 (by omega) Ho1'.out.ru rfl hc2 (by omega) Ho2.out.ru).mono ?_
  rintro e w3 ⟨rfl, hq⟩
  rw [val_digits, val_digits]
  have Hq := Lib.hid (Drew.below hq); clear hq
  have Hb3 := Lib.hid (bnext Hb2.out Hq.out)
  have Hx := Lib.hid (Ho1'.out.ext Hq.out); have Hy := Lib.hid (Ho2.out.ext Hq.out)
  clear Ho1' Ho2 Hq Hb2
  go_upto_if 18 with fail
  go_cut [5, 6] (fun x y wx => wx = w3 ∧ ∃ c d : Nat, OwnU w.heap.size wx x (digits c) ∧ OwnU w.heap.size wx y (digits d) ∧ d ≤ c ∧ (digits c).length ≤ 1073741824 ∧ Nat.gcd c d = Nat.gcd a b)
  case first =>
    by_cases hlt : a < b
    · have hcm : cmpN a b < 0 := by rw [cmpN_lt hlt]; decide
      go_wp2
      go_meet
      exact ⟨rfl, b, a, Hy.out, Hx.out, by omega, by omega, Nat.gcd_comm _ _⟩
    · have hcm : 0 ≤ cmpN a b := by
        rcases Nat.lt_or_ge b a with h | h
        · rw [cmpN_gt h]; decide
        · rw [cmpN_eq (by omega)]; decide
      go_wp2
      go_meet
      exact ⟨rfl, a, b, Hx.out, Hy.out, by omega, by omega, rfl⟩
  case rest =>
    obtain ⟨rfl, c0, d0, hox, hoy, hdc, hlen, hg⟩ := hcut
    clear Hx Hy
    have Hox := Lib.hid hox; have Hoy := Lib.hid hoy; have Hg := Lib.hid hg; clear hox hoy hg
    go_wp2_with fail
    go_loopw [5, 6] (fun x y wr => ∃ c d : Nat, OwnU w.heap.size wr x (digits c) ∧ OwnU w.heap.size wr y (digits d) ∧ d ≤ c ∧ (digits c).length ≤ 1073741824 ∧ Nat.gcd c d = Nat.gcd a b ∧ Below w.heap.size w wr) (fun _ y wr => valOf wr y)
    case atStart => exact ⟨c0, d0, Hox.out, Hoy.out, hdc, hlen, Hg.out, Hb3.out⟩
    case round =>
      clear Hox Hoy Hg hdc hlen
      obtain ⟨c, d, hox, hoy, hdc, hlen, hg, hbl⟩ := hrel
      have hld := digits_length_mono hdc
      obtain ⟨A1, c1, rfl, hc1, _⟩ := hox.rv
      obtain ⟨A2, c2, rfl, hc2, _⟩ := hoy.rv
      have Hox := Lib.hid hox; have Hoy := Lib.hid hoy; have Hg := Lib.hid hg; have Hbl := Lib.hid hbl; clear hox hoy hg hbl
      by_cases h3 : 2 < (digits d).length
      · go_wp2_with fail
        refine (shorten_any wr w.heap.size A1 A2 _ c1 _ c2 c d Hbl.out.size Hox.out Hoy.out hlen h3 hdc).mono ?_
        rintro e w4 ⟨u, v, c', d', rfl, hb4, ho4, ho5, hdc', hcc, hdd, hg4⟩
        go_wp2_with fail
        go_roundw
        case rel =>
          exact ⟨c', d', ho4, ho5, hdc', Nat.le_trans (digits_length_mono hcc) hlen, hg4.trans Hg.out, bthen Hbl.out hb4 Hbl.out.size⟩
        case measure =>
          rw [ho5.valOf, Hoy.out.valOf]
          exact hdd
      · by_cases h0 : (digits d).length = 0
        · have hd0 : d = 0 := (digits_nil_iff d).1 h0
          rw [h0]
          have Hd0 := Lib.hid hd0; clear hd0 h0 h3 hld hc2
          go_wp2_with fail
          go_ret
          refine ⟨_, rfl, Hbl.out, ?_⟩
          rw [← Hg.out, Hd0.out, Nat.gcd_zero_right]
          exact Hox.out
        · have h0b : (((digits d).length : Int) == 0) = false := by simpa using h0
          have hd0 : 0 < d := by
            rcases Nat.eq_zero_or_pos d with h | h
            · exact absurd ((digits_nil_iff d).2 h) h0
            · exact h
          clear h0
          go_wp2_with fail
          refine (divide_any wr A1 A2 _ c1 _ c2 c d hd0 rfl hc1 hlen Hox.out.ru rfl hc2 (by omega) Hoy.out.ru).mono ?_
          rintro e w4 ⟨q4, r4, rfl, hb4, _, ho4⟩
          have hlr := digits_length_mono (Nat.le_of_lt (Nat.mod_lt c hd0))
          obtain ⟨A3, c3, rfl, hc3, _⟩ := ho4.rv
          have Ho4 := Lib.hid ho4; have Hb4 := Lib.hid (bthen Hbl.out hb4 Hbl.out.size); have Hoy4 := Lib.hid (Hoy.out.ext hb4)
          clear ho4 hb4 Hox Hoy Hbl
          go_wp2_with fail
          refine (small_any w4 A2 _ c2 (digits d) rfl (by omega) Hoy4.out.ru).mono ?_
          rintro e w5 ⟨rfl, rfl⟩
          rw [val_digits]
          go_wp2_with fail
          refine (small_any w4 A3 _ c3 (digits (c % d)) rfl (by omega) Ho4.out.ru).mono ?_
          rintro e w5 ⟨rfl, rfl⟩
          rw [val_digits]
          go_wp2_with fail
          have hd64 : d < 18446744073709551616 := by
            have h1 := val_lt (Wf.digits d)
            rw [val_digits] at h1
            have h2 : bB ^ (digits d).length ≤ bB ^ 2 := Nat.pow_le_pow_right bB_pos (by omega)
            exact Nat.lt_of_lt_of_le h1 h2
          have hm64 := Nat.mod_lt c hd0
          have Hg0 := Lib.hid (show Nat.gcd d (c % d) = Nat.gcd a b by rw [Nat.gcd_comm, ← Nat.gcd_rec, Nat.gcd_comm]; exact Hg.out)
          obtain ⟨r0, hr0⟩ : ∃ r0 : Nat, r0 = c % d := ⟨_, rfl⟩
          rw [← hr0] at Hg0 hm64
          have Hr0 := Lib.hid (show (c : Int) % (d : Int) = (r0 : Int) by rw [hr0]; push_cast; rfl)
          clear hr0
          go_loopw [9, 10] (fun x y wr => Below w.heap.size w wr ∧ ∃ p q : Nat, x = .int .u64 p ∧ y = .int .u64 q ∧ p < 18446744073709551616 ∧ q < 18446744073709551616 ∧ Nat.gcd p q = Nat.gcd a b) (fun _ y _ => (intOf y).toNat)
          case atStart => exact ⟨Hb4.out, d, r0, rfl, by rw [Hr0.out], hd64, by omega, Hg0.out⟩
          case round =>
            obtain ⟨hbw, p, q, rfl, rfl, hp, hq, hgp⟩ := hrel
            have Hbw := Lib.hid hbw; clear hbw
            have Hgp := Lib.hid hgp; clear hgp
            by_cases hq0 : q = 0
            · subst hq0
              have hwf1 : Wf [(p : Int) % 4294967296, (p : Int) / 4294967296] := Wf.cons (by omega) (by omega) (Wf.one (by omega) (by omega))
              have Hlit := Lib.hid (own_litU wr wr.heap.size [(p : Int) % 4294967296, (p : Int) / 4294967296] hwf1 (Nat.le_refl _) (by simp))
              have Hv := Lib.hid (show val [(p : Int) % 4294967296, (p : Int) / 4294967296] = Nat.gcd a b by
                rw [← Hgp.out, Nat.gcd_zero_right, val_cons, val_one, bB_eq]; omega)
              clear hwf1
              go_wp2_with fail
              refine (cut_any _ _ 2 2 [(p : Int) % 4294967296, (p : Int) / 4294967296] rfl (Nat.le_refl _) (by omega) Hlit.out.ru).mono ?_
              rintro e w' ⟨rfl, rfl⟩
              go_wp2_with fail
              go_ret
              have e2 := Hlit.out.cut
              have e4 : clen [(p : Int) % 4294967296, (p : Int) / 4294967296] = (digits (Nat.gcd a b)).length := by unfold clen; rw [Hv.out]
              rw [Hv.out] at e2
              refine ⟨_, rfl, Hbw.out.alloc Hbw.out.size _, ?_⟩
              show OwnU _ _ (.slice _ (clen [(p : Int) % 4294967296, (p : Int) / 4294967296]) _) _
              rw [e4]
              exact e2.mono Hbw.out.size
            · have hqb : ((q : Int) != 0) = true := by simpa using hq0
              have hq1 : 0 < q := by omega
              have hml := Nat.mod_lt p hq1
              clear hq0
              go_wp2_with fail
              go_quiet (fail)
              all_goals go_roundw
              case rel =>
                refine ⟨_, _, _, _, _, _, _, _, ⟨bthen Hbw.out (bdrewN _) Hbw.out.size, q, p % q, rfl, ?_, hq, by omega, by rw [Nat.gcd_comm q, ← Nat.gcd_rec, Nat.gcd_comm]; exact Hgp.out⟩, rfl⟩
                push_cast
                rfl
              case measure => simp [intOf]; omega
end Go.Proofs.YtckiojofncdoeaaGreatDoor
