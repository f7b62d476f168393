/- reference, layer 1: small, DivMod and Gcd at divisors of one digit. -/
import Derived.Test.YtckiojofncdoeaaGreatDoorRefA
import Derived.Test.YtckiojofncdoeaaGreatDoorNatD
import Derived.Test.YtckiojofncdoeaaGreatDoorNatI
namespace Go.Proofs.YtckiojofncdoeaaGreatDoor
open Go.RowKit

theorem small_step {V W d r x q r' : Nat} (h : V = W * d + r) (hq : q = (r * 4294967296 + x) / d) (hr : r' = (r * 4294967296 + x) % d) : x + 4294967296 * V = (q + 4294967296 * W) * d + r' := by
  have h1 := Nat.div_add_mod (r * 4294967296 + x) d
  rw [← hq, ← hr] at h1
  subst h
  have h2 : d * q = q * d := Nat.mul_comm _ _
  rw [h2] at h1
  have h3 : (q + 4294967296 * W) * d = q * d + 4294967296 * (W * d) := by rw [Nat.add_mul, Nat.mul_assoc]
  rw [h3]
  omega

set_option maxRecDepth 100000 in
set_option maxHeartbeats 1600000 in
theorem r1small_any (w : World) (A : Option Addr) (n cap : Nat) (l : List Int) (d : Nat) (hl : l.length = n) (hs : n ≤ 1073741824) (h : RU w A l) (hd0 : 0 < d) (hd : d < 4294967296) :
    Calls Tryz.prog 112 #[.slice A n cap, .int .u32 d] w fun e w' => ∃ v, e = .returned (.tuple #[v, .int .u32 (val l % d : Nat)]) ∧ Below w.heap.size w w' ∧ OwnU w.heap.size w' v (digits (val l / d)) := by
  have Hl := Lib.hid hl; clear hl
  have Hh := Lib.hid h; clear h
  have hmk := run_makeU n (by omega)
  go_enter Tryz.func112, Tryz.ntmps112
  go_wp2
  have own0 := Lib.hid (own_madeU w w.heap.size n (Nat.le_refl _) (by omega))
  clear hmk
  go_loopw [7, 8] (fun rs i wr => ∃ (k r : Nat) (L : List Int), k ≤ n ∧ i = .int .i64 ((k : Int) - 1) ∧ rs = .int .u64 r ∧ r < d ∧ L.length = n ∧
      OwnU w.heap.size wr (.slice (some ⟨w.heap.size, 0, none⟩) n n) L ∧ val (l.drop k) = val (L.drop k) * d + r ∧ Below w.heap.size w wr) (fun _ i _ => (intOf i + 1).toNat)
  case atStart => exact ⟨n, 0, List.replicate n 0, Nat.le_refl _, rfl, rfl, hd0, by simp, own0.out, by rw [val_drop_ge l n (by rw [Hl.out]; omega), val_drop_ge _ n (by simp)]; simp, (Below.refl _ _).alloc (Nat.le_refl _) _⟩
  case round =>
    obtain ⟨k, r, L, hk, rfl, rfl, hr, hL, hown, heq, hb⟩ := hrel
    have HL := Lib.hid hL; clear hL
    have Heq := Lib.hid heq; clear heq
    have Hown := Lib.hid hown; clear hown
    have Hb := Lib.hid hb; clear hb
    rcases k with _ | k
    · have h1 := Heq.out
      simp only [List.drop_zero] at h1
      have hdv : val l / d = val L := by rw [h1, Nat.mul_comm, Nat.mul_add_div hd0, Nat.div_eq_of_lt hr, Nat.add_zero]
      have hmd : val l % d = r := by rw [h1, Nat.mul_comm, Nat.mul_add_mod, Nat.mod_eq_of_lt hr]
      have Hdv := Lib.hid hdv; have Hmd := Lib.hid hmd
      have hru := Hown.out.ru
      have hru2 : RU wr (some ⟨w.heap.size, 0, none⟩) L := hru
      have HRU := Lib.hid hru2
      clear h1 hdv hmd hru hru2
      go_wp2_with fail
      refine (r1trim_any wr (some ⟨w.heap.size, 0, none⟩) n n L HL.out (Nat.le_refl _) (by omega) HRU.out).mono ?_
      rintro e w2 ⟨v2, rfl, hb2, ho2⟩
      have Hb2 := Lib.hid hb2; have Ho2 := Lib.hid ho2; clear hb2 ho2
      go_wp2
      go_ret2
      exact ⟨v2, by show Ending.returned (.tuple #[v2, .int .u32 (r : Int)]) = _; rw [Hmd.out], bthen Hb.out Hb2.out Hb.out.size, by rw [Hdv.out]; exact Ho2.out.mono Hb.out.size⟩
    · obtain ⟨hcell, hfr⟩ := Hown.out.at_ k (by rw [HL.out]; omega)
      obtain ⟨b, o, rfl, hbw, h1⟩ := Hh.out.addrB Hb.out k (by rw [Hl.out]; omega)
      have b1 := Hh.out.wf.dg k
      obtain ⟨x, hx⟩ : ∃ x : Nat, dg l k = (x : Int) := ⟨(dg l k).toNat, by omega⟩
      obtain ⟨t, ht⟩ : ∃ t : Nat, t = r * 4294967296 + x := ⟨_, rfl⟩
      obtain ⟨q, hq⟩ : ∃ q, q = t / d := ⟨_, rfl⟩
      obtain ⟨r', hr'⟩ : ∃ r', r' = t % d := ⟨_, rfl⟩
      rw [hx] at h1 b1
      have hor : bits BinOp.or IntKind.u64 ((r : Int) * 4294967296) (x : Int) = (t : Int) := by rw [or64_hi _ _ (by omega) (by omega) (by omega) (by omega), ht]; omega
      have hr'd : r' < d := by rw [hr']; exact Nat.mod_lt _ hd0
      have hqb : q < 4294967296 := by
        rw [hq]
        refine Nat.div_lt_of_lt_mul ?_
        have : (r + 1) * 4294967296 ≤ d * 4294967296 := Nat.mul_le_mul_right _ hr
        omega
      have htb : t < 18446744073709551616 := by omega
      have d1 : (t : Int) / (d : Int) = (q : Int) := by rw [hq]; rfl
      have d2 : (t : Int) % (d : Int) = (r' : Int) := by rw [hr']; rfl
      have hst := small_step Heq.out (show q = (r * 4294967296 + x) / d by rw [← ht]; exact hq) (show r' = (r * 4294967296 + x) % d by rw [← ht]; exact hr')
      have Hst := Lib.hid hst; have Hx := Lib.hid hx
      clear hst hx ht hq hr'
      go_wp2
      go_roundw
      case rel =>
        refine ⟨k, r', L.set k q, by omega, by first | rfl | (congr 1; omega), by first | rfl | (rw [d2]), hr'd, by rw [List.length_set]; exact HL.out, Hown.out.store k (by omega) (by omega), ?_, Hb.out.setCell (Nat.le_refl _) _⟩
        rw [val_drop l k (by rw [Hl.out]; omega), val_drop (L.set k q) k (by rw [List.length_set, HL.out]; omega), dg_set_same _ _ _ (by rw [HL.out]; omega), drop_set_other, Hx.out, bB_eq]
        exact Hst.out
      case measure => simp [intOf]

set_option maxRecDepth 100000 in
set_option maxHeartbeats 1600000 in
/-- A divisor of one digit. -/
theorem r1divmod_one (w : World) (A B : Option Addr) (n cap m cap' : Nat) (l r : List Int) (hl : l.length = n) (hc : n ≤ cap) (hs : n ≤ 1073741824) (h : RU w A l)
    (hr : r.length = m) (hc' : m ≤ cap') (hs' : m ≤ 1073741824) (h' : RU w B r) (h0 : val r ≠ 0) (hb : val r < 4294967296) :
    Calls Tryz.prog 96 #[.slice A n cap, .slice B m cap'] w fun e w' => ∃ q t, e = .returned (.tuple #[q, t, .int .i64 0]) ∧ Below w.heap.size w w' ∧
      OwnU w.heap.size w' q (digits (val l / val r)) ∧ OwnU w.heap.size w' t (digits (val l % val r)) := by
  have hcl := digits_length_val h.wf
  rw [hl] at hcl
  obtain ⟨a, ha⟩ : ∃ a, a = val l := ⟨_, rfl⟩
  obtain ⟨d, hd⟩ : ∃ d, d = val r := ⟨_, rfl⟩
  have hd1 : digits d = [(d : Int)] := digits_one (by rw [hd]; exact h0) (by rw [hd]; exact hb)
  have Ha := Lib.hid ha; have Hd := Lib.hid hd
  rw [← ha, ← hd]
  rw [← ha] at hcl
  rw [← hd] at h0 hb
  have Hl := Lib.hid hl; have Hr := Lib.hid hr; have Hh := Lib.hid h; have Hh' := Lib.hid h'; have Hd1 := Lib.hid hd1
  clear hl hr h h' ha hd hd1
  go_enter Tryz.func96, Tryz.ntmps96
  go_wp2_with fail
  refine (r1trim_any w A n cap l Hl.out hc (by omega) Hh.out).mono ?_
  rintro e w1 ⟨v1, rfl, hb1, ho1⟩
  rw [← Ha.out] at ho1
  obtain ⟨A1, c1, rfl, hc1, _⟩ := ho1.rv
  have Hb1 := Lib.hid hb1; have Ho1 := Lib.hid ho1; clear hb1 ho1
  go_wp2_with fail
  refine (r1trim_any w1 B m cap' r Hr.out hc' (by omega) (Hh'.out.ext Hb1.out)).mono ?_
  rintro e w2 ⟨v2, rfl, hb2, ho2⟩
  rw [← Hd.out, Hd1.out] at ho2
  obtain ⟨A2, c2, rfl, hc2, hr2⟩ := ho2.rv
  obtain ⟨b, o, rfl, hcell⟩ := hr2.addr 0 (by simp)
  have hcell' : w2.cell? ⟨b, o, none⟩ = some (.int .u32 (d : Int)) := hcell
  have Hb2 := Lib.hid (bnext Hb1.out hb2); have Ho2 := Lib.hid (Ho1.out.ext hb2)
  simp only [List.length_singleton] at hc2 ⊢
  clear hb2 ho2 hr2 hcell Ho1
  go_wp2_with fail
  refine (r1small_any w2 A1 _ c1 (digits a) d rfl (by omega) Ho2.out.ru (by omega) hb).mono ?_
  rintro e w3 ⟨v3, rfl, hb3, ho3⟩
  rw [val_digits] at ho3 ⊢
  have hmr : a % d < 4294967296 := Nat.lt_trans (Nat.mod_lt _ (by omega)) hb
  obtain ⟨md, hmd⟩ : ∃ md, md = a % d := ⟨_, rfl⟩
  rw [← hmd] at hmr ⊢
  have Hmd := Lib.hid hmd
  have Hb3 := Lib.hid (bnext Hb2.out hb3); have Ho3 := Lib.hid ho3
  have Hlit := Lib.hid (own_litU w3 w3.heap.size [(md : Int)] (Wf.one (by omega) (by omega)) (Nat.le_refl _) (by simp))
  have hal : Below w3.heap.size w3 (w3.alloc (.cells #[.int .u32 (md : Int)] 67)) := (Below.refl _ _).alloc (Nat.le_refl _) _
  have Hal := Lib.hid hal
  clear hb3 ho3 hmd hal
  go_wp2_with fail
  refine (r1trim_any _ (some ⟨w3.heap.size, 0, none⟩) 1 1 [(md : Int)] rfl (Nat.le_refl _) (by omega) (by simpa using Hlit.out.ru)).mono ?_
  rintro e w4 ⟨v4, rfl, hb4, ho4⟩
  rw [val_one, Int.toNat_natCast] at ho4
  have Hb4 := Lib.hid (bnext Hal.out hb4); have Ho4 := Lib.hid (ho4.mono Hal.out.size)
  clear hb4 ho4
  go_wp2
  go_ret3
  exact ⟨_, _, rfl, bnext Hb3.out Hb4.out, (Ho3.out.ext Hb4.out).mono Hb2.out.size, by rw [← Hmd.out]; exact Ho4.out.mono Hb3.out.size⟩

/-- Where the second is a digit at most. -/
theorem r1gcd_one (w : World) (A B : Option Addr) (n cap m cap' : Nat) (l r : List Int) (hl : l.length = n) (hc : n ≤ cap) (hs : n ≤ 1073741824) (h : RU w A l)
    (hr : r.length = m) (hc' : m ≤ cap') (hs' : m ≤ 1073741824) (h' : RU w B r) (hb : val r < 4294967296) :
    Calls Tryz.prog 95 #[.slice A n cap, .slice B m cap'] w fun e w' => ∃ v, e = .returned v ∧ Below w.heap.size w w' ∧ OwnU w.heap.size w' v (digits (Nat.gcd (val l) (val r))) := by
  have hcl := digits_length_val h.wf
  rw [hl] at hcl
  have hcr := digits_length_val h'.wf
  rw [hr] at hcr
  obtain ⟨a, ha⟩ : ∃ a, a = val l := ⟨_, rfl⟩
  obtain ⟨d, hd⟩ : ∃ d, d = val r := ⟨_, rfl⟩
  have Ha := Lib.hid ha; have Hd := Lib.hid hd
  rw [← ha, ← hd]
  rw [← ha] at hcl
  rw [← hd] at hb hcr
  have Hl := Lib.hid hl; have Hr := Lib.hid hr; have Hh := Lib.hid h; have Hh' := Lib.hid h'
  clear hl hr h h' ha hd
  go_enter Tryz.func95, Tryz.ntmps95
  go_wp2_with fail
  refine (r1trim_any w A n cap l Hl.out hc (by omega) Hh.out).mono ?_
  rintro e w1 ⟨v1, rfl, hb1, ho1⟩
  rw [← Ha.out] at ho1
  have Hb1 := Lib.hid hb1; have Ho1 := Lib.hid ho1; clear hb1 ho1
  go_wp2_with fail
  refine (r1trim_any w1 B m cap' r Hr.out hc' (by omega) (Hh'.out.ext Hb1.out)).mono ?_
  rintro e w2 ⟨v2, rfl, hb2, ho2⟩
  rw [← Hd.out] at ho2
  have Hb2 := Lib.hid (bnext Hb1.out hb2); have Ho2 := Lib.hid (Ho1.out.ext hb2); have Ho3 := Lib.hid (ho2.mono Hb1.out.size)
  clear hb2 ho2 Ho1
  go_wp2
  go_loopw [0, 1] (fun x y wr => ∃ c e : Nat, OwnU w.heap.size wr x (digits c) ∧ OwnU w.heap.size wr y (digits e) ∧ e < 4294967296 ∧ (digits c).length ≤ 1073741824 ∧ Nat.gcd c e = Nat.gcd a d ∧ Below w.heap.size w wr) (fun _ y wr => valOf wr y)
  case atStart => exact ⟨a, d, Ho2.out, Ho3.out, hb, by omega, rfl, Hb2.out⟩
  case round =>
    obtain ⟨c, e, hox, hoy, he, hcl2, hg, hbl⟩ := hrel
    obtain ⟨A1, c1, rfl, hc1, _⟩ := hox.rv
    obtain ⟨A2, c2, rfl, hc2, _⟩ := hoy.rv
    have Hox := Lib.hid hox; have Hoy := Lib.hid hoy; have Hg := Lib.hid hg; have Hbl := Lib.hid hbl
    clear hox hoy hg hbl
    by_cases he0 : e = 0
    · subst he0
      have hg := Hg.out
      rw [Nat.gcd_zero_right] at hg
      have hz : (digits 0).length = 0 := by rw [digits_zero]; rfl
      rw [hz] at hc2 ⊢
      have Hg2 := Lib.hid hg
      clear hg hz
      go_wp2
      go_ret
      exact ⟨_, rfl, Hbl.out, by rw [← Hg2.out]; exact Hox.out⟩
    · have hlen : 0 < (digits e).length := by
        rcases Nat.eq_zero_or_pos (digits e).length with h | h
        · exact absurd ((digits_nil_iff _).1 h) he0
        · exact h
      have hle1 : (digits e).length ≤ 1 := digits_length_le (by rw [Nat.pow_one, bB_eq]; exact he)
      have He0 := Lib.hid he0
      clear he0
      go_wp2_with fail
      refine (r1divmod_one wr A1 A2 _ c1 _ c2 (digits c) (digits e) rfl hc1 hcl2 Hox.out.ru rfl hc2 (by omega) Hoy.out.ru (by rw [val_digits]; exact He0.out) (by rw [val_digits]; exact he)).mono ?_
      rintro e3 w3 ⟨q3, t3, rfl, hb3, _, ho3⟩
      rw [val_digits, val_digits] at ho3
      have Hb3 := Lib.hid hb3; have Ho3' := Lib.hid ho3
      clear hb3 ho3
      go_wp2
      go_roundw
      case rel =>
        have hlt : c % e < e := Nat.mod_lt _ (Nat.pos_of_ne_zero He0.out)
        refine ⟨e, c % e, Hoy.out.ext Hb3.out, Ho3'.out.mono Hbl.out.size, by omega, by omega, ?_, bthen Hbl.out Hb3.out Hbl.out.size⟩
        rw [← Hg.out, Nat.gcd_comm c e, Nat.gcd_rec e c, Nat.gcd_comm]
      case measure =>
        have h1 := Ho3'.out.valOf
        have h2 := Hoy.out.valOf
        have hlt : c % e < e := Nat.mod_lt _ (Nat.pos_of_ne_zero He0.out)
        rw [h1, h2]
        exact hlt
end Go.Proofs.YtckiojofncdoeaaGreatDoor
