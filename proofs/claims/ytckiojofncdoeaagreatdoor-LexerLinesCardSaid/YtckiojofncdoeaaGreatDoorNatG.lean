/- nat: small, combine, leading, cofactors. -/
import Derived.Test.YtckiojofncdoeaaGreatDoorNatF
import Derived.Test.YtckiojofncdoeaaGreatDoorMathG
namespace Go.Proofs.YtckiojofncdoeaaGreatDoor
open Go.RowKit

theorem combine_any (w : World) (A B : Option Addr) (n cap m cap' : Nat) (x y : List Int) (f g : Int) (hl : x.length = n) (hc : n ≤ cap) (hs : n ≤ 1073741824) (h : RU w A x)
    (hr : y.length = m) (_hc' : m ≤ cap') (hmn : m ≤ n) (h' : RU w B y) (hf : -2147483647 ≤ f ∧ f ≤ 2147483647) (hg : -2147483647 ≤ g ∧ g ≤ 2147483647) (hsg : (0 ≤ f ∧ g ≤ 0) ∨ (f ≤ 0 ∧ 0 ≤ g))
    (h0 : 0 ≤ f * (val x : Int) + g * val y) (h1 : f * (val x : Int) + g * val y < ((bB ^ n : Nat) : Int)) :
    Calls Tryz.prog 125 #[.slice A n cap, .slice B m cap', .int .i64 f, .int .i64 g] w fun e w' => ∃ v, e = .returned v ∧ Below w.heap.size w w' ∧ OwnU w.heap.size w' v (digits (f * (val x : Int) + g * val y).toNat) := by
  have Hl := Lib.hid hl; clear hl
  have Hr := Lib.hid hr; clear hr
  have Hh := Lib.hid h; clear h
  have Hh' := Lib.hid h'; clear h'
  have H0 := Lib.hid h0; have H1 := Lib.hid h1; clear h0 h1
  have hmk := run_makeU n (by omega)
  go_enter Tryz.func125, Tryz.ntmps125
  go_wp2
  have own0 := Lib.hid (own_madeU w w.heap.size n (Nat.le_refl _) (by omega))
  clear hmk
  go_loopw [10, 19] (fun cy i wr => ∃ (k : Nat) (c : Int) (R : List Int), k ≤ n ∧ i = .int .i64 k ∧ cy = .int .i64 c ∧ -2147483648 ≤ c ∧ c ≤ 2147483647 ∧ R.length = n ∧ OwnU w.heap.size wr (.slice (some ⟨w.heap.size, 0, none⟩) n n) R ∧
    (val (R.take k) : Int) + (bB : Int) ^ k * c = f * val (x.take k) + g * val (y.take k) ∧ Below w.heap.size w wr) (fun _ i _ => n - (intOf i).toNat)
  case atStart => exact ⟨0, 0, List.replicate n 0, Nat.zero_le _, rfl, rfl, by omega, by omega, by simp, own0.out, by simp [val_nil], (Below.refl _ _).alloc (Nat.le_refl _) _⟩
  case round =>
    obtain ⟨k, c, R, hk, rfl, rfl, hc0, hc1, hR, hown, heq, hb⟩ := hrel
    have HR := Lib.hid hR; clear hR
    have Heq := Lib.hid heq; clear heq
    have Hown := Lib.hid hown; clear hown
    have Hb := Lib.hid hb; clear hb
    by_cases hlt : k < n
    · obtain ⟨b, o, rfl, hx1⟩ := (Hh.out.ext Hb.out).addr k (by rw [Hl.out]; omega)
      obtain ⟨hcell, hfr⟩ := Hown.out.at_ k (by rw [HR.out]; omega)
      have b1 := fd_bound f (dg x k) hf (Hh.out.wf.dg k).1 (Hh.out.wf.dg k).2
      have b2 := fd_bound g (dg y k) hg (Hh'.out.wf.dg k).1 (Hh'.out.wf.dg k).2
      have b3 := Hh.out.wf.dg k
      have b4 := Hh'.out.wf.dg k
      by_cases hlt2 : k < m
      · obtain ⟨b', o', rfl, hy1⟩ := (Hh'.out.ext Hb.out).addr k (by rw [Hr.out]; omega)
        go_wp2
        go_roundw
        case rel =>
          refine ⟨k + 1, (f * dg x k + c + g * dg y k) / 4294967296, R.set k ((f * dg x k + c + g * dg y k) % 4294967296), by omega, by go_num, by first | rfl | go_num, by omega, by omega, by rw [List.length_set]; exact HR.out,
            Hown.out.store k (by omega) (by omega), comb_step x y R k f g c _ (by rw [HR.out]; omega) Hh.out.wf Hh'.out.wf rfl Heq.out, Hb.out.setCell (Nat.le_refl _) _⟩
        case measure => simp [intOf]; omega
      · have hz : dg y k = 0 := dg_ge y k (by rw [Hr.out]; omega)
        have Hz := Lib.hid hz; clear hz
        clear b2
        go_wp2
        go_roundw
        case rel =>
          refine ⟨k + 1, (f * dg x k + c) / 4294967296, R.set k ((f * dg x k + c) % 4294967296), by omega, by go_num, by first | rfl | go_num, by omega, by omega, by rw [List.length_set]; exact HR.out,
            Hown.out.store k (by omega) (by omega), comb_step x y R k f g c _ (by rw [HR.out]; omega) Hh.out.wf Hh'.out.wf (by rw [Hz.out]; omega) Heq.out, Hb.out.setCell (Nat.le_refl _) _⟩
        case measure => simp [intOf]; omega
    · obtain rfl : k = n := by omega
      have hv := Lib.hid (comb_end Hown.out.2 HR.out Heq.out Hl.out (by rw [Hr.out]; exact hmn) H0.out H1.out)
      go_wp2_with (go_at_call 70; refine (cut_any _ _ _ _ R HR.out (Nat.le_refl _) (by omega) Hown.out.ru).mono ?_; rintro e w' ⟨rfl, rfl⟩)
      go_ret
      refine ⟨_, rfl, Hb.out, ?_⟩
      have e1 := Hown.out.cut
      have e3 : clen R = (digits (val R)).length := rfl
      have e4 : (f * (val x : Int) + g * val y).toNat = val R := by rw [← hv.out]; rfl
      show OwnU _ _ (.slice _ (clen R) _) _
      rw [e3, e4]
      exact e1

def max4 (x y z u : Int) : Int := max (max (max x y) z) u
theorem max4_le (x y z u b : Int) : max4 x y z u ≤ b ↔ x ≤ b ∧ y ≤ b ∧ z ≤ b ∧ u ≤ b := by unfold max4; omega
theorem ite_max (x y : Int) : (if x < y then y else x) = max x y := by split <;> omega
@[go_sem] theorem run_max_int4 {P : Program} {w : World} (ts : Array TypeId) (t : TypeId) (k : IntKind) (x y z u : Int) : (Builtin.max_ ts t #[.int k x, .int k y, .int k z, .int k u]).run P w = .ok (.int k (max4 x y z u)) w := by
  simp [Builtin.max_, Builtin.max2, ite_max, max4]
theorem fc_bound (f c : Int) (hf0 : 0 ≤ f) (hf : f ≤ 2147483647) (hc : -2147483647 ≤ c ∧ c ≤ 2147483647) : -4611686014132420609 ≤ f * c ∧ f * c ≤ 4611686014132420609 := by
  have h1 : f * c ≤ f * 2147483647 := Int.mul_le_mul_of_nonneg_left hc.2 hf0
  have h2 : f * (-2147483647) ≤ f * c := Int.mul_le_mul_of_nonneg_left hc.1 hf0
  omega
theorem results_tmp4 {fn : Func} {t u v x : Tmp} (h : fn.results = #[.tmp t, .tmp u, .tmp v, .tmp x]) (tmps : Array Value) (P : Program) (w : World) :
    (results fn tmps).run P w = .ok (.tuple #[tmps.getD t undef, tmps.getD u undef, tmps.getD v undef, tmps.getD x undef]) w := by
  simp [results, h]
theorem cofactors_any (w : World) (X Y K p0 x' q0 y' : Int) (hX : X = p0 * K + x') (hY : Y = q0 * K + y') (hx0 : 0 ≤ x') (hxK : x' < K) (hy0 : 0 ≤ y') (hyK : y' < K) (hp0 : 0 ≤ p0) (hq0 : 0 ≤ q0)
    (hp1 : p0 < 4611686018427387904) (hq1 : q0 < 4611686018427387904) (hle : Y ≤ X) (hY0 : 0 ≤ Y) :
    Calls Tryz.prog 123 #[.int .i64 p0, .int .i64 q0] w fun e w' => w = w' ∧ ∃ p q a b c d, e = .returned (.tuple #[.int .i64 a, .int .i64 b, .int .i64 c, .int .i64 d]) ∧ LInv X Y K p0 x' q0 y' p q a b c d := by
  have H0 := Lib.hid (leh_start X Y K p0 x' q0 y' hp0 hq0 hp1 hq1 hle hY0)
  have HX := Lib.hid hX; have HY := Lib.hid hY
  clear hX hY hle hY0
  go_enter Tryz.func123, Tryz.ntmps123
  go_wp2
  go_loopw [0, 1, 4, 5, 6, 7] (fun p q a b c d wr => wr = w ∧ ∃ P Q A B C D : Int, p = .int .i64 P ∧ q = .int .i64 Q ∧ a = .int .i64 A ∧ b = .int .i64 B ∧ c = .int .i64 C ∧ d = .int .i64 D ∧ 0 ≤ P ∧ 0 ≤ Q ∧ LInv X Y K p0 x' q0 y' P Q A B C D) (fun _ q _ _ _ _ _ => (intOf q).toNat)
  case atStart => exact ⟨rfl, p0, q0, 1, 0, 0, 1, rfl, rfl, rfl, rfl, rfl, rfl, hp0, hq0, H0.out⟩
  case round =>
    obtain ⟨rfl, P, Q, A, B, C, D, rfl, rfl, rfl, rfl, rfl, rfl, hP, hQ, hinv⟩ := hrel
    have b1 := hinv.pa; have b2 := hinv.pb; have b3 := hinv.qc; have b4 := hinv.qd
    have c1 := hinv.ba; have c2 := hinv.bb; have c3 := hinv.bc; have c4 := hinv.bd
    have d1 := hinv.p1; have d2 := hinv.q1
    have Hinv := Lib.hid hinv; clear hinv
    by_cases h1 : Q + C = 0
    · have h1' : (Q + C != 0) = false := by simpa using h1
      have G1 := Lib.hid h1; clear h1
      go_wp2
      ((try simp only [Exit.inBlock, Exit.then]); refine bodyPost_ret (results_tmp4 rfl _ _ _) rfl ?_)
      exact ⟨rfl, P, Q, A, B, C, D, rfl, Hinv.out⟩
    · have h1' : (Q + C != 0) = true := by simpa using h1
      have n1 : 0 < Q + C := by omega
      have G1 := Lib.hid h1; clear h1
      by_cases h2 : Q + D = 0
      · have h2' : (Q + D != 0) = false := by simpa using h2
        have G2 := Lib.hid h2; clear h2
        go_wp2
        ((try simp only [Exit.inBlock, Exit.then]); refine bodyPost_ret (results_tmp4 rfl _ _ _) rfl ?_)
        exact ⟨rfl, P, Q, A, B, C, D, rfl, Hinv.out⟩
      · have h2' : (Q + D != 0) = true := by simpa using h2
        have n2 : 0 < Q + D := by omega
        have G2 := Lib.hid h2; clear h2
        obtain ⟨F, hF⟩ : ∃ F, F = (P + A) / (Q + C) := ⟨_, rfl⟩
        obtain ⟨G, hG⟩ : ∃ G, G = (P + B) / (Q + D) := ⟨_, rfl⟩
        have f0 : 0 ≤ F := by rw [hF]; exact Int.ediv_nonneg b1 b3
        have g0 : 0 ≤ G := by rw [hG]; exact Int.ediv_nonneg b2 b4
        have f1 : F ≤ P + A := by rw [hF]; exact Int.ediv_le_self _ b1
        have g1 : G ≤ P + B := by rw [hG]; exact Int.ediv_le_self _ b2
        have e1 : (P + A).tdiv (Q + C) = F := by rw [hF]; exact Int.tdiv_eq_ediv_of_nonneg b1
        have e2 : (P + B).tdiv (Q + D) = G := by rw [hG]; exact Int.tdiv_eq_ediv_of_nonneg b2
        have HF := Lib.hid hF; have HG := Lib.hid hG; clear hF hG
        by_cases hne : F = G
        · subst hne
          by_cases hlim : 2147483647 < F
          · go_wp2
            ((try simp only [Exit.inBlock, Exit.then]); refine bodyPost_ret (results_tmp4 rfl _ _ _) rfl ?_)
            exact ⟨rfl, P, Q, A, B, C, D, rfl, Hinv.out⟩
          · have m1 := fc_bound F C f0 (by omega) c3
            have m2 := fc_bound F D f0 (by omega) c4
            by_cases hmx : max4 (A - F * C) (-(A - F * C)) (B - F * D) (-(B - F * D)) ≤ 2147483647
            · have hm2 := (max4_le _ _ _ _ _).1 hmx
              have hst := leh_step F (A - F * C) (B - F * D) HX.out HY.out hx0 hxK hy0 hyK Hinv.out G1.out G2.out HF.out HG.out rfl rfl (by omega) (by omega)
              have Hst := Lib.hid hst.1
              obtain ⟨_, k1, k2, k3, k4⟩ := hst
              go_wp2
              go_roundw
              case rel => exact ⟨trivial, Q, P - F * Q, C, D, A - F * C, B - F * D, rfl, rfl, rfl, rfl, rfl, rfl, hQ, k2, Hst.out⟩
              case measure => simp [intOf]; omega
            · go_wp2
              ((try simp only [Exit.inBlock, Exit.then]); refine bodyPost_ret (results_tmp4 rfl _ _ _) rfl ?_)
              exact ⟨rfl, P, Q, A, B, C, D, rfl, Hinv.out⟩
        · have hneb : (F != G) = true := by simpa using hne
          clear hne
          go_wp2
          ((try simp only [Exit.inBlock, Exit.then]); refine bodyPost_ret (results_tmp4 rfl _ _ _) rfl ?_)
          exact ⟨rfl, P, Q, A, B, C, D, rfl, Hinv.out⟩
end Go.Proofs.YtckiojofncdoeaaGreatDoor
