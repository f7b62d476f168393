/- LexerSpaces: the walk. -/
import Derived.Test.YtckiojofncdoeaaGreatDoorLawB
import Derived.Test.YtckiojofncdoeaaGreatDoorLawC
import Derived.Test.YtckiojofncdoeaaGreatDoorLawS
namespace Go.Proofs.YtckiojofncdoeaaGreatDoor
open Go.RowKit Go.Deep

/-- The two rows, where there is something in them. -/
theorem two_rows {b1 : Nat} {w1 w2 : World} {A B : Option Addr} {n cA cB : Nat} {tsA tsB : List Tok} (hA : Toks b1 w1 (.slice A n cA) tsA) (hB : Toks w1.heap.size w2 (.slice B n cB) tsB) (hb : Below w1.heap.size w1 w2) (_hb1 : b1 ≤ w1.heap.size) (hnA : n = tsA.length) (hnB : n = tsB.length) :
    ∃ ga gb : Nat, 0 < n → A = some ⟨ga, 0, none⟩ ∧ B = some ⟨gb, 0, none⟩ ∧ n ≤ cA ∧ n ≤ cB ∧ ga ≠ gb ∧ b1 ≤ ga ∧ b1 ≤ gb ∧ RowT w2 ga (fun k => k = ga ∨ k = gb) tsA ∧ RowT w2 gb (fun k => k = ga ∨ k = gb) tsB := by
  by_cases h0 : 0 < n
  · obtain ⟨ga, ca, e1, h1, h2, h3, h4⟩ := hA.rowT (by omega)
    obtain ⟨gb, cb, e2, k1, k2, k3, k4⟩ := hB.rowT (by omega)
    simp only [Value.slice.injEq] at e1 e2
    obtain ⟨rfl, rfl, rfl⟩ := e1
    obtain ⟨rfl, _, rfl⟩ := e2
    refine ⟨ga, gb, fun _ => ⟨rfl, rfl, h1, by omega, by omega, h2, by omega, (h4 _ (fun k hk => ?_)).ext hb, k4 _ (fun k hk => ?_)⟩⟩
    · rcases hk with rfl | rfl
      · exact .inl rfl
      · exact .inr (.inr k2)
    · rcases hk with rfl | rfl
      · exact .inr (.inl h3)
      · exact .inl rfl
  · exact ⟨0, 0, fun h => absurd h h0⟩

set_option maxRecDepth 100000 in
set_option maxHeartbeats 6400000 in
theorem spaces_any (w : World) (T : Tab w) (s note : ByteArray) : Calls Tryz.prog 5 #[.string s, .string note] w fun e w' => e = .returned (.bool true) ∧ Below w.heap.size w w' := by
  have HT := Lib.hid T; clear T
  by_cases h300 : 300 < s.size
  · go_enter Tryz.func5, Tryz.ntmps5
    go_wp2_with fail
    refine (awake_any _ HT.out).mono ?_
    rintro e w1 ⟨rfl, hb1⟩
    go_wp2
    go_ret
    exact ⟨rfl, hb1⟩
  by_cases h100 : 100 < note.size
  · go_enter Tryz.func5, Tryz.ntmps5
    go_wp2_with fail
    refine (awake_any _ HT.out).mono ?_
    rintro e w1 ⟨rfl, hb1⟩
    go_wp2
    go_ret
    exact ⟨rfl, hb1⟩
  obtain ⟨w0, hw0⟩ : ∃ x, x = w := ⟨_, rfl⟩
  have Hw0 := Lib.hid hw0; clear hw0
  go_enter Tryz.func5, Tryz.ntmps5
  go_wp2
  go_loopw [5] (fun i wr => wr = w ∧ ∃ k : Nat, k ≤ s.size ∧ i = .int .i64 k ∧ ∀ j (hj : j < s.size), j < k → (s[j]).toNat ≠ 10 ∧ (s[j]).toNat ≠ 35) (fun i _ => s.size - (intOf i).toNat)
  case atStart => exact ⟨rfl, 0, Nat.zero_le _, rfl, fun j _ h => absurd h (by omega)⟩
  case round =>
    obtain ⟨rfl, k, hk, rfl, hall⟩ := hrel
    have Hall := Lib.hid hall; clear hall
    by_cases hlt : k < s.size
    · by_cases hbad : (s[k]).toNat = 10 ∨ (s[k]).toNat = 35
      · have haw := awake_any _ HT.out
        have Haw := Lib.hid haw; clear haw
        rcases hbad with hb | hb
        · have c1 : (((s[k]).toNat : Int) == 10) = true := by rw [hb]; rfl
          clear hb
          go_wp2_with fail
          refine Haw.out.mono ?_
          rintro e w1 ⟨rfl, hb1⟩
          go_wp2
          go_ret
          exact ⟨rfl, hb1⟩
        · have c1 : (((s[k]).toNat : Int) == 10) = false := by rw [hb]; rfl
          have c2 : (((s[k]).toNat : Int) == 35) = true := by rw [hb]; rfl
          clear hb
          go_wp2_with fail
          refine Haw.out.mono ?_
          rintro e w1 ⟨rfl, hb1⟩
          go_wp2
          go_ret
          exact ⟨rfl, hb1⟩
      · have c1 : (((s[k]).toNat : Int) == 10) = false := by rw [beq_eq_false_iff_ne]; omega
        have c2 : (((s[k]).toNat : Int) == 35) = false := by rw [beq_eq_false_iff_ne]; omega
        have Hbad := Lib.hid hbad; clear hbad
        go_wp2
        go_roundw
        case rel =>
          refine ⟨by first | rfl | trivial, k + 1, by omega, by go_num, fun j hj hjk => ?_⟩
          rcases Nat.lt_or_ge j k with h | h
          · exact Hall.out j hj h
          · obtain rfl : j = k := by omega
            have := Hbad.out
            omega
        case measure => simp [intOf]; omega
    · have hS : ∀ j (hj : j < s.size), (s[j]).toNat ≠ 10 ∧ (s[j]).toNat ≠ 35 := fun j hj => Hall.out j hj (by omega)
      have HSs := Lib.hid hS
      clear hS Hall
      go_wp2
      go_loopw [6] (fun i wq => Drew wr wq ∧ ∃ k : Nat, k ≤ note.size ∧ i = .int .i64 k ∧ ∀ j (hj : j < note.size), j < k → (note[j]).toNat ≠ 10) (fun i _ => note.size - (intOf i).toNat)
      · exact ⟨Drew.refl _, 0, Nat.zero_le _, rfl, fun j _ h => absurd h (by omega)⟩
      · obtain ⟨hdw, k2, hk2, rfl, hall2⟩ := hrel
        have Hall2 := Lib.hid hall2; clear hall2
        have Hdw := Lib.hid hdw.below; have HDr := Lib.hid hdw; clear hdw
        by_cases hlt2 : k2 < note.size
        · by_cases hbad2 : (note[k2]).toNat = 10
          · have c1 : (((note[k2]).toNat : Int) == 10) = true := by rw [hbad2]; rfl
            have haw := awake_any _ (HT.out.ext Hdw.out)
            have Haw := Lib.hid haw; clear haw hbad2
            go_wp2_with fail
            refine Haw.out.mono ?_
            rintro e w1 ⟨rfl, hb1⟩
            have Hb1 := Lib.hid (bnext Hdw.out hb1); clear hb1
            go_wp2
            go_ret
            exact ⟨rfl, Hb1.out⟩
          · have c1 : (((note[k2]).toNat : Int) == 10) = false := by rw [beq_eq_false_iff_ne]; omega
            have Hbad2 := Lib.hid hbad2; clear hbad2
            go_wp2
            go_roundw
            · refine ⟨HDr.out, k2 + 1, by omega, by go_num, fun j hj hjk => ?_⟩
              rcases Nat.lt_or_ge j k2 with h | h
              · exact Hall2.out j hj h
              · obtain rfl : j = k2 := by omega
                exact Hbad2.out
            · simp [intOf]; omega
        · have hN : ∀ j (hj : j < note.size), (note[j]).toNat ≠ 10 := fun j hj => Hall2.out j hj (by omega)
          have hal := spaces_alike (s := s.data.toList) (note := note.data.toList) (no_byte (fun j hj => (HSs.out j hj).1)) (no_byte (fun j hj => (HSs.out j hj).2)) (no_byte hN)
          obtain ⟨RA, hRA⟩ : ∃ R, R = lines (s.data.toList ++ [10]) 0 0 [] := ⟨_, rfl⟩
          obtain ⟨RB, hRB⟩ : ∃ R, R = lines ([32, 32] ++ s.data.toList ++ [32, 32, 35] ++ note.data.toList ++ [10]) 0 0 [] := ⟨_, rfl⟩
          rw [← hRA, ← hRB] at hal
          obtain ⟨hcode, hmap⟩ := hal.res
          have shA : Short (resToks RA) := by rw [hRA]; exact short_res
          have shB : Short (resToks RB) := by rw [hRB]; exact short_res
          have hlAB : (resToks RA).length = (resToks RB).length := er_len hmap
          have hszA : (s ++ ⟨#[10]⟩ : ByteArray).size ≤ 4096 := by
            have h := bytes_size (s ++ ⟨#[10]⟩ : ByteArray)
            rw [cat_list, List.length_append, bytes_size] at h
            have h2 : (⟨#[10]⟩ : ByteArray).data.toList.length = 1 := rfl
            omega
          have hszB : (⟨#[32, 32]⟩ ++ s ++ ⟨#[32, 32, 35]⟩ ++ note ++ ⟨#[10]⟩ : ByteArray).size ≤ 4096 := by
            have h := bytes_size (⟨#[32, 32]⟩ ++ s ++ ⟨#[32, 32, 35]⟩ ++ note ++ ⟨#[10]⟩ : ByteArray)
            rw [cat_list, cat_list, cat_list, cat_list, List.length_append, List.length_append, List.length_append, List.length_append, bytes_size s, bytes_size note] at h
            have h2 : (⟨#[10]⟩ : ByteArray).data.toList.length = 1 := rfl
            have h3 : (⟨#[32, 32]⟩ : ByteArray).data.toList.length = 2 := rfl
            have h4 : (⟨#[32, 32, 35]⟩ : ByteArray).data.toList.length = 3 := rfl
            omega
          have htA := tokens_any _ (HT.out.ext Hdw.out) (s ++ ⟨#[10]⟩) hszA
          have htB := fun w1 (T : Tab w1) => tokens_any w1 T (⟨#[32, 32]⟩ ++ s ++ ⟨#[32, 32, 35]⟩ ++ note ++ ⟨#[10]⟩ : ByteArray) hszB
          rw [cat_list, show (⟨#[10]⟩ : ByteArray).data.toList = [10] from rfl, ← hRA] at htA
          simp only [cat_list, ← hRB] at htB
          have HtA := Lib.hid htA; have HtB := Lib.hid htB; have Hmap := Lib.hid hmap; have ShA := Lib.hid shA; have ShB := Lib.hid shB
          clear hN hal hRA hRB hmap shA shB hszA hszB htA htB
          go_wp2_with fail
          refine HtA.out.mono ?_
          rintro e w1 ⟨hb1, hpA⟩
          obtain ⟨vA, rfl, htoA, hlA⟩ := hpA.all
          obtain ⟨AA, cA, rfl⟩ := htoA.slice
          have Hb1 := Lib.hid (bnext Hdw.out hb1); have HtoA := Lib.hid htoA
          have HbA := Lib.hid hb1.size
          clear hb1 hpA htoA
          go_wp2_with fail
          refine (HtB.out w1 (HT.out.ext Hb1.out)).mono ?_
          rintro e w2 ⟨hb2, hpB⟩
          obtain ⟨vB, rfl, htoB, hlB⟩ := hpB.all
          obtain ⟨AB, cB, rfl⟩ := htoB.slice
          rw [← hcode, ← hlAB]
          have Hb2 := Lib.hid (bnext Hb1.out hb2); have HtoB := Lib.hid htoB; have HtoA2 := Lib.hid (HtoA.out.ext hb2)
          have Hbs2 := Lib.hid hb2.size; have Hw12 := Lib.hid hb2
          clear hb2 hpB htoB hcode
          obtain ⟨n, hn⟩ : ∃ n, n = (resToks RA).length := ⟨_, rfl⟩
          rw [← hn] at hlA hlAB ⊢
          have Hn := Lib.hid hn; have HlAB := Lib.hid hlAB
          clear hn hlAB hlB
          obtain ⟨ga, gb, hG⟩ := two_rows (n := n) (A := AA) (B := AB) (cA := cA) (cB := cB) (by rw [Hn.out]; exact HtoA.out) (by rw [HlAB.out]; exact HtoB.out) Hw12.out HbA.out Hn.out HlAB.out
          have hR0 : n = 0 → TokR w2 (.slice AA n cA) (resToks RA) ∧ TokR w2 (.slice AB n cB) (resToks RB) := fun _ => ⟨by rw [Hn.out]; exact HtoA2.out.r, by rw [HlAB.out]; exact HtoB.out.r⟩
          have hs0 : w0.heap.size ≤ wr.heap.size := by rw [Hw0.out]; exact Hdw.out.size
          have Hs0 := Lib.hid hs0; clear hs0
          have HG := Lib.hid hG; have HR0 := Lib.hid hR0
          clear hG hR0
          go_wp2
          go_loopw [81] (fun i wq => ∃ (k : Nat) (lA lB : List Tok), k ≤ n ∧ i = .int .i64 k ∧ Upto (resToks RA) k lA ∧ Upto (resToks RB) k lB ∧ (n = 0 → TokR wq (.slice AA n cA) lA ∧ TokR wq (.slice AB n cB) lB) ∧
              (0 < n → RowT wq ga (fun k => k = ga ∨ k = gb) lA ∧ RowT wq gb (fun k => k = ga ∨ k = gb) lB) ∧ Below w0.heap.size w0 wq ∧ True) (fun i _ => n - (intOf i).toNat)
          · exact ⟨0, _, _, Nat.zero_le _, rfl, Upto.start _, Upto.start _, HR0.out, fun h => ⟨(HG.out h).2.2.2.2.2.2.2.1, (HG.out h).2.2.2.2.2.2.2.2⟩, by rw [Hw0.out]; exact Hb2.out, trivial⟩
          · obtain ⟨k3, lA, lB, hk3, rfl, huA, huB, hz, hp, hbl, _⟩ := hrel
            have HuA := Lib.hid huA; have HuB := Lib.hid huB; have Hz := Lib.hid hz; have HpR := Lib.hid hp; have Hbl := Lib.hid hbl
            clear huA huB hz hp hbl
            by_cases hlt3 : k3 < n
            · obtain ⟨rfl, rfl, hcA, hcB, hne, hba, hbb, _, _⟩ := HG.out (by omega)
              obtain ⟨rA, rB⟩ := HpR.out (by omega)
              obtain ⟨tA, htA⟩ : ∃ t, (resToks RA)[k3]? = some t := ⟨(resToks RA)[k3]'(by rw [← Hn.out]; exact hlt3), List.getElem?_eq_getElem _⟩
              obtain ⟨tB, htB⟩ : ∃ t, (resToks RB)[k3]? = some t := ⟨(resToks RB)[k3]'(by rw [← HlAB.out]; exact hlt3), List.getElem?_eq_getElem _⟩
              have p1 := rA.pos (HuA.out.now.trans htA)
              have p2 := rA.frozen (k3 * 7 + 6)
              have rA2 := rA.zero (.inl rfl) tA (HuA.out.now.trans htA)
              have rB2 := rB.far (g' := ga) (j := k3 * 7 + 6) (.inl rfl) hne (.int .i64 0)
              have p3 := rB2.pos (HuB.out.now.trans htB)
              have p4 := rB2.frozen (k3 * 7 + 6)
              have rB3 := rB2.zero (.inr rfl) tB (HuB.out.now.trans htB)
              have rA3 := rA2.far (g' := gb) (j := k3 * 7 + 6) (.inr rfl) (Ne.symm hne) (.int .i64 0)
              have RA3 := Lib.hid rA3; have RB3 := Lib.hid rB3; have HtA := Lib.hid htA; have HtB := Lib.hid htB
              clear rA rB rA2 rB2 rA3 rB3 htA htB
              have hsa : w0.heap.size ≤ ga := Nat.le_trans Hs0.out hba
              have hsb : w0.heap.size ≤ gb := Nat.le_trans Hs0.out hbb
              go_wp2
              go_roundw
              · exact ⟨k3 + 1, _, _, by omega, by go_num, HuA.out.step HtA.out, HuB.out.step HtB.out, fun h => absurd h (by omega), fun _ => ⟨RA3.out, RB3.out⟩, (Hbl.out.setCell hsa _).setCell hsb _, trivial⟩
              · simp [intOf]; omega
            · obtain rfl : k3 = n := by omega
              have elA : lA = (resToks RA).map er := HuA.out.all (by rw [← Hn.out]; exact Nat.le_refl _)
              have elB : lB = (resToks RA).map er := by rw [HuB.out.all (by rw [← HlAB.out]; exact Nat.le_refl _), Hmap.out]
              have eln : ((resToks RA).map er).length = k3 := by rw [List.length_map, ← Hn.out]
              have hTA : TokR wr (.slice AA k3 cA) ((resToks RA).map er) := by
                by_cases h0 : 0 < k3
                · obtain ⟨e1, _, h1, _⟩ := HG.out h0
                  have h := ((HpR.out h0).1).r (cap := cA) (by rw [elA, eln]; exact h1)
                  rw [elA, eln] at h
                  rw [e1]; exact h
                · have h := (Hz.out (by omega)).1
                  rw [elA] at h; exact h
              have hTB : TokR wr (.slice AB k3 cB) ((resToks RA).map er) := by
                by_cases h0 : 0 < k3
                · obtain ⟨_, e1, _, h1, _⟩ := HG.out h0
                  have h := ((HpR.out h0).2).r (cap := cB) (by rw [elB, eln]; exact h1)
                  rw [elB, eln] at h
                  rw [e1]; exact h
                · have h := (Hz.out (by omega)).2
                  rw [elB] at h; exact h
              have haw := awake_any wr (fun k hk => by
                have h := HT.out k hk
                rw [← Hw0.out] at h
                exact cell_below Hbl.out h)
              have Haw := Lib.hid haw; have HTA := Lib.hid hTA; have HTB := Lib.hid hTB; have Heln := Lib.hid eln
              have Hbl2 : Hid (∀ w', Below wr.heap.size wr w' → Below w0.heap.size w0 w') := Lib.hid (fun w' hb => bthen Hbl.out hb Hbl.out.size)
              clear haw hTA hTB elA elB eln
              go_wp2_with fail
              refine Haw.out.mono ?_
              rintro e w3 ⟨rfl, hb3⟩
              have Hb3 := Lib.hid hb3; clear hb3
              go_wp2_with fail
              refine (r11same_eq w3 _ _ ((resToks RA).map er) (HTA.out.ext Hb3.out) (HTB.out.ext Hb3.out) (short_er ShA.out) (by rw [Heln.out]; omega)).mono ?_
              rintro e w4 ⟨rfl, hb4⟩
              have Hb4 := Lib.hid (Hbl2.out _ (bnext Hb3.out hb4)); clear hb4
              go_wp2
              go_ret
              exact ⟨rfl, by have h := Hb4.out; rw [Hw0.out] at h; exact h⟩
end Go.Proofs.YtckiojofncdoeaaGreatDoor
