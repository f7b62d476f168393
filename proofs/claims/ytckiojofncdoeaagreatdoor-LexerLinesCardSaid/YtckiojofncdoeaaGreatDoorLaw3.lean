/- Lines that are counted, errors' codes, bounds on positions; the law of joined texts in the form of the walk. -/
import Derived.Test.YtckiojofncdoeaaGreatDoorLaw2
import Derived.Test.YtckiojofncdoeaaGreatDoorLawS
namespace Go.Proofs.YtckiojofncdoeaaGreatDoor

/-- how many ends of lines are in a list -/
def ends (l : List Tok) : Nat := l.countP fun t => t.kind == 3
theorem ends_nil : ends [] = 0 := rfl
theorem ends_app (a b : List Tok) : ends (a ++ b) = ends a + ends b := List.countP_append
theorem tokOf_ends {p : List UInt8} {line pos : Nat} {t : Tok} (h : tokOf p line pos = some t) : ends [t] = 0 := by
  unfold tokOf at h
  split at h
  · obtain rfl := Option.some.inj h
    rfl
  · obtain ⟨q, _, rfl⟩ := Option.map_eq_some_iff.1 h
    rfl
theorem words_ends : ∀ (n : Nat) (text : List UInt8) (line pos : Nat) (acc l : List Tok), text.length = n → words line text pos acc = .ok l → ends l = ends acc := by
  intro n
  induction n using Nat.strongRecOn with
  | _ n ih =>
    intro text line pos acc l hn h
    by_cases h0 : text = []
    · subst h0
      rw [words_nil] at h
      cases h
      rfl
    · have hlt := behind_lt 32 text h0
      by_cases h1 : ahead 32 text = []
      · rw [words_skip h0 h1] at h
        exact ih _ (by omega) _ _ _ _ _ rfl h
      · rw [words_tok h0 h1] at h
        cases ht : tokOf (ahead 32 text) line pos with
        | none => rw [ht] at h; cases h
        | some t =>
          rw [ht] at h
          simp only at h
          by_cases h2 : acc.length = 600
          · rw [if_pos h2] at h; cases h
          · rw [if_neg h2] at h
            rw [ih _ (by omega) _ _ _ _ _ rfl h, ends_app, tokOf_ends ht, Nat.add_zero]
theorem lines_ends : ∀ (n : Nat) (s : List UInt8) (line pos : Nat) (acc l : List Tok), s.length = n → lines (s ++ [10]) line pos acc = .ok l → ends l = ends acc + nl s + 1 := by
  intro n
  induction n using Nat.strongRecOn with
  | _ n ih =>
    intro s line pos acc l hn h
    by_cases hc : (10 : UInt8) ∈ s
    · obtain ⟨a2, b2⟩ := ahead_app [10] hc
      have hs0 : s ≠ [] := fun e => by rw [e] at hc; cases hc
      have hlt := behind_lt 10 s hs0
      have hlen : nl (behind 10 s) + 1 = nl s := by
        have h := split_at hc
        unfold nl
        conv => rhs; rw [h]
        rw [List.count_append, List.count_cons_self, count_ahead]
        omega
      rw [lines_cons (by simp), a2, b2] at h
      cases hw : words (line + 1) (ahead 35 (ahead 10 s)) pos acc with
      | error e => rw [hw] at h; cases h
      | ok l2 =>
        rw [hw] at h
        simp only at h
        by_cases h2 : l2.length = 600
        · rw [if_pos h2] at h; cases h
        · rw [if_neg h2] at h
          rw [ih _ (by omega) _ _ _ _ _ rfl h, ends_app, words_ends _ _ _ _ _ _ rfl hw, ← hlen]
          show ends acc + 1 + _ + 1 = _
          omega
    · obtain ⟨a2, b2, _, _⟩ := ahead_no [] hc
      have hnl : nl s = 0 := List.count_eq_zero.2 hc
      rw [lines_cons (by simp), a2, b2] at h
      cases hw : words (line + 1) (ahead 35 s) pos acc with
      | error e => rw [hw] at h; cases h
      | ok l2 =>
        rw [hw] at h
        simp only at h
        by_cases h2 : l2.length = 600
        · rw [if_pos h2] at h; cases h
        · rw [if_neg h2, lines_nil] at h
          cases h
          rw [ends_app, words_ends _ _ _ _ _ _ rfl hw, hnl]
          rfl
theorem words_code : ∀ (n : Nat) (text : List UInt8) (line pos : Nat) (acc : List Tok) (p c : Nat), text.length = n → words line text pos acc = .error (p, c) → c ≠ 0 := by
  intro n
  induction n using Nat.strongRecOn with
  | _ n ih =>
    intro text line pos acc p c hn h
    by_cases h0 : text = []
    · subst h0
      rw [words_nil] at h
      cases h
    · have hlt := behind_lt 32 text h0
      by_cases h1 : ahead 32 text = []
      · rw [words_skip h0 h1] at h
        exact ih _ (by omega) _ _ _ _ _ _ rfl h
      · rw [words_tok h0 h1] at h
        cases ht : tokOf (ahead 32 text) line pos with
        | none => rw [ht] at h; cases h; decide
        | some t =>
          rw [ht] at h
          simp only at h
          by_cases h2 : acc.length = 600
          · rw [if_pos h2] at h; cases h; decide
          · rw [if_neg h2] at h
            exact ih _ (by omega) _ _ _ _ _ _ rfl h
theorem lines_code : ∀ (n : Nat) (s : List UInt8) (line pos : Nat) (acc : List Tok) (p c : Nat), s.length = n → lines s line pos acc = .error (p, c) → c ≠ 0 := by
  intro n
  induction n using Nat.strongRecOn with
  | _ n ih =>
    intro s line pos acc p c hn h
    by_cases h0 : s = []
    · subst h0
      rw [lines_nil] at h
      cases h
    · have hlt := behind_lt 10 s h0
      rw [lines_cons h0] at h
      cases hw : words (line + 1) (ahead 35 (ahead 10 s)) pos acc with
      | error e => rw [hw] at h; cases h; exact words_code _ _ _ _ _ _ _ rfl hw
      | ok acc' =>
        rw [hw] at h
        simp only at h
        by_cases h2 : acc'.length = 600
        · rw [if_pos h2] at h; cases h; decide
        · rw [if_neg h2] at h
          exact ih _ (by omega) _ _ _ _ _ _ rfl h
/-- positions and lines up to B -/
def Bd (B : Nat) (t : Tok) : Prop := t.pos ≤ B ∧ t.line ≤ B
theorem tokOf_bd {p : List UInt8} {line pos B : Nat} {t : Tok} (h : tokOf p line pos = some t) (h1 : pos ≤ B) (h2 : line ≤ B) : Bd B t := by
  unfold tokOf at h
  split at h
  · obtain rfl := Option.some.inj h
    exact ⟨h1, h2⟩
  · obtain ⟨q, _, rfl⟩ := Option.map_eq_some_iff.1 h
    exact ⟨h1, h2⟩
theorem words_bd (B : Nat) : ∀ (n : Nat) (text : List UInt8) (line pos : Nat) (acc l : List Tok), text.length = n → pos + n ≤ B → line ≤ B → (∀ t ∈ acc, Bd B t) → words line text pos acc = .ok l → ∀ t ∈ l, Bd B t := by
  intro n
  induction n using Nat.strongRecOn with
  | _ n ih =>
    intro text line pos acc l hn hp hl ha h
    by_cases h0 : text = []
    · subst h0
      rw [words_nil] at h
      cases h
      exact ha
    · have hlt := behind_lt 32 text h0
      by_cases h1 : ahead 32 text = []
      · rw [words_skip h0 h1] at h
        exact ih _ (by omega) _ _ _ _ _ rfl (by omega) hl ha h
      · rw [words_tok h0 h1] at h
        cases ht : tokOf (ahead 32 text) line pos with
        | none => rw [ht] at h; cases h
        | some t =>
          rw [ht] at h
          simp only at h
          by_cases h2 : acc.length = 600
          · rw [if_pos h2] at h; cases h
          · rw [if_neg h2] at h
            refine ih _ (by omega) _ _ _ _ _ rfl (by omega) hl (fun t' ht' => ?_) h
            rcases List.mem_append.1 ht' with h3 | h3
            · exact ha t' h3
            · obtain rfl : t' = t := by simpa using h3
              exact tokOf_bd ht (by omega) hl
theorem lines_bd (B : Nat) : ∀ (n : Nat) (s : List UInt8) (line pos : Nat) (acc l : List Tok), s.length = n → pos + n ≤ B → line + n ≤ B → (∀ t ∈ acc, Bd B t) → lines s line pos acc = .ok l → ∀ t ∈ l, Bd B t := by
  intro n
  induction n using Nat.strongRecOn with
  | _ n ih =>
    intro s line pos acc l hn hp hl ha h
    by_cases h0 : s = []
    · subst h0
      rw [lines_nil] at h
      cases h
      exact ha
    · have hlt := behind_lt 10 s h0
      have h35 := ahead_len 35 (ahead 10 s)
      have h10 := ahead_len 10 s
      rw [lines_cons h0] at h
      cases hw : words (line + 1) (ahead 35 (ahead 10 s)) pos acc with
      | error e => rw [hw] at h; cases h
      | ok acc' =>
        rw [hw] at h
        simp only at h
        have ha' := words_bd B _ _ _ _ _ _ rfl (by omega) (by omega) ha hw
        by_cases h2 : acc'.length = 600
        · rw [if_pos h2] at h; cases h
        · rw [if_neg h2] at h
          by_cases hc : (10 : UInt8) ∈ s
          · have hlen : (ahead 10 s).length + 1 + (behind 10 s).length = s.length := by
              have := congrArg List.length (split_at hc)
              rw [List.length_append, List.length_cons] at this
              omega
            refine ih _ (by omega) _ _ _ _ _ rfl (by omega) (by omega) (fun t' ht' => ?_) h
            rcases List.mem_append.1 ht' with h3 | h3
            · exact ha' t' h3
            · obtain rfl : t' = endTok (line + 1) (pos + (ahead 10 s).length) := by simpa using h3
              exact ⟨by show pos + (ahead 10 s).length ≤ B; omega, by show line + 1 ≤ B; omega⟩
          · have e : behind 10 s = [] := (ahead_no [] hc).2.2.2
            rw [e, lines_nil] at h
            cases h
            intro t' ht'
            rcases List.mem_append.1 ht' with h3 | h3
            · exact ha' t' h3
            · obtain rfl : t' = endTok (line + 1) (pos + (ahead 10 s).length) := by simpa using h3
              exact ⟨by show pos + (ahead 10 s).length ≤ B; omega, by show line + 1 ≤ B; omega⟩
theorem lines_le : ∀ (n : Nat) (s : List UInt8) (line pos : Nat) (acc l : List Tok), s.length = n → acc.length ≤ 600 → lines s line pos acc = .ok l → l.length ≤ 600 := by
  intro n
  induction n using Nat.strongRecOn with
  | _ n ih =>
    intro s line pos acc l hn ha h
    by_cases h0 : s = []
    · subst h0
      rw [lines_nil] at h
      cases h
      exact ha
    · have hlt := behind_lt 10 s h0
      rw [lines_cons h0] at h
      cases hw : words (line + 1) (ahead 35 (ahead 10 s)) pos acc with
      | error e => rw [hw] at h; cases h
      | ok acc' =>
        rw [hw] at h
        simp only at h
        have ha' := words_le _ _ _ _ _ _ rfl ha hw
        by_cases h2 : acc'.length = 600
        · rw [if_pos h2] at h; cases h
        · rw [if_neg h2] at h
          exact ih _ (by omega) _ _ _ _ _ rfl (by rw [List.length_append, List.length_singleton]; omega) h
theorem res_bd {s : List UInt8} : ∀ t ∈ resToks (lines s 0 0 []), Bd s.length t := by
  cases h : lines s 0 0 [] with
  | error e => intro t ht; cases ht
  | ok l => exact lines_bd _ _ s 0 0 [] l rfl (by omega) (by omega) (fun t ht => by cases ht) h
theorem res_pos {s : List UInt8} (h : resCode (lines (s ++ [10]) 0 0 []) = 0) : 0 < (resToks (lines (s ++ [10]) 0 0 [])).length := by
  cases hA : lines (s ++ [10]) 0 0 [] with
  | error e =>
    obtain ⟨p, c⟩ := e
    rw [hA] at h
    exact absurd h (lines_code _ _ _ _ _ _ _ rfl hA)
  | ok a =>
    have he := lines_ends _ _ _ _ _ _ rfl hA
    have hl : ends a ≤ a.length := List.countP_le_length
    show 0 < a.length
    omega
/-- the law, as the walk wants it -/
def Joined (n : Nat) (RA RB RC : Res) : Prop :=
  (resCode RA ≠ 0 → resCode RC = resCode RA) ∧ (resCode RA = 0 → (resCode RB ≠ 0 ∨ resCode RC ≠ 0 → (resCode RB = resCode RC ∨ resCode RC = 5) ∧ n < resPos RC) ∧
    (resCode RB = 0 → resCode RC = 0 → resToks RC = resToks RA ++ (resToks RB).map (sh (ends (resToks RA)) (n + 1))))
theorem lines_law (s more : List UInt8) : Joined s.length (lines (s ++ [10]) 0 0 []) (lines more 0 0 []) (lines (s ++ 10 :: more) 0 0 []) := by
  rw [lines_join _ s more 0 0 [] rfl]
  cases hA : lines (s ++ [10]) 0 0 [] with
  | error e =>
    obtain ⟨p, c⟩ := e
    have hc := lines_code _ _ _ _ _ _ _ rfl hA
    exact ⟨fun _ => rfl, fun h => absurd h hc⟩
  | ok a =>
    have ha := lines_le _ _ _ _ _ _ rfl (Nat.zero_le _) hA
    have he := lines_ends _ _ _ _ _ _ rfl hA
    have hb := lines_behind (nl s + 1) (s.length + 1) a _ more 0 0 [] a rfl ha (by rw [List.map_nil, List.append_nil])
    rw [ends_nil] at he
    simp only
    rw [show (0 : Nat) + nl s + 1 = 0 + (nl s + 1) by omega, show (0 : Nat) + s.length + 1 = 0 + (s.length + 1) by omega]
    refine ⟨fun h => absurd rfl h, fun _ => ?_⟩
    cases hB : lines more 0 0 [] with
    | error e =>
      obtain ⟨p, c⟩ := e
      have hc := lines_code _ _ _ _ _ _ _ rfl hB
      cases hC : lines more (0 + (nl s + 1)) (0 + (s.length + 1)) a with
      | error e' =>
        obtain ⟨p', c'⟩ := e'
        rw [hB, hC] at hb
        obtain ⟨h1, h2⟩ := hb
        refine ⟨fun _ => ⟨?_, h2⟩, fun h => absurd h hc⟩
        rcases h1 with h | h
        · exact .inl h.symm
        · exact .inr h
      | ok l => rw [hB, hC] at hb; exact hb.elim
    | ok b =>
      cases hC : lines more (0 + (nl s + 1)) (0 + (s.length + 1)) a with
      | error e' =>
        obtain ⟨p', c'⟩ := e'
        rw [hB, hC] at hb
        obtain ⟨h1, h2⟩ := hb
        have hc := lines_code _ _ _ _ _ _ _ rfl hC
        exact ⟨fun _ => ⟨.inr h1, h2⟩, fun _ h => absurd h hc⟩
      | ok l =>
        rw [hB, hC] at hb
        have hb' : l = a ++ b.map (sh (nl s + 1) (s.length + 1)) := hb
        refine ⟨fun h => ?_, fun _ _ => ?_⟩
        · rcases h with h | h <;> exact absurd rfl h
        · show l = a ++ b.map (sh (ends a) (s.length + 1))
          rw [hb', he, Nat.zero_add]
end Go.Proofs.YtckiojofncdoeaaGreatDoor
