/- The law of joined texts in plain Lean. -/
import Derived.Test.YtckiojofncdoeaaGreatDoorLaw1
namespace Go.Proofs.YtckiojofncdoeaaGreatDoor

theorem split_at {c : UInt8} : ∀ {l : List UInt8}, c ∈ l → l = ahead c l ++ c :: behind c l
  | [], h => by cases h
  | b :: l, h => by
    by_cases hb : b = c
    · subst hb; simp [ahead, behind]
    · have hb2 : (b != c) = true := by simpa using hb
      have hl : c ∈ l := by
        rcases List.mem_cons.1 h with h | h
        · exact absurd h.symm hb
        · exact h
      have ih := split_at hl
      unfold ahead behind at *
      rw [List.takeWhile_cons_of_pos (p := fun x => x != c) hb2, List.dropWhile_cons_of_pos (p := fun x => x != c) hb2, List.cons_append, ← ih]
theorem count_ahead (c : UInt8) (l : List UInt8) : (ahead c l).count c = 0 := by
  apply List.count_eq_zero.2
  intro h
  have := takeWhile_all h
  simp at this

/-- further on -/
def sh (L P : Nat) (t : Tok) : Tok := { t with line := t.line + L, pos := t.pos + P }
/-- what comes of the second text behind the first -/
def Behind (L P : Nat) (pre : List Tok) : Res → Res → Prop
  | .ok l, .ok l' => l' = pre ++ l.map (sh L P)
  | .ok _, .error (p, c) => c = 5 ∧ P ≤ p
  | .error (_, c), .error (p', c') => (c' = c ∨ c' = 5) ∧ P ≤ p'
  | .error _, .ok _ => False
theorem tokOf_sh (p : List UInt8) (line pos L P : Nat) : tokOf p (line + L) (pos + P) = (tokOf p line pos).map (sh L P) := by
  unfold tokOf
  split
  · rfl
  · cases numOf p <;> rfl
theorem words_behind (L P : Nat) (pre : List Tok) : ∀ (n : Nat) (text : List UInt8) (line pos : Nat) (acc acc' : List Tok), text.length = n → acc'.length ≤ 600 → acc' = pre ++ acc.map (sh L P) → Behind L P pre (words line text pos acc) (words (line + L) text (pos + P) acc') := by
  intro n
  induction n using Nat.strongRecOn with
  | _ n ih =>
    intro text line pos acc acc' hn h6 h
    by_cases h0 : text = []
    · subst h0
      rw [words_nil, words_nil]
      exact h
    · have hlt := behind_lt 32 text h0
      by_cases h1 : ahead 32 text = []
      · rw [words_skip h0 h1, words_skip h0 h1, Nat.add_right_comm]
        exact ih _ (by omega) _ _ _ _ _ rfl h6 h
      · rw [words_tok h0 h1, words_tok h0 h1, tokOf_sh]
        cases tokOf (ahead 32 text) line pos with
        | none => exact ⟨.inl rfl, Nat.le_add_left _ _⟩
        | some t =>
          simp only [Option.map_some]
          have hl : acc.length ≤ acc'.length := by rw [h, List.length_append, List.length_map]; omega
          by_cases h2 : acc'.length = 600
          · rw [if_pos h2]
            by_cases h3 : acc.length = 600
            · rw [if_pos h3]; exact ⟨.inl rfl, Nat.le_add_left _ _⟩
            · rw [if_neg h3]
              cases words line (behind 32 text) (pos + (text.length - (behind 32 text).length)) (acc ++ [t]) with
              | error e => exact ⟨.inr rfl, Nat.le_add_left _ _⟩
              | ok l => exact ⟨rfl, Nat.le_add_left _ _⟩
          · rw [if_neg h2]
            by_cases h3 : acc.length = 600
            · exact absurd (show acc'.length = 600 by omega) h2
            · rw [if_neg h3, Nat.add_right_comm]
              exact ih _ (by omega) _ _ _ _ _ rfl (by rw [List.length_append, List.length_singleton]; omega) (by rw [h, List.map_append, List.append_assoc]; rfl)
theorem words_le : ∀ (n : Nat) (text : List UInt8) (line pos : Nat) (acc l : List Tok), text.length = n → acc.length ≤ 600 → words line text pos acc = .ok l → l.length ≤ 600 := by
  intro n
  induction n using Nat.strongRecOn with
  | _ n ih =>
    intro text line pos acc l hn h6 h
    by_cases h0 : text = []
    · subst h0
      rw [words_nil] at h
      cases h
      exact h6
    · have hlt := behind_lt 32 text h0
      by_cases h1 : ahead 32 text = []
      · rw [words_skip h0 h1] at h
        exact ih _ (by omega) _ _ _ _ _ rfl h6 h
      · rw [words_tok h0 h1] at h
        cases ht : tokOf (ahead 32 text) line pos with
        | none => rw [ht] at h; cases h
        | some t =>
          rw [ht] at h
          simp only at h
          by_cases h2 : acc.length = 600
          · rw [if_pos h2] at h; cases h
          · rw [if_neg h2] at h
            exact ih _ (by omega) _ _ _ _ _ rfl (by rw [List.length_append, List.length_singleton]; omega) h
/-- Words' errors do not lie ahead of their line. -/
theorem lines_behind (L P : Nat) (pre : List Tok) : ∀ (n : Nat) (s : List UInt8) (line pos : Nat) (acc acc' : List Tok), s.length = n → acc'.length ≤ 600 → acc' = pre ++ acc.map (sh L P) → Behind L P pre (lines s line pos acc) (lines s (line + L) (pos + P) acc') := by
  intro n
  induction n using Nat.strongRecOn with
  | _ n ih =>
    intro s line pos acc acc' hn h6 h
    by_cases h0 : s = []
    · subst h0
      rw [lines_nil, lines_nil]
      exact h
    · have hlt := behind_lt 10 s h0
      have hw := words_behind L P pre _ (ahead 35 (ahead 10 s)) (line + 1) pos acc acc' rfl h6 h
      rw [lines_cons h0, lines_cons h0, show line + L + 1 = line + 1 + L by omega]
      cases hA : words (line + 1) (ahead 35 (ahead 10 s)) pos acc with
      | error e =>
        cases hB : words (line + 1 + L) (ahead 35 (ahead 10 s)) (pos + P) acc' with
        | error e' => rw [hA, hB] at hw; exact hw
        | ok l' => rw [hA, hB] at hw; exact hw.elim
      | ok l =>
        cases hB : words (line + 1 + L) (ahead 35 (ahead 10 s)) (pos + P) acc' with
        | error e' =>
          rw [hA, hB] at hw
          obtain ⟨p', c'⟩ := e'
          obtain ⟨rfl, hP⟩ := hw
          simp only
          by_cases h3 : l.length = 600
          · rw [if_pos h3]; exact ⟨.inr rfl, hP⟩
          · rw [if_neg h3]
            cases lines (behind 10 s) (line + 1) (pos + (ahead 10 s).length + 1) (l ++ [endTok (line + 1) (pos + (ahead 10 s).length)]) with
            | error e => exact ⟨.inr rfl, hP⟩
            | ok l => exact ⟨rfl, hP⟩
        | ok l' =>
          rw [hA, hB] at hw
          have hl' := words_le _ _ _ _ _ _ rfl h6 hB
          have hw' : l' = pre ++ l.map (sh L P) := hw
          have hl : l.length ≤ l'.length := by rw [hw', List.length_append, List.length_map]; omega
          simp only
          have hP : P ≤ pos + P + (ahead 10 s).length := by omega
          by_cases h2 : l'.length = 600
          · rw [if_pos h2]
            by_cases h3 : l.length = 600
            · rw [if_pos h3]; exact ⟨.inl rfl, hP⟩
            · rw [if_neg h3]
              cases lines (behind 10 s) (line + 1) (pos + (ahead 10 s).length + 1) (l ++ [endTok (line + 1) (pos + (ahead 10 s).length)]) with
              | error e => exact ⟨.inr rfl, hP⟩
              | ok l => exact ⟨rfl, hP⟩
          · rw [if_neg h2]
            by_cases h3 : l.length = 600
            · exact absurd (show l'.length = 600 by omega) h2
            · rw [if_neg h3, show pos + P + (ahead 10 s).length + 1 = pos + (ahead 10 s).length + 1 + P by omega]
              refine ih _ (by omega) _ _ _ _ _ rfl (by rw [List.length_append, List.length_singleton]; omega) ?_
              rw [hw', List.map_append, List.append_assoc]
              congr 1
              show _ ++ [endTok (line + 1 + L) (pos + P + (ahead 10 s).length)] = _ ++ [sh L P (endTok (line + 1) (pos + (ahead 10 s).length))]
              rw [show pos + P + (ahead 10 s).length = pos + (ahead 10 s).length + P by omega]
              rfl
/-- how many lines end in a text -/
def nl (s : List UInt8) : Nat := s.count 10
/-- A text that ends with a line, and another one behind it. -/
theorem lines_join : ∀ (n : Nat) (s y : List UInt8) (line pos : Nat) (acc : List Tok), s.length = n →
    lines (s ++ 10 :: y) line pos acc = match lines (s ++ [10]) line pos acc with
      | .error e => .error e
      | .ok l => lines y (line + nl s + 1) (pos + s.length + 1) l := by
  intro n
  induction n using Nat.strongRecOn with
  | _ n ih =>
    intro s y line pos acc hn
    by_cases hc : (10 : UInt8) ∈ s
    · obtain ⟨a1, b1⟩ := ahead_app (10 :: y) hc
      obtain ⟨a2, b2⟩ := ahead_app [10] hc
      have hs0 : s ≠ [] := fun e => by rw [e] at hc; cases hc
      have hlt := behind_lt 10 s hs0
      have hlen : (ahead 10 s).length + 1 + (behind 10 s).length = s.length ∧ nl (behind 10 s) + 1 = nl s := by
        have h := split_at hc
        constructor
        · have := congrArg List.length h
          rw [List.length_append, List.length_cons] at this
          omega
        · unfold nl
          conv => rhs; rw [h]
          rw [List.count_append, List.count_cons_self, count_ahead]
          omega
      rw [lines_cons (by simp), lines_cons (by simp), a1, b1, a2, b2]
      cases words (line + 1) (ahead 35 (ahead 10 s)) pos acc with
      | error e => rfl
      | ok l =>
        simp only
        by_cases h2 : l.length = 600
        · rw [if_pos h2, if_pos h2]
        · rw [if_neg h2, if_neg h2, ih _ (by omega) _ _ _ _ _ rfl]
          cases lines (behind 10 s ++ [10]) (line + 1) (pos + (ahead 10 s).length + 1) (l ++ [endTok (line + 1) (pos + (ahead 10 s).length)]) with
          | error e => rfl
          | ok l2 =>
            simp only
            rw [show line + 1 + nl (behind 10 s) + 1 = line + nl s + 1 by omega, show pos + (ahead 10 s).length + 1 + (behind 10 s).length + 1 = pos + s.length + 1 by omega]
    · obtain ⟨a1, b1, _, _⟩ := ahead_no y hc
      obtain ⟨a2, b2, _, _⟩ := ahead_no [] hc
      have hnl : nl s = 0 := List.count_eq_zero.2 hc
      rw [lines_cons (by simp), lines_cons (by simp), a1, b1, a2, b2]
      cases words (line + 1) (ahead 35 s) pos acc with
      | error e => rfl
      | ok l =>
        simp only
        by_cases h2 : l.length = 600
        · rw [if_pos h2, if_pos h2]
        · rw [if_neg h2, if_neg h2, lines_nil, hnl]
end Go.Proofs.YtckiojofncdoeaaGreatDoor
