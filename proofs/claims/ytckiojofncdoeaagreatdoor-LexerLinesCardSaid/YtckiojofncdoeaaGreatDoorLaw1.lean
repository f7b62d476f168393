/- The law of spaces in plain Lean; numbers are short. -/
import Derived.Test.YtckiojofncdoeaaGreatDoorLawA
namespace Go.Proofs.YtckiojofncdoeaaGreatDoor

def er (t : Tok) : Tok := { t with pos := 0 }
/-- the same code, or the same tokens but for places -/
def Alike : Res → Res → Prop
  | .error (_, c), .error (_, c') => c = c'
  | .ok l, .ok l' => l.map er = l'.map er
  | _, _ => False
theorem tokOf_pos (p : List UInt8) (line pos pos' : Nat) : tokOf p line pos' = (tokOf p line pos).map fun t => { t with pos := pos' } := by
  unfold tokOf
  split
  · rfl
  · cases numOf p <;> rfl
theorem er_len {l l' : List Tok} (h : l.map er = l'.map er) : l.length = l'.length := by
  have := congrArg List.length h
  simpa using this
theorem words_er : ∀ (n : Nat) (text : List UInt8) (line pos pos' : Nat) (acc acc' : List Tok), text.length = n → acc.map er = acc'.map er → Alike (words line text pos acc) (words line text pos' acc') := by
  intro n
  induction n using Nat.strongRecOn with
  | _ n ih =>
    intro text line pos pos' acc acc' hn h
    by_cases h0 : text = []
    · subst h0
      rw [words_nil, words_nil]
      exact h
    · have hlt := behind_lt 32 text h0
      by_cases h1 : ahead 32 text = []
      · rw [words_skip h0 h1, words_skip h0 h1]
        exact ih _ (by omega) _ _ _ _ _ _ rfl h
      · rw [words_tok h0 h1, words_tok h0 h1, tokOf_pos _ _ pos pos']
        cases tokOf (ahead 32 text) line pos with
        | none => exact rfl
        | some t =>
          simp only [Option.map_some]
          rw [er_len h]
          by_cases h2 : acc'.length = 600
          · rw [if_pos h2, if_pos h2]; exact rfl
          · rw [if_neg h2, if_neg h2]
            exact ih _ (by omega) _ _ _ _ _ _ rfl (by rw [List.map_append, List.map_append, h]; rfl)
theorem words_lead (line pos : Nat) (acc : List Tok) (t : List UInt8) : words line (32 :: t) pos acc = words line t (pos + 1) acc := by
  have h1 : ahead 32 (32 :: t) = [] := by simp [ahead]
  have h2 : behind 32 (32 :: t) = t := by simp [behind]
  rw [words_skip (by simp) h1, h2]
  simp
theorem ahead_app {c : UInt8} : ∀ {t : List UInt8} (u : List UInt8), c ∈ t → ahead c (t ++ u) = ahead c t ∧ behind c (t ++ u) = behind c t ++ u
  | [], _, h => by simp at h
  | b :: t, u, h => by
    by_cases hb : b = c
    · subst hb
      simp [ahead, behind]
    · have hb2 : (b != c) = true := by simpa using hb
      have ht : c ∈ t := by
        rcases List.mem_cons.1 h with h | h
        · exact absurd h.symm hb
        · exact h
      obtain ⟨h1, h2⟩ := ahead_app u ht
      unfold ahead behind at *
      rw [List.cons_append, List.takeWhile_cons_of_pos (p := fun x => x != c) hb2, List.dropWhile_cons_of_pos (p := fun x => x != c) hb2, List.takeWhile_cons_of_pos (p := fun x => x != c) hb2, List.dropWhile_cons_of_pos (p := fun x => x != c) hb2, h1]
      exact ⟨rfl, h2⟩
theorem ahead_no {c : UInt8} : ∀ {t : List UInt8} (u : List UInt8), c ∉ t → ahead c (t ++ c :: u) = t ∧ behind c (t ++ c :: u) = u ∧ ahead c t = t ∧ behind c t = []
  | [], u, _ => by simp [ahead, behind]
  | b :: t, u, h => by
    have hb : b ≠ c := fun e => h (by simp [e])
    have hb2 : (b != c) = true := by simpa using hb
    obtain ⟨h1, h2, h3, h4⟩ := ahead_no u (fun h' => h (List.mem_cons.2 (.inr h')))
    unfold ahead behind at *
    rw [List.cons_append, List.takeWhile_cons_of_pos (p := fun x => x != c) hb2, List.dropWhile_cons_of_pos (p := fun x => x != c) hb2, List.takeWhile_cons_of_pos (p := fun x => x != c) hb2, List.dropWhile_cons_of_pos (p := fun x => x != c) hb2, h1, h3]
    exact ⟨rfl, h2, rfl, h4⟩
theorem words_two (line pos : Nat) (acc : List Tok) : words line [32, 32] pos acc = .ok acc := by rw [words_lead, words_lead, words_nil]
theorem words_trail : ∀ (n : Nat) (t : List UInt8) (line pos : Nat) (acc : List Tok), t.length = n → words line (t ++ [32, 32]) pos acc = words line t pos acc := by
  intro n
  induction n using Nat.strongRecOn with
  | _ n ih =>
    intro t line pos acc hn
    by_cases h0 : t = []
    · subst h0
      rw [List.nil_append, words_two, words_nil]
    · have hlt := behind_lt 32 t h0
      have h0' : t ++ [32, 32] ≠ [] := by simp
      by_cases hc : (32 : UInt8) ∈ t
      · obtain ⟨e1, e2⟩ := ahead_app [32, 32] hc
        have hp : (t ++ [32, 32]).length - (behind 32 t ++ [32, 32]).length = t.length - (behind 32 t).length := by
          rw [List.length_append, List.length_append]; omega
        by_cases h1 : ahead 32 t = []
        · rw [words_skip h0 h1, words_skip h0' (by rw [e1]; exact h1), e2, hp]
          exact ih _ (by omega) _ _ _ _ rfl
        · rw [words_tok h0 h1, words_tok h0' (by rw [e1]; exact h1), e1, e2, hp]
          cases tokOf (ahead 32 t) line pos with
          | none => rfl
          | some tk =>
            simp only
            by_cases h2 : acc.length = 600
            · rw [if_pos h2, if_pos h2]
            · rw [if_neg h2, if_neg h2]
              exact ih _ (by omega) _ _ _ _ rfl
      · obtain ⟨e1, e2, e3, e4⟩ := ahead_no [32] hc
        have h1 : ahead 32 t ≠ [] := by rw [e3]; exact h0
        rw [words_tok h0 h1, words_tok h0' (by rw [show t ++ [32, 32] = t ++ 32 :: [32] from rfl, e1]; exact h0), show t ++ [32, 32] = t ++ 32 :: [32] from rfl, e1, e2, e3, e4]
        cases tokOf t line pos with
        | none => rfl
        | some tk =>
          simp only
          by_cases h2 : acc.length = 600
          · rw [if_pos h2, if_pos h2]
          · rw [if_neg h2, if_neg h2, words_lead, words_nil, words_nil]

/-- one line -/
theorem lines_one {l : List UInt8} (h : (10 : UInt8) ∉ l) : lines (l ++ [10]) 0 0 [] = match words 1 (ahead 35 l) 0 [] with
    | .error e => .error e
    | .ok acc' => if acc'.length = 600 then .error (l.length, 5) else .ok (acc' ++ [endTok 1 l.length]) := by
  obtain ⟨e1, e2, _, _⟩ := ahead_no (c := 10) [] h
  rw [lines_cons (by simp), e1, e2]
  simp only [Nat.zero_add]
  cases words 1 (ahead 35 l) 0 [] with
  | error e => rfl
  | ok acc' =>
    simp only
    by_cases h6 : acc'.length = 600
    · rw [if_pos h6, if_pos h6]
    · rw [if_neg h6, if_neg h6, lines_nil]
theorem spaces_alike {s note : List UInt8} (h1 : (10 : UInt8) ∉ s) (h2 : (35 : UInt8) ∉ s) (h3 : (10 : UInt8) ∉ note) :
    Alike (lines (s ++ [10]) 0 0 []) (lines ([32, 32] ++ s ++ [32, 32, 35] ++ note ++ [10]) 0 0 []) := by
  have hb : (10 : UInt8) ∉ [32, 32] ++ s ++ [32, 32, 35] ++ note := by
    intro h
    simp only [List.mem_append, List.mem_cons, List.not_mem_nil, or_false] at h
    rcases h with ((h | h) | h) | h
    · rcases h with h | h <;> exact absurd h (by decide)
    · exact h1 h
    · rcases h with h | h | h <;> exact absurd h (by decide)
    · exact h3 h
  have ha : ahead 35 s = s := (ahead_no (c := 35) [] h2).2.2.1
  have hc : ahead 35 ([32, 32] ++ s ++ [32, 32, 35] ++ note) = 32 :: 32 :: (s ++ [32, 32]) := by
    have hno : (35 : UInt8) ∉ (32 :: 32 :: (s ++ [32, 32])) := by
      intro h
      simp only [List.mem_cons, List.mem_append, List.not_mem_nil, or_false] at h
      rcases h with h | h | h | h | h
      · exact absurd h (by decide)
      · exact absurd h (by decide)
      · exact h2 h
      · exact absurd h (by decide)
      · exact absurd h (by decide)
    have e := (ahead_no (c := 35) note hno).1
    rw [show [32, 32] ++ s ++ [32, 32, 35] ++ note = (32 :: 32 :: (s ++ [32, 32])) ++ 35 :: note from by simp]
    exact e
  rw [lines_one h1, lines_one hb, ha, hc, words_lead, words_lead, words_trail _ _ _ _ _ rfl]
  have hw := words_er _ s 1 0 (0 + 1 + 1) [] [] rfl rfl
  cases hA : words 1 s 0 [] with
  | error e =>
    cases hB : words 1 s (0 + 1 + 1) [] with
    | error e' => rw [hA, hB] at hw; exact hw
    | ok l' => rw [hA, hB] at hw; exact hw.elim
  | ok l =>
    cases hB : words 1 s (0 + 1 + 1) [] with
    | error e' => rw [hA, hB] at hw; exact hw.elim
    | ok l' =>
      rw [hA, hB] at hw
      have hw' : l.map er = l'.map er := hw
      simp only
      rw [er_len hw']
      by_cases h6 : l'.length = 600
      · rw [if_pos h6, if_pos h6]; exact rfl
      · rw [if_neg h6, if_neg h6]
        show (l ++ [_]).map er = (l' ++ [_]).map er
        rw [List.map_append, List.map_append, hw']
        rfl

theorem numAbs_short {l : List UInt8} {q : Rat} (h : numAbs l = some q) : (digits q.num.natAbs).length ≤ 100 ∧ (digits q.den).length ≤ 100 := by
  unfold numAbs at h
  split at h
  · cases h
  · rename_i h1
    have hV := dec_lead_lt (l := l) (by omega)
    split at h
    · obtain rfl := Option.some.inj h
      exact nat_small hV
    · rename_i c r _
      split at h
      · cases h
      · rename_i h2
        have hV2 := dec_lead_lt (l := r) (by omega)
        split at h
        · cases h
        · split at h
          · obtain rfl := Option.some.inj h
            exact dot_small hV hV2 (by omega)
          · split at h
            · split at h
              · cases h
              · rename_i h3
                obtain rfl := Option.some.inj h
                exact frac_small hV hV2 h3
            · cases h
theorem numOf_short {l : List UInt8} {q : Rat} (h : numOf l = some q) : (digits q.num.natAbs).length ≤ 100 ∧ (digits q.den).length ≤ 100 := by
  unfold numOf at h
  obtain ⟨q', h1, h2⟩ := Option.map_eq_some_iff.1 h
  have h3 := numAbs_short h1
  by_cases hp : Lib.hasPrefix l [45] = true
  · simp only [hp, if_true] at h2
    subst h2
    rw [(fr_neg q').2.1, (fr_neg q').2.2]
    exact h3
  · simp only [hp] at h2
    subst h2
    exact h3
def Short1 (t : Tok) : Prop := (digits t.nm).length ≤ 100 ∧ (digits t.dn).length ≤ 100
theorem short_none (k : Nat) (x : List UInt8) (line pos : Nat) : Short1 ⟨k, x, none, line, pos⟩ := by
  show (digits 0).length ≤ 100 ∧ (digits 0).length ≤ 100
  rw [digits_zero]; exact ⟨by decide, by decide⟩
theorem tokOf_short {p : List UInt8} {line pos : Nat} {t : Tok} (h : tokOf p line pos = some t) : Short1 t := by
  unfold tokOf at h
  split at h
  · obtain rfl := Option.some.inj h
    exact short_none _ _ _ _
  · obtain ⟨q, h1, rfl⟩ := Option.map_eq_some_iff.1 h
    exact numOf_short h1
theorem words_short : ∀ (n : Nat) (text : List UInt8) (line pos : Nat) (acc l : List Tok), text.length = n → (∀ t ∈ acc, Short1 t) → words line text pos acc = .ok l → ∀ t ∈ l, Short1 t := by
  intro n
  induction n using Nat.strongRecOn with
  | _ n ih =>
    intro text line pos acc l hn ha h
    by_cases h0 : text = []
    · subst h0
      rw [words_nil] at h
      cases h
      exact ha
    · have hlt := behind_lt 32 text h0
      by_cases h1 : ahead 32 text = []
      · rw [words_skip h0 h1] at h
        exact ih _ (by omega) _ _ _ _ _ rfl ha h
      · rw [words_tok h0 h1] at h
        cases ht : tokOf (ahead 32 text) line pos with
        | none => rw [ht] at h; cases h
        | some t =>
          rw [ht] at h
          simp only at h
          by_cases h2 : acc.length = 600
          · rw [if_pos h2] at h; cases h
          · rw [if_neg h2] at h
            refine ih _ (by omega) _ _ _ _ _ rfl (fun t' ht' => ?_) h
            rcases List.mem_append.1 ht' with h3 | h3
            · exact ha t' h3
            · obtain rfl : t' = t := by simpa using h3
              exact tokOf_short ht
theorem lines_short : ∀ (n : Nat) (s : List UInt8) (line pos : Nat) (acc l : List Tok), s.length = n → (∀ t ∈ acc, Short1 t) → lines s line pos acc = .ok l → ∀ t ∈ l, Short1 t := by
  intro n
  induction n using Nat.strongRecOn with
  | _ n ih =>
    intro s line pos acc l hn ha h
    by_cases h0 : s = []
    · subst h0
      rw [lines_nil] at h
      cases h
      exact ha
    · have hlt := behind_lt 10 s h0
      rw [lines_cons h0] at h
      cases hw : words (line + 1) (ahead 35 (ahead 10 s)) pos acc with
      | error e => rw [hw] at h; cases h
      | ok acc' =>
        rw [hw] at h
        simp only at h
        have ha' := words_short _ _ _ _ _ _ rfl ha hw
        by_cases h2 : acc'.length = 600
        · rw [if_pos h2] at h; cases h
        · rw [if_neg h2] at h
          refine ih _ (by omega) _ _ _ _ _ rfl (fun t' ht' => ?_) h
          rcases List.mem_append.1 ht' with h3 | h3
          · exact ha' t' h3
          · obtain rfl : t' = endTok (line + 1) (pos + (ahead 10 s).length) := by simpa using h3
            exact short_none _ _ _ _
end Go.Proofs.YtckiojofncdoeaaGreatDoor
