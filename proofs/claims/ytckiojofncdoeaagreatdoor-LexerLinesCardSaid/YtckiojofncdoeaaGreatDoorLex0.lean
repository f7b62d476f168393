/- What Tokens returns, in plain Lean. -/
import Derived.Test.YtckiojofncdoeaaGreatDoorLexE
namespace Go.Proofs.YtckiojofncdoeaaGreatDoor

abbrev Res := Except (Nat × Nat) (List Tok)
theorem behind_lt (c : UInt8) (l : List UInt8) (h : l ≠ []) : (behind c l).length < l.length := by
  unfold behind
  have h1 := (List.dropWhile_suffix (fun x : UInt8 => x != c) (l := l)).length_le
  rw [List.length_drop]
  have : 0 < l.length := List.length_pos_iff.2 h
  omega
theorem behind_le (c : UInt8) (l : List UInt8) : (behind c l).length ≤ l.length := by
  unfold behind
  have h1 := (List.dropWhile_suffix (fun x : UInt8 => x != c) (l := l)).length_le
  rw [List.length_drop]
  omega
/-- the tokens of a line -/
def words (line : Nat) (text : List UInt8) (pos : Nat) (acc : List Tok) : Res :=
  if _h : text = [] then .ok acc
  else if ahead 32 text = [] then words line (behind 32 text) (pos + (text.length - (behind 32 text).length)) acc
  else match tokOf (ahead 32 text) line pos with
    | none => .error (pos, 6)
    | some t => if acc.length = 600 then .error (pos, 5) else words line (behind 32 text) (pos + (text.length - (behind 32 text).length)) (acc ++ [t])
termination_by text.length
decreasing_by all_goals exact behind_lt 32 text (by assumption)
def endTok (line pos : Nat) : Tok := ⟨3, [], none, line, pos⟩
/-- the tokens of a text -/
def lines (s : List UInt8) (line pos : Nat) (acc : List Tok) : Res :=
  if _h : s = [] then .ok acc
  else match words (line + 1) (ahead 35 (ahead 10 s)) pos acc with
    | .error e => .error e
    | .ok acc' => if acc'.length = 600 then .error (pos + (ahead 10 s).length, 5) else lines (behind 10 s) (line + 1) (pos + (ahead 10 s).length + 1) (acc' ++ [endTok (line + 1) (pos + (ahead 10 s).length)])
termination_by s.length
decreasing_by all_goals exact behind_lt 10 s (by assumption)
def tokensOf (s : List UInt8) : Res := if 4096 < s.length then .error (4096, 4) else lines s 0 0 []

theorem words_nil (line pos : Nat) (acc : List Tok) : words line [] pos acc = .ok acc := by rw [words]; simp
theorem words_skip {line pos : Nat} {acc : List Tok} {text : List UInt8} (h : text ≠ []) (h2 : ahead 32 text = []) : words line text pos acc = words line (behind 32 text) (pos + (text.length - (behind 32 text).length)) acc := by
  rw [words]; simp [h, h2]
theorem words_tok {line pos : Nat} {acc : List Tok} {text : List UInt8} (h : text ≠ []) (h2 : ahead 32 text ≠ []) : words line text pos acc = match tokOf (ahead 32 text) line pos with
    | none => .error (pos, 6)
    | some t => if acc.length = 600 then .error (pos, 5) else words line (behind 32 text) (pos + (text.length - (behind 32 text).length)) (acc ++ [t]) := by
  rw [words]; simp only [h, h2, dite_false, if_false]
theorem lines_nil (line pos : Nat) (acc : List Tok) : lines [] line pos acc = .ok acc := by rw [lines]; simp
theorem lines_cons {line pos : Nat} {acc : List Tok} {s : List UInt8} (h : s ≠ []) : lines s line pos acc = match words (line + 1) (ahead 35 (ahead 10 s)) pos acc with
    | .error e => .error e
    | .ok acc' => if acc'.length = 600 then .error (pos + (ahead 10 s).length, 5) else lines (behind 10 s) (line + 1) (pos + (ahead 10 s).length + 1) (acc' ++ [endTok (line + 1) (pos + (ahead 10 s).length)]) := by
  rw [lines]; simp only [h, dite_false]
theorem dropWhile_drop (c : UInt8) : ∀ l : List UInt8, l.dropWhile (fun x => x != c) = l.drop (l.takeWhile (fun x => x != c)).length
  | [] => rfl
  | b :: l => by
    by_cases hb : (b != c) = true
    · rw [List.takeWhile_cons_of_pos (p := fun x => x != c) hb, List.dropWhile_cons_of_pos (p := fun x => x != c) hb, dropWhile_drop c l]; rfl
    · rw [List.takeWhile_cons_of_neg (p := fun x => x != c) hb, List.dropWhile_cons_of_neg (p := fun x => x != c) hb]; rfl
theorem ahead_behind (c : UInt8) (l : List UInt8) : behind c l = l.drop ((ahead c l).length + 1) := by
  unfold behind ahead
  rw [dropWhile_drop, List.drop_drop]
theorem ahead_len (c : UInt8) (l : List UInt8) : (ahead c l).length ≤ l.length := by unfold ahead; exact (List.takeWhile_prefix _).length_le
end Go.Proofs.YtckiojofncdoeaaGreatDoor
