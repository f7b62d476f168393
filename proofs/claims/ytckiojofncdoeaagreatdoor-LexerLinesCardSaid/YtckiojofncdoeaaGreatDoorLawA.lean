/- tokens read out of a list; the examples of the chapter in plain Lean. -/
import Derived.Test.YtckiojofncdoeaaGreatDoorLexF
import Derived.Test.YtckiojofncdoeaaGreatDoorRefF
namespace Go.Proofs.YtckiojofncdoeaaGreatDoor
open Go.RowKit Go.Deep

theorem flatten_at : ∀ (L : List (List Value)) (i k : Nat) (cs : List Value), (∀ x ∈ L, x.length = 7) → L[i]? = some cs → k < 7 → L.flatten[7 * i + k]? = cs[k]?
  | [], i, k, cs, _, h, _ => by simp at h
  | x :: L, 0, k, cs, hl, h, hk => by
    simp at h
    subst h
    rw [List.flatten_cons, Nat.mul_zero, Nat.zero_add, List.getElem?_append_left (by rw [hl x (by simp)]; exact hk)]
  | x :: L, i + 1, k, cs, hl, h, hk => by
    have hx := hl x (by simp)
    rw [List.flatten_cons, List.getElem?_append_right (by rw [hx]; omega), hx, show 7 * (i + 1) + k - 7 = 7 * i + k by omega]
    exact flatten_at L i k cs (fun y hy => hl y (by simp [hy])) (by simpa using h) hk
theorem Toks.at_ {base : Nat} {w : World} {v : Value} {ts : List Tok} (h : Toks base w v ts) (i : Nat) (t : Tok) (ht : ts[i]? = some t) :
    ∃ (g cap : Nat) (text : ByteArray) (x y : Value), v = .slice (some ⟨g, 0, none⟩) ts.length cap ∧ ts.length ≤ cap ∧ text.data.toList = t.text ∧ OwnU base w x (digits t.nm) ∧ OwnU base w y (digits t.dn) ∧
      w.cell? ⟨g, 7 * i, none⟩ = some (.int .i64 t.kind) ∧ w.cell? ⟨g, 7 * i + 1, none⟩ = some (.string text) ∧ w.cell? ⟨g, 7 * i + 2, none⟩ = some (.bool t.neg) ∧ w.cell? ⟨g, 7 * i + 3, none⟩ = some x ∧
      w.cell? ⟨g, 7 * i + 4, none⟩ = some y ∧ w.cell? ⟨g, 7 * i + 5, none⟩ = some (.int .i64 t.line) ∧ w.cell? ⟨g, 7 * i + 6, none⟩ = some (.int .i64 t.pos) := by
  obtain ⟨L, h1, h2, h3⟩ := h
  have hi : i < ts.length := (List.getElem?_eq_some_iff.1 ht).1
  obtain ⟨cs, hcs⟩ : ∃ cs, L[i]? = some cs := ⟨L[i]'(by omega), List.getElem?_eq_getElem (by omega)⟩
  have hl : ∀ x ∈ L, x.length = 7 := by
    intro x hx
    obtain ⟨j, hj, rfl⟩ := List.getElem_of_mem hx
    exact (h3 j (ts[j]'(by omega)) _ (List.getElem?_eq_getElem (by omega)) (List.getElem?_eq_getElem hj)).len.1
  obtain ⟨text, x, y, rfl, htx, hx, hy, _, _⟩ := h3 i t cs ht hcs
  rcases h2.2 with ⟨_, hn⟩ | ⟨g, cap, cur, rfl, hbg, hg, hnc, hcm, hcz, htake⟩
  · omega
  · have hc : ∀ k u, k < 7 → ([Value.int .i64 t.kind, .string text, .bool t.neg, x, y, .int .i64 t.line, .int .i64 t.pos] : List Value)[k]? = some u → w.cell? ⟨g, 7 * i + k, none⟩ = some u := by
      intro k u hk hu
      have h4 := h2.cells (g := g) rfl (7 * i + k) u (by rw [flatten_at L i k _ hl hcs hk]; exact hu)
      have ha : (⟨g, 0, none⟩ : Addr).add (7 * i + k) = ⟨g, 0 + (7 * i + k), none⟩ := by unfold Addr.add; split <;> simp_all
      rwa [ha, Nat.zero_add] at h4
    exact ⟨g, cap, text, x, y, rfl, hnc, htx, hx, hy, hc 0 _ (by decide) rfl, hc 1 _ (by decide) rfl, hc 2 _ (by decide) rfl, hc 3 _ (by decide) rfl, hc 4 _ (by decide) rfl, hc 5 _ (by decide) rfl, hc 6 _ (by decide) rfl⟩

theorem aw_num1 : numOf [45, 48, 46, 50, 53] = some (fr true 1 4) := by decide +kernel
theorem aw_num2 : numOf [49, 47, 48] = none := by decide +kernel
theorem aw_num3 : numOf [51] = some 3 := by decide +kernel
theorem aw_tok1 : tokOf [102, 105, 114] 1 0 = some ⟨1, [102, 105, 114], none, 1, 0⟩ := by
  unfold tokOf; rw [if_pos (by decide +kernel)]
theorem aw_tok2 : tokOf [51] 1 4 = some ⟨2, [], some 3, 1, 4⟩ := by
  unfold tokOf; rw [if_neg (by decide +kernel), aw_num3]; rfl
theorem aw_words : words 1 [102, 105, 114, 32, 51, 32] 0 [] = .ok [⟨1, [102, 105, 114], none, 1, 0⟩, ⟨2, [], some 3, 1, 4⟩] := by
  rw [words_tok (by decide) (by decide +kernel), show ahead 32 [102, 105, 114, 32, 51, 32] = [102, 105, 114] from by decide +kernel, aw_tok1, show behind 32 [102, 105, 114, 32, 51, 32] = [51, 32] from by decide +kernel]
  simp only [List.length_nil, List.length_cons]
  rw [if_neg (by decide)]
  rw [show 0 + (0 + 1 + 1 + 1 + 1 + 1 + 1 - (0 + 1 + 1)) = 4 from rfl]
  rw [words_tok (by decide) (by decide +kernel), show ahead 32 [51, 32] = [51] from by decide +kernel, aw_tok2, show behind 32 [51, 32] = [] from by decide +kernel]
  simp only [List.length_nil, List.length_cons, List.nil_append]
  rw [if_neg (by decide), words_nil]
  rfl
theorem aw_lines : lines [102, 105, 114, 32, 51, 32, 35, 32, 120, 10] 0 0 [] = .ok [⟨1, [102, 105, 114], none, 1, 0⟩, ⟨2, [], some 3, 1, 4⟩, ⟨3, [], none, 1, 9⟩] := by
  rw [lines_cons (by decide), show ahead 10 [102, 105, 114, 32, 51, 32, 35, 32, 120, 10] = [102, 105, 114, 32, 51, 32, 35, 32, 120] from by decide +kernel, show ahead 35 [102, 105, 114, 32, 51, 32, 35, 32, 120] = [102, 105, 114, 32, 51, 32] from by decide +kernel,
    show behind 10 [102, 105, 114, 32, 51, 32, 35, 32, 120, 10] = [] from by decide +kernel, Nat.zero_add, aw_words]
  simp only [List.length_nil, List.length_cons]
  rw [if_neg (by decide), lines_nil]
  rfl
end Go.Proofs.YtckiojofncdoeaaGreatDoor
