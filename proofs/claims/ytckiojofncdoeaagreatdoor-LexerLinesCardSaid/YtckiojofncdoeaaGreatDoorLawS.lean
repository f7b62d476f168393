/- what a call of Tokens hands back, both ways at once; lists with places overwritten so far. -/
import Derived.Test.YtckiojofncdoeaaGreatDoorLawB
import Derived.Test.YtckiojofncdoeaaGreatDoorLawC
namespace Go.Proofs.YtckiojofncdoeaaGreatDoor
open Go.RowKit Go.Deep

def resToks : Res → List Tok
  | .error _ => []
  | .ok l => l
def resPos : Res → Nat
  | .error (p, _) => p
  | .ok _ => 0
def resCode : Res → Nat
  | .error (_, c) => c
  | .ok _ => 0
theorem TokPost.all {base : Nat} {R : Res} {e : Ending} {w' : World} (h : TokPost base R e w') : ∃ v, e = .returned (.tuple #[v, .int .i64 (resPos R), .int .i64 (resCode R)]) ∧ Toks base w' v (resToks R) ∧ (resToks R).length ≤ 600 := by
  cases R with
  | error pc =>
    obtain ⟨p, c⟩ := pc
    exact ⟨_, h, Toks.nil _ _, Nat.zero_le _⟩
  | ok l =>
    obtain ⟨h1, v, h2, h3⟩ := h
    exact ⟨v, h2, h3, h1⟩
theorem Alike.res {R R' : Res} (h : Alike R R') : resCode R = resCode R' ∧ (resToks R).map er = (resToks R').map er := by
  cases R with
  | error pc =>
    cases R' with
    | error pc' => exact ⟨h, rfl⟩
    | ok l => exact h.elim
  | ok l =>
    cases R' with
    | error pc' => exact h.elim
    | ok l' => exact ⟨rfl, h⟩
theorem short_res {s : List UInt8} : Short (resToks (lines s 0 0 [])) := by
  cases h : lines s 0 0 [] with
  | error e => intro t ht; cases ht
  | ok l => exact lines_short _ s 0 0 [] l rfl (fun t ht => by cases ht) h
theorem short_er {l : List Tok} (h : Short l) : Short (l.map er) := by
  intro t ht
  obtain ⟨t', h1, rfl⟩ := List.mem_map.1 ht
  exact h t' h1
/-- l is ts, the first k places overwritten -/
def Upto (ts : List Tok) (k : Nat) (l : List Tok) : Prop := l.length = ts.length ∧ ∀ i : Nat, l[i]? = if i < k then (ts[i]?).map er else ts[i]?
theorem Upto.start (ts : List Tok) : Upto ts 0 ts := ⟨rfl, fun i => by rw [if_neg (by omega)]⟩
theorem Upto.now {ts l : List Tok} {k : Nat} (h : Upto ts k l) : l[k]? = ts[k]? := by rw [h.2, if_neg (by omega)]
theorem Upto.step {ts l : List Tok} {k : Nat} {t : Tok} (h : Upto ts k l) (ht : ts[k]? = some t) : Upto ts (k + 1) (l.set k (er t)) := by
  have hk : k < ts.length := (List.getElem?_eq_some_iff.1 ht).1
  refine ⟨by rw [List.length_set]; exact h.1, fun i => ?_⟩
  by_cases hik : i = k
  · subst hik
    rw [List.getElem?_set_self (by rw [h.1]; exact hk), if_pos (by omega), ht]; rfl
  · rw [List.getElem?_set_ne (Ne.symm hik), h.2]
    by_cases h1 : i < k
    · rw [if_pos h1, if_pos (by omega)]
    · rw [if_neg h1, if_neg (by omega)]
theorem Upto.all {ts l : List Tok} {k : Nat} (h : Upto ts k l) (hk : ts.length ≤ k) : l = ts.map er := by
  apply List.ext_getElem?
  intro i
  rw [h.2, List.getElem?_map]
  by_cases h1 : i < k
  · rw [if_pos h1]
  · rw [if_neg h1, List.getElem?_eq_none (by omega)]; rfl
theorem RowT.frozen {w : World} {g : Nat} {bad : Nat → Prop} {ts : List Tok} (h : RowT w g bad ts) (j : Nat) : w.frozen? ⟨g, j, none⟩ = false := by
  obtain ⟨cur, hc⟩ := h.row
  exact (by simp [World.frozen?, hc])
theorem RowT.pos {w : World} {g k : Nat} {bad : Nat → Prop} {ts : List Tok} (h : RowT w g bad ts) {t : Tok} (ht : ts[k]? = some t) : w.cell? ⟨g, k * 7 + 6, none⟩ = some (.int .i64 t.pos) := by
  obtain ⟨_, _, _, _, _, _, _, _, _, _, _, _, c7⟩ := h.at_ k t ht
  exact c7
theorem cat_list (a b : ByteArray) : (a ++ b).data.toList = a.data.toList ++ b.data.toList := by
  rw [ByteArray.data_append, Array.toList_append]
theorem no_byte {s : ByteArray} {c : UInt8} (h : ∀ j (hj : j < s.size), (s[j]).toNat ≠ c.toNat) : c ∉ s.data.toList := by
  intro hc
  obtain ⟨j, hj, e⟩ := List.getElem_of_mem hc
  have := h j (by rw [bytes_size] at hj; exact hj)
  rw [byte_at, e] at this
  exact this rfl
end Go.Proofs.YtckiojofncdoeaaGreatDoor
