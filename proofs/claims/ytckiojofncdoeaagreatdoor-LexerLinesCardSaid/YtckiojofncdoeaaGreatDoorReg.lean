/- A drawn region whose last operations stand in one order behind all others: cut ahead of them. No function of the program is named. -/
import Derived.Test.YtckiojofncdoeaaGreatDoorHeap
import Derived.StillTail
namespace Go.Proofs.YtckiojofncdoeaaGreatDoor

theorem heap_set {w : World} {g i : Nat} {cs : Array Value} {t : TypeId} {fz : Nat × Nat} {v : Value} (h : w.heap[g]? = some (.cells cs t fz)) : (w.setCell ⟨g, i, none⟩ v).heap[g]? = some (.cells (cs.setIfInBounds i v) t fz) := by
  simp [World.setCell, Array.getElem?_modify, h]
theorem heap_set_ne {w : World} {g k i : Nat} {v : Value} (h : g ≠ k) : (w.setCell ⟨g, i, none⟩ v).heap[k]? = w.heap[k]? := by
  simp [World.setCell, Array.getElem?_modify, h]

/-- The post of the head: R where it ends normally. -/
def HeadPost (Q : Exit → Act → World → Prop) (R : Act → World → Prop) : Exit → Act → World → Prop
  | .normal, a, w => R a w
  | e, a, w => Q e a w
theorem HeadPost.lets {Q : Exit → Act → World → Prop} {R : Act → World → Prop} (h : LetsOut (HeadPost Q R)) : LetsOut Q := h
theorem upon_head {P : Program} {o : Oper} {a : Act} {w : World} {K K' : Act → World → Prop} {Q : Exit → Act → World → Prop} {R : Act → World → Prop} (hK : ∀ a w, K a w → K' a w)
    (h : o.wp P a w K (HeadPost Q R)) : o.wp P a w K' Q := by
  unfold Oper.wp at *
  generalize (execOp a.eval o).run P w = r at *
  cases r with
  | ok n w' =>
    cases n <;> simp only [Oper.upon] at h ⊢ <;>
      first
        | exact hK _ _ h
        | exact Calls.mono h (fun e w'' he => by cases e <;> first | exact hK _ _ he | exact he)
        | exact Rows.mono h (fun _ _ he => hK _ _ he)
  | halt x w' => cases x <;> simp only [Oper.upon] at h ⊢ <;> exact h

section
variable {P : Program} {Q : Exit → Act → World → Prop} {R : Act → World → Prop} {md : Region.Mode}

/-- What is asked of the operations: the edges lead back; the head's have no guard; each of the tail waits for the whole head; the tail goes in its order. -/
def splits (md : Region.Mode) (ops : List Oper) (n : Nat) : Bool :=
  decide (n < ops.length) && ((List.range ops.length).all fun i => match ops[i]? with
    | some o => o.after.all (fun e => !Region.binds md e || decide (e.on < i)) &&
        (if i < n then o.guard.isNone else true)
    | none => true) && Region.sinkB md ops.toArray n && Region.chainB md ops.toArray n &&
  Region.seqB md ops.toArray (ops.length - n) n (Array.replicate n true ++ Array.replicate (ops.length - n) false)

theorem wpAny_more {ops : Array Oper} {Q' : Exit → Act → World → Prop} : ∀ (f : Nat) (listed : Array Bool) (a : Act) (w : World), wpAny P md ops Q' f listed a w → wpAny P md ops Q' (f + 1) listed a w
  | 0, _, _, _, h => ⟨fun _ => h.2, fun i hi => by rw [h.1] at hi; cases hi⟩
  | f + 1, _, _, _, h => ⟨h.1, fun i hi => wpOp_mono (fun a w h' => wpAny_more f _ a w h') (h.2 i hi)⟩
theorem wpAny_mores {ops : Array Oper} {Q' : Exit → Act → World → Prop} (k : Nat) {f : Nat} {listed : Array Bool} {a : Act} {w : World} (h : wpAny P md ops Q' f listed a w) : wpAny P md ops Q' (f + k) listed a w := by
  induction k with
  | zero => exact h
  | succ k ih => exact wpAny_more _ _ _ _ ih

theorem getD_in0 {listed : Array Bool} {i : Nat} (hi : i < listed.size) (h : listed.getD i false = false) : listed.getD i true = false := by
  simp [hi] at h ⊢; exact h
theorem wp_region_split {id n : Nat} {ops : Array Oper} {a : Act} {w : World} (hm : P.follows .mixedOrders = true) (hs : splits .any ops.toList n = true) (R : Act → World → Prop)
    (hh : wpAny P .any (ops.toList.take n).toArray (HeadPost Q R) n (Array.replicate n false) a { w with drawn := w.drawn + 1 })
    (ht : ∀ a w, R a w → wpList P ops Q (ops.toList.drop n) a w) : (Code.region id ops true).wp P Q a w := by
  simp only [splits, Bool.and_eq_true, decide_eq_true_eq, List.all_eq_true, List.mem_range] at hs
  obtain ⟨⟨⟨⟨hn, hall⟩, hsink⟩, hchain⟩, hseq⟩ := hs
  rw [show ops.toList.toArray = ops from by simp] at hsink hchain
  have hN : ops.toList.length = ops.size := by simp
  have hback : ∀ i o, ops[i]? = some o → ∀ e ∈ o.after, Region.binds .any e = true → e.on < i := by
    intro i o ho e he hb
    have hi : i < ops.toList.length := by rw [hN]; exact (Array.getElem?_eq_some_iff.1 ho).1
    have h1 := hall i hi
    rw [Array.getElem?_toList, ho] at h1
    simp only [Bool.and_eq_true] at h1
    have h2 := Array.all_eq_true'.1 h1.1 e he
    simpa [hb] using h2
  have hguard : ∀ i o, i < n → ops[i]? = some o → o.guard = none := by
    intro i o hi ho
    have h1 := hall i (by omega)
    rw [Array.getElem?_toList, ho] at h1
    simp only [Bool.and_eq_true, hi, if_true, Option.isNone_iff_eq_none] at h1
    exact h1.2
  clear hall
  have hget : ∀ i, i < n → (ops.toList.take n).toArray[i]? = ops[i]? := by
    intro i hi
    rw [List.getElem?_toArray, List.getElem?_take, if_pos hi, Array.getElem?_toList]
  have hget' : ∀ i, n ≤ i → (ops.toList.take n).toArray[i]? = none := by
    intro i hi
    rw [List.getElem?_toArray, List.getElem?_take, if_neg (by omega)]
  have key : ∀ (f : Nat) (L : Array Bool) (a : Act) (w : World), L.size = n → HeadInv .any ops n (L ++ Array.replicate (ops.size - n) false) → wpAny P .any (ops.toList.take n).toArray (HeadPost Q R) f L a w →
      wpAny P .any ops Q ((ops.toList.drop n).length + f) (L ++ Array.replicate (ops.size - n) false) a w := by
    have hdone : ∀ (f : Nat) (L : Array Bool) (a : Act) (w : World), L.size = n → Region.ready .any (ops.toList.take n).toArray L = [] → R a w →
        wpAny P .any ops Q ((ops.toList.drop n).length + f) (L ++ Array.replicate (ops.size - n) false) a w := by
      intro f L a w hL hr hR
      have hfull : ∀ i, i < n → L.getD i false = true := by
        intro i
        induction i using Nat.strongRecOn with
        | _ i ih =>
          intro hi
          cases hl : L.getD i false with
          | true => rfl
          | false =>
            have hio : i < ops.size := by omega
            have hmem : i ∈ Region.ready .any (ops.toList.take n).toArray L := by
              rw [mem_ready]
              refine ⟨getD_in0 (by omega) hl, ops[i], ?_, ?_⟩
              · rw [hget i hi]; exact Array.getElem?_eq_getElem hio
              · intro e he hb
                have h1 := hback i _ (Array.getElem?_eq_getElem hio) e he hb
                exact ih e.on h1 (by omega)
            rw [hr] at hmem; cases hmem
      have hLe : L = Array.replicate n true := by
        apply Array.ext
        · rw [hL]; simp
        · intro i h1 h2
          have := hfull i (by omega)
          simp [h1] at this
          simp [this]
      rw [hLe]
      refine wpAny_mores f (wpAny_of_seq _ n _ a w (fun j => ?_) ?_ (ht a w hR))
      · rw [List.getElem?_drop, Array.getElem?_toList]
      · rw [List.length_drop]
        rw [hN] at hseq ⊢
        simpa using hseq
    intro f
    induction f with
    | zero =>
      intro L a w hL _ h
      exact hdone 0 L a w hL h.1 h.2
    | succ f ih =>
      intro L a w hL hinv h
      by_cases hr : Region.ready .any (ops.toList.take n).toArray L = []
      · exact hdone (f + 1) L a w hL hr (h.1 hr)
      · obtain ⟨i0, rest, hi0⟩ := List.exists_cons_of_ne_nil hr
        have hi0m : i0 ∈ Region.ready .any (ops.toList.take n).toArray L := by rw [hi0]; simp
        obtain ⟨hun0, o0, ho0, _⟩ := mem_ready.1 hi0m
        have hi0n : i0 < n := by
          rcases Nat.lt_or_ge i0 n with h1 | h1
          · exact h1
          · rw [hget' i0 h1] at ho0; cases ho0
        have hun0' : (L ++ Array.replicate (ops.size - n) false).getD i0 false = false := by
          have h1 := hun0
          simp [show i0 < L.size by omega] at h1
          simp [show i0 < L.size by omega, show i0 < L.size + (ops.size - n) by omega, h1]
        have hsub : ∀ i ∈ Region.ready .any ops (L ++ Array.replicate (ops.size - n) false), i < n ∧ i ∈ Region.ready .any (ops.toList.take n).toArray L := by
          intro i hi
          obtain ⟨hun, o, ho, hpre⟩ := mem_ready.1 hi
          have hin : i < n := by
            rcases Nat.lt_or_ge i n with h1 | h1
            · exact h1
            · exact absurd hi (tail_waits hsink hchain (by omega) hinv _ i0 rfl hi0n (getD_in0 (by simp; omega) hun0') i h1)
          refine ⟨hin, mem_ready.2 ⟨?_, o, by rw [hget i hin]; exact ho, fun e he hb => ?_⟩⟩
          · have h1 := hun
            simp [show i < L.size by omega, show i < L.size + (ops.size - n) by omega] at h1
            simp [show i < L.size by omega, h1]
          · have h1 := hpre e he hb
            have h2 := hback i o ho e he hb
            simp [show e.on < L.size by omega, show e.on < L.size + (ops.size - n) by omega] at h1
            simp [show e.on < L.size by omega, h1]
        have hsup : Region.ready .any ops (L ++ Array.replicate (ops.size - n) false) ≠ [] := by
          intro h0
          have hm0 : i0 ∈ Region.ready .any ops (L ++ Array.replicate (ops.size - n) false) := by
            obtain ⟨_, o, ho, hpre⟩ := mem_ready.1 hi0m
            rw [hget i0 hi0n] at ho
            refine mem_ready.2 ⟨?_, o, ho, fun e he hb => ?_⟩
            · have h1 := hun0
              simp [show i0 < L.size by omega] at h1
              simp [show i0 < L.size by omega, show i0 < L.size + (ops.size - n) by omega, h1]
            · have h1 := hpre e he hb
              have h2 := hback i0 o ho e he hb
              simp [show e.on < L.size by omega] at h1
              simp [show e.on < L.size by omega, show e.on < L.size + (ops.size - n) by omega, h1]
          rw [h0] at hm0; cases hm0
        rw [show (ops.toList.drop n).length + (f + 1) = ((ops.toList.drop n).length + f) + 1 by omega]
        refine ⟨fun h0 => absurd h0 hsup, fun i hi => ?_⟩
        obtain ⟨hin, hir⟩ := hsub i hi
        have h1 := h.2 i hir
        have hset : (L ++ Array.replicate (ops.size - n) false).setIfInBounds i true = L.setIfInBounds i true ++ Array.replicate (ops.size - n) false := by
          apply Array.ext'
          simp [List.set_append]
          intro h2; omega
        rw [hset]
        have hio : i < ops.size := by omega
        have ho : ops[i]? = some ops[i] := Array.getElem?_eq_getElem hio
        have hg := hguard i _ hin ho
        unfold wpOp at h1 ⊢
        rw [hget i hin] at h1
        simp only [ho, Region.wanted, hg, if_true] at h1 ⊢
        rcases h1 with h1 | h1
        · exact .inl (upon_head (fun a w h' => ih _ a w (by simpa using hL) (by rw [← hset]; exact hinv.set hi hin) h') h1)
        · exact .inr ⟨h1.1, HeadPost.lets h1.2⟩
  refine wp_region_any hm ?_
  have hrep : (Array.replicate n false ++ Array.replicate (ops.size - n) false : Array Bool) = Array.replicate ops.size false := by
    rw [Array.replicate_append_replicate]; congr 1; omega
  have hinv0 : HeadInv .any ops n (Array.replicate n false ++ Array.replicate (ops.size - n) false) := by
    rw [hrep]
    exact ⟨by simp, fun j oj _ hl => (by rw [getD_replicate_false] at hl; cases hl), fun t ht ht' => getD_in0 (by simpa using ht') (getD_replicate_false _ _)⟩
  have h1 := key n _ a _ (by simp) hinv0 hh
  rw [List.length_drop, hN, show ops.size - n + n = ops.size by omega] at h1
  rwa [hrep] at h1

def upd (L : Nat → Bool) (i : Nat) : Nat → Bool := fun j => if j = i then true else L j
/-- The slots hold the values. -/
def putAll (a : Act) : List Tmp → List Value → Act
  | d :: ds, v :: vs => putAll (a.put (some d) v) ds vs
  | _, _ => a

def unlisted (listed : Array Bool) : Nat := (listed.toList.filter (fun b => !b)).length
theorem unlisted_set : ∀ (l : List Bool) (i : Nat), l.getD i true = false → ((l.set i true).filter (fun b => !b)).length + 1 = (l.filter (fun b => !b)).length
  | [], i, h => by simp at h
  | b :: l, 0, h => by
    simp at h
    subst h
    simp
  | b :: l, i + 1, h => by
    have ih := unlisted_set l i (by simpa using h)
    rw [List.set_cons_succ, List.filter_cons, List.filter_cons]
    cases b with
    | false => simp only [Bool.not_false, if_true, List.length_cons]; omega
    | true => simpa using ih

theorem wpAny_inv {ops : Array Oper} {Q' : Exit → Act → World → Prop} {Inv : (Nat → Bool) → Act → World → Prop}
    (hstep : ∀ i o, ops[i]? = some o → ∀ L a w, Inv L a w → L i = false → (∀ e ∈ o.after, Region.binds md e = true → L e.on = true) → ∀ K : Act → World → Prop, (∀ a' w', Inv (upd L i) a' w' → K a' w') → o.guard = none ∧ o.wp P a w K Q')
    (hend : ∀ L a w, (∀ i, i < ops.size → L i = true ∨ ∃ o, ops[i]? = some o ∧ ∃ e ∈ o.after, Region.binds md e = true ∧ L e.on = false) → Inv L a w → Q' .normal a w) :
    ∀ (f : Nat) (listed : Array Bool) (a : Act) (w : World), listed.size = ops.size → unlisted listed ≤ f → Inv (fun j => listed.getD j false) a w → wpAny P md ops Q' f listed a w := by
  have hnil : ∀ (listed : Array Bool) (a : Act) (w : World), listed.size = ops.size → Region.ready md ops listed = [] → Inv (fun j => listed.getD j false) a w → Q' .normal a w := by
    intro listed a w hsz hr hI
    refine hend _ a w (fun i hi => ?_) hI
    cases hl : listed.getD i false with
    | true => exact .inl rfl
    | false =>
      right
      refine ⟨ops[i], Array.getElem?_eq_getElem hi, ?_⟩
      apply Classical.byContradiction
      intro hno
      have hm : i ∈ Region.ready md ops listed := mem_ready.2 ⟨getD_in0 (by omega) hl, ops[i], Array.getElem?_eq_getElem hi, fun e he hb => by
        cases h2 : listed.getD e.on false with
        | true => rfl
        | false => exact absurd ⟨e, he, hb, h2⟩ hno⟩
      rw [hr] at hm; cases hm
  intro f
  induction f with
  | zero =>
    intro listed a w hsz hu hI
    have hr : Region.ready md ops listed = [] := by
      apply List.eq_nil_iff_forall_not_mem.2
      intro i hi
      obtain ⟨hun, o, ho, _⟩ := mem_ready.1 hi
      have h1 := unlisted_set listed.toList i (by simpa using hun)
      unfold unlisted at hu
      omega
    exact ⟨hr, hnil listed a w hsz hr hI⟩
  | succ f ih =>
    intro listed a w hsz hu hI
    refine ⟨fun hr => hnil listed a w hsz hr hI, fun i hi => ?_⟩
    obtain ⟨hun, o, ho, hpre⟩ := mem_ready.1 hi
    have hun' : listed.getD i false = false := getD_both hun
    have h1 := unlisted_set listed.toList i (by simpa using hun)
    have hio : i < listed.size := by rw [hsz]; exact (Array.getElem?_eq_some_iff.1 ho).1
    obtain ⟨hg, hw⟩ := hstep i o ho _ a w hI hun' hpre (wpAny P md ops Q' f (listed.setIfInBounds i true)) (fun a' w' hI' => by
      refine ih _ a' w' (by simpa using hsz) ?_ ?_
      · unfold unlisted at hu ⊢
        rw [Array.toList_setIfInBounds]
        omega
      · have he : (fun j => (listed.setIfInBounds i true).getD j false) = upd (fun j => listed.getD j false) i := by
          funext j
          unfold upd
          by_cases hji : j = i
          · subst hji; rw [if_pos rfl]; simp [hio]
          · rw [if_neg hji]; exact getD_set_ne false (Ne.symm hji)
        rw [he]; exact hI')
    unfold wpOp
    simp only [ho, Region.wanted, hg, if_true]
    exact .inl hw

/-- A drawn region: what holds is kept by each operation of the head, in whatever order; then the tail. -/
theorem wp_region_inv {id n : Nat} {ops : Array Oper} {a : Act} {w : World} (slots : List Tmp) (vs0 : List Value) (R : List Value → World → Prop) (Inv : (Nat → Bool) → List Value → World → Prop)
    (hm : P.follows .mixedOrders = true) (hs : splits .any ops.toList n = true) (hput : putAll a slots vs0 = a)
    (h0 : Inv (fun _ => false) vs0 w.drew)
    (hstep : ∀ i o, i < n → ops.toList[i]? = some o → ∀ L vs w, Inv L vs w → L i = false → (∀ e ∈ o.after, Region.binds .any e = true → L e.on = true) →
      ∀ K : Act → World → Prop, (∀ vs' w', Inv (upd L i) vs' w' → K (putAll a slots vs') w') → o.wp P (putAll a slots vs) w K (HeadPost Q (fun a' w' => ∃ vs', a' = putAll a slots vs' ∧ R vs' w')))
    (hend : ∀ L vs w, (∀ i, i < n → L i = true) → Inv L vs w → R vs w)
    (ht : ∀ vs w, R vs w → wpList P ops Q (ops.toList.drop n) (putAll a slots vs) w) : (Code.region id ops true).wp P Q a w := by
  have hs' := hs
  simp only [splits, Bool.and_eq_true, decide_eq_true_eq, List.all_eq_true, List.mem_range] at hs'
  obtain ⟨⟨⟨⟨hn, hall⟩, _⟩, _⟩, _⟩ := hs'
  refine wp_region_split hm hs (fun a' w' => ∃ vs', a' = putAll a slots vs' ∧ R vs' w') ?_ ?_
  · have hsz : (ops.toList.take n).toArray.size = n := by simp at hn ⊢; omega
    refine wpAny_inv (Inv := fun L a' w' => ∃ vs', a' = putAll a slots vs' ∧ Inv L vs' w') ?_ ?_ n _ a _ (by rw [hsz]; simp) ?_ ?_
    · intro i o ho L a' w' hI hL hpre K hK
      obtain ⟨vs', rfl, hI⟩ := hI
      have hi : i < n := by have := (Array.getElem?_eq_some_iff.1 ho).1; rw [hsz] at this; exact this
      have ho' : ops.toList[i]? = some o := by
        rw [List.getElem?_toArray, List.getElem?_take, if_pos hi] at ho
        exact ho
      refine ⟨?_, hstep i o hi ho' L vs' w' hI hL hpre K (fun vs'' w'' h => hK _ _ ⟨vs'', rfl, h⟩)⟩
      have h1 := hall i (by omega)
      rw [ho'] at h1
      simp only [Bool.and_eq_true, hi, if_true, Option.isNone_iff_eq_none] at h1
      exact h1.2
    · intro L a' w' hL hI
      obtain ⟨vs', rfl, hI⟩ := hI
      refine ⟨vs', rfl, hend L vs' w' ?_ hI⟩
      rw [hsz] at hL
      intro i
      induction i using Nat.strongRecOn with
      | _ i ih =>
        intro hi
        rcases hL i hi with h | ⟨o, ho, e, he, hb, hf⟩
        · exact h
        · have ho' : ops.toList[i]? = some o := by
            rw [List.getElem?_toArray, List.getElem?_take, if_pos hi] at ho
            exact ho
          have h1 := hall i (by omega)
          rw [ho'] at h1
          simp only [Bool.and_eq_true] at h1
          have h2 := Array.all_eq_true'.1 h1.1 e he
          have h3 : e.on < i := by simpa [hb] using h2
          rw [ih e.on h3 (by omega)] at hf
          cases hf
    · unfold unlisted; simp
    · refine ⟨vs0, hput.symm, ?_⟩
      have he : (fun j => (Array.replicate n false).getD j false) = fun _ => false := by funext j; exact getD_replicate_false n j
      rw [he]
      exact h0
  · rintro a' w' ⟨vs', rfl, hR⟩
    exact ht vs' w' hR

theorem wpList_head {ops : Array Oper} {K : Act → World → Prop} (hK : ∀ a w, K a w → Q .normal a w) : ∀ (l : List Oper) (a : Act) (w : World), wpList P ops (HeadPost Q K) l a w → wpList P ops Q l a w
  | [], a, w, h => hK a w h
  | o :: l, a, w, h => by
    unfold wpList at h ⊢
    split
    · rename_i hw
      rw [if_pos hw] at h
      rcases h with h | h
      · exact .inl (upon_head (fun a w h' => wpList_head hK l a w h') h)
      · exact .inr ⟨h.1, HeadPost.lets h.2⟩
    · rename_i hw
      rw [if_neg hw] at h
      exact wpList_head hK l _ w h

/-- The same, and what holds behind the tail is said anew. -/
theorem wp_region_inv2 {id n : Nat} {ops : Array Oper} {a : Act} {w : World} (slots : List Tmp) (vs0 : List Value) (R R2 : List Value → World → Prop) (Inv : (Nat → Bool) → List Value → World → Prop)
    (hm : P.follows .mixedOrders = true) (hs : splits .any ops.toList n = true) (hput : putAll a slots vs0 = a)
    (h0 : Inv (fun _ => false) vs0 w.drew)
    (hstep : ∀ i o, i < n → ops.toList[i]? = some o → ∀ L vs w, Inv L vs w → L i = false → (∀ e ∈ o.after, Region.binds .any e = true → L e.on = true) →
      ∀ (Q' : Exit → Act → World → Prop) (K : Act → World → Prop), (∀ vs' w', Inv (upd L i) vs' w' → K (putAll a slots vs') w') → o.wp P (putAll a slots vs) w K Q')
    (hend : ∀ L vs w, (∀ i, i < n → L i = true) → Inv L vs w → R vs w)
    (ht : ∀ vs w, R vs w → ∀ (Q' : Exit → Act → World → Prop), (∀ vs' w', R2 vs' w' → Q' .normal (putAll a slots vs') w') → wpList P ops Q' (ops.toList.drop n) (putAll a slots vs) w)
    (hf : ∀ vs w, R2 vs w → Q .normal (putAll a slots vs) w) : (Code.region id ops true).wp P Q a w := by
  refine wp_region_inv slots vs0 R Inv hm hs hput h0 ?_ hend ?_
  · intro i o hi ho L vs w hI hL hpre K hK
    exact hstep i o hi ho L vs w hI hL hpre _ K hK
  · intro vs w hR
    refine wpList_head (K := fun a' w' => ∃ vs', a' = putAll a slots vs' ∧ R2 vs' w') ?_ _ _ _ (ht vs w hR _ (fun vs' w' h => ⟨vs', rfl, h⟩))
    rintro a' w' ⟨vs', rfl, h⟩
    exact hf vs' w' h
end
end Go.Proofs.YtckiojofncdoeaaGreatDoor
