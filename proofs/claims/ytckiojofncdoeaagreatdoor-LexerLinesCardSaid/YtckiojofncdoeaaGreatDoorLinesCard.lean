/- LexerLines returns true for any two strings, and they read afterwards as they did; condition: the listed package-level variables hold what the row lists. -/
import Derived.Test.YtckiojofncdoeaaGreatDoorLinD
import Derived.Test.YtckiojofncdoeaaGreatDoorCards
import Derived.Test.YtckiojofncdoeaaGreatDoorTie
import Derived.ProofKit
import Derived.OpenShut
import Derived.Deep.DeepHandedRow
import Derived.Lib.LaidTab
import Derived.LaidSub
import Derived.Lay
import Derived.SizedLaws
namespace Go.Proofs.YtckiojofncdoeaaGreatDoor.lexerLines
open Go.ChangeShapes Go.WideShapes Go.ChangeAt Go.RowKit
open Go.ChangeMaps (open_string shut_string)

theorem own : ownKnob Tryz.prog.godebug = none := by kernel_rfl
theorem gTab : Tryz.prog.globalNamed "dspcompiler/lexer.classes" = some 0 := by kernel_rfl
theorem gTabType : (Tryz.prog.globals[0]?).map (·.type) = some 87 := by kernel_rfl
theorem cellsT : Tryz.prog.cellsOf 87 = 128 := by kernel_rfl
theorem cells5 : Tryz.prog.cellsOf 5 = 1 := by kernel_rfl
theorem underT : Tryz.prog.underlying 87 = some (.array 128 5) := by kernel_rfl
theorem underB : Tryz.prog.underlying 5 = some (.int .u8) := by kernel_rfl
theorem underS : Tryz.prog.underlying 9 = some .string := by kernel_rfl
theorem underBool : Tryz.prog.underlying 4 = some .bool := by kernel_rfl

/-- The classes as the row lists them. -/
def zs : List Int := (List.range 128).map fun k => (cls k : Int)
theorem zs_at (k : Nat) (hk : k < 128) : zs.getD k 0 = (cls k : Int) := by
  unfold zs
  rw [List.getD_eq_getElem?_getD, List.getElem?_map, List.getElem?_range hk]
  rfl
theorem laid_eq : (Rows.laid_dspcompiler_lexer_classes : DataW Unit) = Lib.tabData .u8 zs := by kernel_rfl
theorem table {W : World} (h : laidMetH Tryz.prog Rows.lexerLinesRow.laid W) : Tab W := by
  have h2 := h.filter (fun x => x.1 == "dspcompiler/lexer.classes")
  have h3 : laidMetH Tryz.prog [("dspcompiler/lexer.classes", Lib.tabData .u8 zs)] W := by
    rw [← laid_eq]
    exact h2
  have h4 : Lib.TabIs Tryz.prog W "dspcompiler/lexer.classes" .u8 zs := Lib.tabIs_of_head (rest := []) gTab gTabType underT underB cells5 cellsT h3
  intro k hk
  have h5 := h4.cell gTab k (by unfold zs; rw [List.length_map, List.length_range]; exact hk)
  rw [zs_at k hk] at h5
  exact h5

set_option maxRecDepth 100000 in
theorem contract (H : Type) (enc : TypeId × Value → H) (W : World) (base : Nat) (args : Array Value) (ds gs : List (DataW H)) (before : List MemPlace)
    (hval : ∀ (j : Nat) t v, Tryz.f4.params[j]? = some t → args[j]? = some v → Value.okWide Tryz.prog W .any base t v)
    (hW : DataW.Whole enc Tryz.prog Tryz.f4.params.toList Rows.lexerLinesSpec.vars false W args.toList ds gs before) (hL : laidMetH Tryz.prog Rows.lexerLinesRow.laid W)
    (hsz0 : (DataW.weightsEach Tryz.prog (Tryz.f4.params.toList ++ Rows.lexerLinesSpec.plain.varTypes Tryz.prog) (ds ++ gs)).all (· ≤ reachBytes) = true) :
    Calls Tryz.prog 4 args W fun e W' => ∃ v, e = .returned v ∧ Rows.lexerLinesSpec.post enc Tryz.prog Tryz.f4 false true false false W args v W' := by
  have hW' := hW
  obtain ⟨p, q, hA0, hV, rfl, hfz, hnd⟩ := hW
  have hA : DataW.TrodAll enc Tryz.prog W 0 (fun _ => true) true Tryz.f4.params.toList args.toList ds p := hA0
  rw [Tryz.params4] at hA hval hsz0
  obtain ⟨v0, v1, d0, d1, p0, p1, rfl, rfl, rfl, h0, h1⟩ := trodAll_two hA
  obtain ⟨rfl, rfl⟩ := trodVars_none hV
  obtain ⟨s, rfl, rfl, rfl, ws⟩ := open_string underS (hval 0 9 v0 rfl rfl) h0
  obtain ⟨note, rfl, rfl, rfl, wn⟩ := open_string underS (hval 1 9 v1 rfl rfl) h1
  clear hA0
  have z0 := sized_string hsz0 (j := 0) (t := 9) rfl rfl
  have z1 := sized_string hsz0 (j := 1) (t := 9) rfl rfl
  have hrl := reachBytes_lt
  rw [bytes_size] at z0 z1
  simp only [List.append_nil] at hW'
  refine (lines_law_any W (table hL) s note (by omega) (by omega)).mono fun e W' ⟨he, hB⟩ => ?_
  subst he
  refine ⟨_, rfl, _, _, _, [], [], [], hW', ?_, ?_, rfl, hB.frame _, fun h => by cases h⟩
  · exact trodAll_mk1 (shut_bool underBool true)
  · exact trodAll_mk2 (shut_string underS ws) (shut_string underS wn)

noncomputable def laidWorld (os : Os) : World := World.laidAll Tryz.prog os Rows.lexerLinesRow.laid
theorem laid_met (os : Os) : laidMetH Tryz.prog Rows.lexerLinesRow.laid ((laidWorld os).forCall (fun _ _ => 0) ⟨#[], #[.string ⟨#[]⟩, .string ⟨#[]⟩], []⟩).memory := by
  have h : laidMet Tryz.prog Rows.lexerLinesRow.laid ((laidWorld os).forCall (fun _ _ => 0) ⟨#[], #[.string ⟨#[]⟩, .string ⟨#[]⟩], []⟩).memory := laidMet_laidAll _ (by kernel_rfl) (by kernel_rfl)
  exact h
theorem reads (os : Os) {H : Type} (enc : TypeId × Value → H) : ∃ places, DataW.whole enc Tryz.prog ((laidWorld os).forCall (fun _ _ => 0) ⟨#[], #[.string ⟨#[]⟩, .string ⟨#[]⟩], []⟩).memory Tryz.f4.params.toList Rows.lexerLinesSpec.vars false #[Value.string ⟨#[]⟩, Value.string ⟨#[]⟩].toList 8 = some ([.lit (.string []), .lit (.string [])], [], places) :=
  ⟨[], by kernel_rfl⟩

set_option maxRecDepth 100000 in
theorem lifted (os : Os) (started : os.Started) (H : Type) (enc : TypeId × Value → H) (F : Stop.Interp) :
    ReturnsInHanded {} Tryz.checked os 4 .any ((OpenSpec.ofChange Rows.lexerLinesSpec).preRow enc Tryz.prog Tryz.f4 Rows.lexerLinesRow.domain false Rows.lexerLinesRow.laid) (((OpenSpec.ofChange Rows.lexerLinesSpec).at F).post enc Tryz.prog Tryz.f4 false true false false) := by
  obtain ⟨places, hx⟩ := reads os enc
  refine returnsInHanded_of_row (C := Tryz.checked) (s := OpenSpec.ofChange Rows.lexerLinesSpec) own started (by kernel_rfl) Tryz.func4
    (witness_row_at (enc := enc) (C := Tryz.checked) false (laidWorld os) #[.string ⟨#[]⟩, .string ⟨#[]⟩] rfl (by kernel_rfl) (by kernel_rfl) (by kernel_rfl)
      (OpenSpec.preRow_of_cond 8 hx (by kernel_rfl) (fun k hk => by cases hk) (by kernel_rfl) (laid_met os))) ?_
  intro W base args ds gs before hval hW _ _ hsz hL _ _
  exact contract H enc W base args ds gs before hval hW hL hsz

theorem said : Rows.LexerLinesSaid :=
  OpenClaim.holds_of_cond 4 Tryz.f4 rfl rfl rfl rfl rfl rfl rfl ⟨rfl, rfl, rfl, rfl, rfl⟩ rfl rfl rfl rfl rfl (by kernel_rfl) Tryz.func4 (by kernel_rfl)
    (of_decide_eq_true (by kernel_rfl)) (by unfold Func.isWrapper; first | (rw [if_pos (by decide +kernel)]; kernel_rfl) | (rw [if_neg (by decide +kernel)]; exact ⟨rfl, rfl⟩))
    (fun os started H enc _ F => by rw [OpenClaim.pre_eq_preRow]; exact lifted os started H enc F)

theorem plain (f : FuncId) (fn : Func) (hf : Tryz.pinned.checked.prog.funcNamed "dspcompiler/dspcompilerlaw11.LexerLines" = some f) (hfn : Tryz.pinned.checked.prog.funcs[f]? = some fn) :
    false = Tryz.pinned.checked.prog.looks [] ∧ ∀ (j : Nat) t, fn.params[j]? = some t → Tryz.pinned.checked.prog.wantsStandIn t = false := by
  obtain rfl : f = 4 := Option.some.inj ((show Tryz.prog.funcNamed "dspcompiler/dspcompilerlaw11.LexerLines" = some 4 by kernel_rfl).symm.trans hf) |>.symm
  obtain rfl : fn = Tryz.f4 := (Option.some.inj (Tryz.func4.symm.trans hfn)).symm
  refine ⟨by kernel_rfl, fun j t ht => ?_⟩
  rw [Tryz.params4] at ht
  have h2 := Array.mem_of_getElem? ht
  obtain rfl : t = 9 := by simpa using h2
  exact (show Tryz.prog.wantsStandIn 9 = false by kernel_rfl)

end Go.Proofs.YtckiojofncdoeaaGreatDoor.lexerLines
namespace Go.Proofs.YtckiojofncdoeaaGreatDoor
theorem lexerLines_card : Rows.LexerLinesCardSaid :=
  Claim7.holds_tied_plain_at .later [] _ _ _ _ lexerLines.said (fun _ h => by cases h) (by kernel_rfl) (fun _ h => by cases h) lexerLines_row_tie rfl ⟨rfl, rfl⟩ (by kernel_rfl) rfl lexerLines.plain (by kernel_rfl)
end Go.Proofs.YtckiojofncdoeaaGreatDoor
