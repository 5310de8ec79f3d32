/- PartialLogic: the connectives of three-valued logic are the specified ones, for any values, and the chapter's example answers as it says; the package-level variables that the example reads are as the program's text lays them (the card ties them). -/
import Derived.Test.YtknmbmdeilbdkaaGreatDoorRows
import Derived.Test.YtknmbmdeilbdkaaGreatDoorTie
import Derived.Test.YtknmbmdeilbdkaaGreatDoorCards
import Derived.Test.YtknmbmdeilbdkaaGreatDoorPlgW
import Derived.Test.YtknmbmdeilbdkaaGreatDoorPlgG
import Derived.Test.YtknmbmdeilbdkaaGreatDoorPlpG
import Derived.Test.YtknmbmdeilbdkaaGreatDoorLaw
import Derived.Test.YtknmbmdeilbdkaaGreatDoorFacts
import Derived.OpenShut
import Derived.SizedLaws
import Derived.ChangeVars
import Derived.LaidLaws
import Derived.MakeChecks
import Derived.Lib.LaidTab
import Derived.SevenTiedAt
import Derived.Stop.Joined
namespace Go.Proofs.YtknmbmdeilbdkaaGreatDoor.partialLogic
open Go.ChangeShapes Go.WideShapes Go.ChangeAt Go.RowKit

theorem oks : Tryz.f3.params.toList.all (fun t => Tryz.prog.readableRec t && decide (t < Tryz.prog.types.size)) = true := by kernel_rfl
theorem oks' : ∀ t ∈ Tryz.f3.params.toList, Tryz.prog.readableRec t = true ∧ t < Tryz.prog.types.size := fun t ht => by
  have h := List.all_eq_true.1 oks t ht
  rw [Bool.and_eq_true, decide_eq_true_eq] at h
  exact h
theorem kInPlace : (Rows.partialLogicRow.inPlace == Tryz.prog.inPlace 3) = true := by kernel_rfl
theorem kUnf : (Rows.partialLogicRow.unfollowed == Tryz.prog.unfollowed 3) = true := by kernel_rfl
theorem kRec : (Rows.partialLogicRow.recurses == Tryz.prog.recurses 3) = true := by kernel_rfl
theorem kNamed : (Rows.partialLogicRow.named == Tryz.prog.varsNamed 3) = true := by kernel_rfl
theorem closed : joinedFacts Tryz.prog 3 Tryz.f3 Rows.partialLogicSpec Rows.partialLogicRow = true :=
  closed_of (by as_aux_lemma => kernel_rfl) kLaid kMaps (by as_aux_lemma => kernel_rfl) (by as_aux_lemma => kernel_rfl) rfl kStops rfl kKnobs kInPlace kUnf kRec kNamed
    (by as_aux_lemma => kernel_rfl) (by as_aux_lemma => kernel_rfl) (by as_aux_lemma => kernel_rfl) (by as_aux_lemma => kernel_rfl) (by as_aux_lemma => kernel_rfl) rfl (by as_aux_lemma => kernel_rfl) (by as_aux_lemma => kernel_rfl) (by as_aux_lemma => kernel_rfl)
    kKeys rfl kHeard kEnter kLift kMake ⟨rfl, rfl⟩ rfl (by as_aux_lemma => kernel_rfl) (by as_aux_lemma => kernel_rfl)

theorem u8_in {n : Int} (h : (Lit.int .u8 n).wf = true) : 0 ≤ n ∧ n < 256 := by
  have h : 0 ≤ n ∧ n ≤ 255 := by simpa [Lit.wf, IntKind.min, IntKind.max, IntKind.signed, IntKind.bits] using h
  omega
/-- The listed variables' cells. -/
theorem glob0 : Ev.gshape Tryz.prog "rootcause/lexer.symbols" Rows.laid_rootcause_lexer_symbols = some (0, Ev.g0) := by kernel_rfl
theorem glob1 : Ev.gshape Tryz.prog "rootcause/digest.constants" Rows.laid_rootcause_digest_constants = some (1, Ev.g1) := by kernel_rfl
theorem glob2 : Ev.gshape Tryz.prog "rootcause/lexer.words" Rows.laid_rootcause_lexer_words = some (2, Ev.g2) := by kernel_rfl
theorem glob3 : Ev.gshape Tryz.prog "rootcause/syntax.forms" Rows.laid_rootcause_syntax_forms = some (3, Ev.g3) := by kernel_rfl
theorem glob4 : Ev.gshape Tryz.prog "rootcause/syntax.shapes" Rows.laid_rootcause_syntax_shapes = some (4, Ev.g4) := by kernel_rfl
theorem glob5 : Ev.gshape Tryz.prog "rootcause/code.rows" Rows.laid_rootcause_code_rows = some (5, Ev.g5) := by kernel_rfl
theorem glob6 : Ev.gshape Tryz.prog "internal/strconv.uint64pow10" Rows.laid_internal_strconv_uint64pow10 = some (6, Ev.g6) := by kernel_rfl
theorem glob7 : Ev.gshape Tryz.prog "math/bits.deBruijn32tab" Rows.laid_math_bits_deBruijn32tab = some (7, Ev.g7) := by kernel_rfl
theorem glob8 : Ev.gshape Tryz.prog "math/bits.deBruijn64tab" Rows.laid_math_bits_deBruijn64tab = some (8, Ev.g8) := by kernel_rfl
/-- What the row's condition gives: awake returns true. -/
theorem awake_of_laid {W : World} (h : laidMetH Tryz.prog Rows.partialLogicRow.laid W) : ∀ w1 : World, w1.heap = W.heap → Calls Tryz.prog 4 #[] w1 fun e w' => e = .returned (.bool true) ∧ Below w1.heap.size w1 w' := by
  rw [MakeChecks.laidMetH_plain _ _ _ (by kernel_rfl)] at h
  have key : ∀ (k g n : Nat) (name : String) (d : DataW Unit) (l : List Ev.AV), Rows.partialLogicRow.laid[k]? = some (name, d) → Ev.gshape Tryz.prog name d = some (g, l) → n = l.length → g < 9 → g < 9 ∧ (Ev.LB.glob n l).ab.ro = true ∧ ∀ m, ∃ x, W.heap[g]? = some x ∧ Ev.BR m (Ev.LB.glob n l).ab 0 x := by
    intro k g n name d l hk hs hn hg
    refine ⟨hg, rfl, fun m => ?_⟩
    obtain ⟨C, ty, fr, h1, h2⟩ := Ev.glob_of_gshape m (Lib.laidMet.reads h (List.mem_of_getElem? hk)) hs
    exact ⟨_, h1, Ev.glob_BR h2 hn 0⟩
  refine Ev.orc_calls (G := 9) Ev.o23_s rfl rfl rfl ?_
  intro p hp
  have hp : p ∈ Ev.gl := hp
  rcases List.mem_cons.1 hp with rfl | hp
  · exact key 5 0 25 _ _ _ rfl glob0 (by kernel_rfl) (by omega)
  rcases List.mem_cons.1 hp with rfl | hp
  · exact key 3 1 64 _ _ _ rfl glob1 (by kernel_rfl) (by omega)
  rcases List.mem_cons.1 hp with rfl | hp
  · exact key 4 2 39 _ _ _ rfl glob2 (by kernel_rfl) (by omega)
  rcases List.mem_cons.1 hp with rfl | hp
  · exact key 7 3 66 _ _ _ rfl glob3 (by kernel_rfl) (by omega)
  rcases List.mem_cons.1 hp with rfl | hp
  · exact key 6 4 96 _ _ _ rfl glob4 (by kernel_rfl) (by omega)
  rcases List.mem_cons.1 hp with rfl | hp
  · exact key 8 5 140 _ _ _ rfl glob5 (by kernel_rfl) (by omega)
  rcases List.mem_cons.1 hp with rfl | hp
  · exact key 2 6 20 _ _ _ rfl glob6 (by kernel_rfl) (by omega)
  rcases List.mem_cons.1 hp with rfl | hp
  · exact key 0 7 32 _ _ _ rfl glob7 (by kernel_rfl) (by omega)
  rcases List.mem_cons.1 hp with rfl | hp
  · exact key 1 8 64 _ _ _ rfl glob8 (by kernel_rfl) (by omega)
  cases hp
/-- Known values as values (numbers, truth values and texts). -/
def valOf : Ev.AV → Value
  | .int k n => .int k n
  | .bool b => .bool b
  | .str l c => .string (Ev.dec l c)
  | _ => .tuple #[]
def layIn (l : List Ev.AV) : Obj → Obj
  | .cells _ t frozen => .cells (l.map valOf).toArray t frozen
  | o => o
/-- A world that meets the condition: the settled one, the variables laid. -/
noncomputable def laidWorld (os : Os) : World :=
  let w0 := World.holding Tryz.prog os ⟨#[], #[], []⟩
  { w0 with heap := ((((((((w0.heap.modify 0 (layIn Ev.g0)).modify 1 (layIn Ev.g1)).modify 2 (layIn Ev.g2)).modify 3 (layIn Ev.g3)).modify 4 (layIn Ev.g4)).modify 5 (layIn Ev.g5)).modify 6 (layIn Ev.g6)).modify 7 (layIn Ev.g7)).modify 8 (layIn Ev.g8) }
theorem laidWorld_met (os : Os) (args : Array Value) : laidMetH Tryz.prog Rows.partialLogicRow.laid ((laidWorld os).forCall (fun _ _ => 0) ⟨#[], args, []⟩).memory :=
  laidMetH_of_parts (laidMet_of_run' 8 (by kernel_rfl) (by kernel_rfl)) (by kernel_rfl)
set_option maxRecDepth 100000 in
theorem lifted (os : Os) (started : os.Started) (H : Type) (enc : TypeId × Value → H) :
    ReturnsInHanded {} Tryz.checked os 3 .any (fun w args => (Rows.partialLogicSpec.pre enc Tryz.prog Tryz.f3 [] false w args ∧ laidMetH Tryz.prog Rows.partialLogicRow.laid w) ∧ sizedMet enc Tryz.prog Tryz.f3 (OpenSpec.ofChange Rows.partialLogicSpec) false w args) (Rows.partialLogicSpec.post enc Tryz.prog Tryz.f3 false true false false) := by
  refine returnsInHanded_of_change_and (C := Tryz.checked) (X := fun w _ => laidMetH Tryz.prog Rows.partialLogicRow.laid w) (fun _ _ _ hh h => h.of_heap hh) kOwn started (by kernel_rfl) Tryz.func3
    (ChangeSpec.witness_at (enc := enc) (C := Tryz.checked) (os := os) (X := fun w _ => laidMetH Tryz.prog Rows.partialLogicRow.laid w) false (laidWorld os) #[.int .u8 0, .int .u8 0] 8 rfl (by kernel_rfl) (by kernel_rfl) (by kernel_rfl) (by kernel_rfl) (by kernel_rfl) (laidWorld_met os _)) ?_
  intro W base args ds gs before hval0 hW _ _ hL _
  have hval : ∀ (j : Nat) t v, Tryz.f3.params[j]? = some t → args[j]? = some v → Value.okWide Tryz.prog W .any base t v := hval0
  have hW' := hW
  obtain ⟨p, q, hA0, hV, rfl, hfz, hnd⟩ := hW
  have hA : DataW.TrodAll enc Tryz.prog W 0 (fun _ => true) true Tryz.f3.params.toList args.toList ds p := hA0
  rw [Tryz.params3] at hA hval
  obtain ⟨v0, vs0, d0, ds0, p0, q0, hargs, rfl, rfl, h0, r0⟩ := trodAll_cons hA
  obtain ⟨v1, vs1, d1, ds1, p1, q1, rfl, rfl, rfl, h1, r1⟩ := trodAll_cons r0
  obtain ⟨rfl, rfl, rfl⟩ := trodAll_nil r1
  obtain rfl : args = #[v0, v1] := by cases args; simp_all
  obtain ⟨rfl, rfl⟩ := trodVars_none hV
  have hK := awake_of_laid hL
  obtain ⟨n0, rfl, rfl, rfl, hw0⟩ := open_int Tryz.underlying5 (hval 0 5 v0 rfl rfl) h0
  obtain ⟨n1, rfl, rfl, rfl, hw1⟩ := open_int Tryz.underlying5 (hval 1 5 v1 rfl rfl) h1
  refine (logic_walk n0 n1 W (u8_in hw0) (u8_in hw1) hK).mono fun e W' ⟨he, hb⟩ => ?_
  subst he
  exact ⟨_, rfl, law_post kLaid oks' rfl rfl Tryz.underlying4 hW' rfl rfl rfl hb⟩

theorem over : Rows.partialLogicRow.holds Tryz.pinned (OpenSpec.ofChange Rows.partialLogicSpec) :=
  OpenClaim.holds_of_wide 3 Tryz.f3 rfl rfl rfl rfl rfl rfl rfl ⟨rfl, rfl, rfl, rfl, rfl⟩ rfl rfl rfl rfl rfl (by as_aux_lemma => kernel_rfl) Tryz.func3 closed
    (of_decide_eq_true (by as_aux_lemma => kernel_rfl)) (by unfold Func.isWrapper; first | (rw [if_pos (by decide +kernel)]; kernel_rfl) | (rw [if_neg (by decide +kernel)]; exact ⟨rfl, rfl⟩))
    (fun os started H enc _ => lifted os started H enc)

theorem kByText : Rows.partialLogicRow.wfByText (OpenSpec.ofChange Rows.partialLogicSpec) = true := by kernel_rfl
theorem kMain : Tryz.pinned.checked.prog.mainIs = some (true, "8694e156aee525fe17b4508be221974a5fad01f8aecdaf55b636668aecd317f9".toList) := by kernel_rfl
theorem kName : Tryz.prog.funcNamed "rootcause/rootcauselaw38.PartialLogic" = some 3 := by kernel_rfl
theorem kLooks : false = Tryz.prog.looks [] := by kernel_rfl
theorem kStand : Tryz.prog.wantsStandIn 5 = false := by kernel_rfl
theorem kGoes : false = Rows.partialLogicRow.goesBy Tryz.pinned.checked.prog := by kernel_rfl
/-- The tied card. -/
theorem proved : Rows.PartialLogicCardSaid :=
  Claim7.holds_tied_plain_at .later [] [.data, .data, .data, .data, .data, .data, .data, .data, .data] true (true, "8694e156aee525fe17b4508be221974a5fad01f8aecdaf55b636668aecd317f9") false
    over (fun _ h => by cases h) kByText (fun _ h => by cases h) partialLogic_row_tie rfl ⟨rfl, rfl⟩ kMain rfl
    (fun f fn hf hfn => by
      obtain rfl : f = 3 := Option.some.inj (kName.symm.trans hf) |>.symm
      obtain rfl : fn = Tryz.f3 := (Option.some.inj (Tryz.func3.symm.trans hfn)).symm
      exact ⟨kLooks, fun j t ht => by
        rw [Tryz.params3] at ht
        have h3 : t = 5 := by
          rcases j with _ | j | j
          · simpa using ht.symm
          · simpa using ht.symm
          · simp at ht
        subst h3
        exact kStand⟩)
    kGoes
end Go.Proofs.YtknmbmdeilbdkaaGreatDoor.partialLogic
