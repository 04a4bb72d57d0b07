/- The row of PrintPlaces, all declarations that a memory holds, the tables and the two errors laid; and its card. Printed by gen_printrow.py. -/
import Derived.Test.YtknbhbppofphpaaGreatDoorCards
import Derived.Test.YtknbhbppofphpaaGreatDoorTie
import Derived.Test.YtknbhbppofphpaaGreatDoorLawPrintP
import Derived.Test.YtknbhbppofphpaaGreatDoorTreeReach
import Derived.Carry
import Derived.OpenShut
import Derived.Deep.DeepHandedRow
import Derived.Deep.DeepWitnessRowRef
import Derived.Lib.LaidIn
import Derived.Lib.LaidU8T
import Derived.Stop.LaidErr
import Derived.Lib.LaidTab
import Derived.ProofKit
set_option linter.unusedVariables false
set_option linter.unusedSimpArgs false
namespace Go.Proofs.YtknbhbppofphpaaGreatDoor.printPlaces
open Go.ChangeShapes Go.WideShapes Go.ChangeAt Go.RowKit Go.Lib Go.Shelf
open Go.ChangeMaps (open_string shut_string)
theorem laidOut : laidOutB Tryz.prog = true := by kernel_rfl
theorem own : ownKnob Tryz.prog.godebug = none := by kernel_rfl
def cellsD : List (DataW Unit) → List Value
  | .lit (.int k z) :: r => .int k z :: cellsD r
  | _ => []
def cellsO : DataW Unit → Array Value
  | .agg l => (cellsD l).toArray
  | _ => #[]
def textD : DataW Unit → List UInt8
  | .iface _ (.ptr (.agg [.lit (.string s)])) => s
  | _ => []
noncomputable def laidWorld (os : Os) : World :=
  let N := (World.settled Tryz.prog os).heap.size
  let w0 := World.holding Tryz.prog os ⟨#[.cells #[.string ⟨(textD Rows.laid_strconv_ErrSyntax).toArray⟩] 180, .cells #[.string ⟨(textD Rows.laid_strconv_ErrRange).toArray⟩] 180], #[], []⟩
  let put (h : Array Obj) (g : Nat) (cs : Array Value) : Array Obj := h.modify g fun
    | .cells _ t frozen => .cells cs t frozen
    | o => o
  let h1 := put w0.heap 4 #[.iface 178 (.pointer (some ⟨N, 0, none⟩))]
  let h2 := put h1 5 #[.iface 178 (.pointer (some ⟨N + 1, 0, none⟩))]
  let h3 := put h2 2 (cellsO Rows.laid_internal_strconv_uint64pow10)
  let h4 := put h3 6 (cellsO Rows.laid_math_bits_deBruijn32tab)
  let h5 := put h4 7 (cellsO Rows.laid_math_bits_deBruijn64tab)
  let h6 := put h5 0 (Lib.firstTab.map fun z => Value.int .u8 z).toArray
  let h7 := put h6 1 ((List.range 16).flatMap fun i => [Value.int .u8 (Lib.accLo i), Value.int .u8 (Lib.accHi i)]).toArray
  { w0 with heap := h7 }
noncomputable abbrev N0 : Nat := (World.settled Tryz.prog default).heap.size
theorem laid_met (os : Os) (args : Array Value) : laidMet Tryz.prog Rows.printPlacesRow.laid ((laidWorld os).forCall (fun _ _ => 0) ⟨#[], args, []⟩).memory :=
  (LaidIn.of_run (l := Rows.printPlacesRow.laid) [0, 1, 4, 5, 2, 6, 7, N0, N0 + 1] 8 (by kernel_rfl) (by kernel_rfl) (by kernel_rfl) (by kernel_rfl)).met
theorem rowE (u : TypeId) (h : Tryz.prog.typeName? 3 u = some "*errors.errorString") : u = 178 :=
  typeName_ptr_named (nm := "errors.errorString") (by rw [show "*" ++ "errors.errorString" = "*errors.errorString" by decide]; kernel_rfl) (by kernel_rfl) (by decide) u (by rw [show "*" ++ "errors.errorString" = "*errors.errorString" by decide]; exact h)
theorem ePow : Rows.laid_internal_strconv_uint64pow10 (H := Unit) = Lib.tabData .u64 Lib.pow10Tab := by kernel_rfl
theorem tabs {W : World} (hL0 : laidMetH Tryz.prog Rows.printPlacesRow.laid W) : X.LexTabs W := by
  have hL : laidMet Tryz.prog Rows.printPlacesRow.laid W := hL0
  have hp : laidMet Tryz.prog (("internal/strconv.uint64pow10", Lib.tabData .u64 Lib.pow10Tab) :: Rows.printPlacesRow.laid.drop 3) W := by rw [← ePow]; exact hL.tail.tail
  obtain ⟨a1, t1, hv1, _⟩ := laid_sentinel (g := 5) hL.tail.tail.tail.tail (by kernel_rfl) (by kernel_rfl) Tryz.underlying82 rowE Tryz.underlying178 Tryz.underlying180 rfl rfl Tryz.underlying9 (by kernel_rfl) (by kernel_rfl)
  obtain ⟨a0, t0, hv0, _⟩ := laid_sentinel (g := 4) hL.tail.tail.tail.tail.tail (by kernel_rfl) (by kernel_rfl) Tryz.underlying82 rowE Tryz.underlying178 Tryz.underlying180 rfl rfl Tryz.underlying9 (by kernel_rfl) (by kernel_rfl)
  refine ⟨Lib.tabIs_of_head (t := 158) (e := 133) (n := 20) (g := 2) (by kernel_rfl) (by kernel_rfl) Tryz.underlying158 Tryz.underlying133 (by kernel_rfl) (by kernel_rfl) hp, ⟨178, .pointer (some a0), ?_⟩, ⟨178, .pointer (some a1), ?_⟩⟩
  · have := World.var?_cell (show Tryz.prog.globalNamed "strconv.ErrSyntax" = some 4 by kernel_rfl) hv0 0
    simpa using this
  · have := World.var?_cell (show Tryz.prog.globalNamed "strconv.ErrRange" = some 5 by kernel_rfl) hv1 0
    simpa using this
theorem eFirst : Rows.laid_unicode_utf8_first = Lib.firstData := by kernel_rfl
theorem eAcc : Rows.laid_unicode_utf8_acceptRanges (H := Unit) = Lib.acceptData := by kernel_rfl
theorem tabs2 {W : World} (hL : laidMetH Tryz.prog Rows.printPlacesRow.laid W) : Lib.Utf8Tabs (Tryz.lays196_ren.g 3) (Tryz.lays196_ren.g 4) W := by
  have h3 : VarReads Tryz.prog W "unicode/utf8.first" Rows.laid_unicode_utf8_first := Lib.laidMet.reads hL (.tail _ (.tail _ (.tail _ (.tail _ (.tail _ (.tail _ (.head _)))))))
  have h4 : VarReads Tryz.prog W "unicode/utf8.acceptRanges" Rows.laid_unicode_utf8_acceptRanges := Lib.laidMet.reads hL (.tail _ (.tail _ (.tail _ (.head _))))
  rw [eFirst] at h3
  rw [eAcc] at h4
  exact utf8Tabs_of_readsT (ρ := Tryz.lays196_ren) (U8Types.of196 Tryz.lays196) ⟨by kernel_rfl, by kernel_rfl, by kernel_rfl, by kernel_rfl, by kernel_rfl, by kernel_rfl, by kernel_rfl⟩ h3 h4
theorem witness_row (os : Os) {H : Type} (enc : TypeId × Value → H) :
    (OpenSpec.ofChange Rows.printPlacesSpec).preRow enc Tryz.prog Tryz.f3 Rows.printPlacesRow.domain false Rows.printPlacesRow.laid ((laidWorld os).forCall (fun _ _ => 0) ⟨#[], #[.slice none 0 0], []⟩).memory #[.slice none 0 0] := by
  have hw : (DataW.whole enc Tryz.prog ((laidWorld os).forCall (fun _ _ => 0) ⟨#[], #[.slice none 0 0], []⟩).memory Tryz.f3.params.toList (OpenSpec.ofChange Rows.printPlacesSpec).vars false #[Value.slice none 0 0].toList 8).map (fun x => (x.1, x.2.1)) =
      some ([.nil], []) := by kernel_rfl
  obtain ⟨⟨x1, x2, x3⟩, hx, hx1⟩ := Option.map_eq_some_iff.1 hw
  simp only [Prod.mk.injEq] at hx1
  obtain ⟨rfl, rfl⟩ := hx1
  exact OpenSpec.preRow_of_cond 8 hx (by kernel_rfl) (fun k hk => by cases hk) (by kernel_rfl) (laid_met os _)
set_option maxRecDepth 100000 in
set_option maxHeartbeats 2000000 in
theorem lifted (os : Os) (started : os.Started) (H : Type) (enc : TypeId × Value → H) (F : Stop.Interp) :
    ReturnsInHanded {} Tryz.checked os 3 .any ((OpenSpec.ofChange Rows.printPlacesSpec).preRow enc Tryz.prog Tryz.f3 Rows.printPlacesRow.domain false Rows.printPlacesRow.laid) (((OpenSpec.ofChange Rows.printPlacesSpec).at F).post enc Tryz.prog Tryz.f3 false true false false) := by
  refine returnsInHanded_of_row (C := Tryz.checked) (s := OpenSpec.ofChange Rows.printPlacesSpec) own started (by kernel_rfl) Tryz.func3
    (witness_row_atRef (enc := enc) (C := Tryz.checked) false (laidWorld os) #[.slice none 0 0] rfl (by kernel_rfl) (by kernel_rfl) (by kernel_rfl) (witness_row os enc)) ?_
  intro W base args ds gs before hval0 hW _ _ hsz hL hSh _
  have hval : ∀ (j : Nat) t v, Tryz.f3.params[j]? = some t → args[j]? = some v → Value.okWide Tryz.prog W .any base t v := hval0
  have hW' := hW
  obtain ⟨p, q, hA0, hV0, rfl, _, _⟩ := hW
  have hA : DataW.TrodAll enc Tryz.prog W 0 (fun _ => true) true Tryz.f3.params.toList args.toList ds p := hA0
  rw [Tryz.params3] at hA hval
  obtain ⟨v0, d0, rfl, rfl, h0⟩ := trodAll_one hA
  obtain ⟨rfl, rfl⟩ := trodVars_none hV0
  have k0 := h0
  have lt0 : ∀ x ∈ p, x.block < W.heap.size := by obtain ⟨m, hm⟩ := k0; exact DataW.trod_lt m _ _ _ hm
  obtain ⟨A0, c0, l, rfl, lc0, hr0, g0⟩ := Reach.arg_slice Tryz.underlying22 X.declsW (hval 0 22 v0 rfl rfl) h0
  have hg := g0 (Reach.sized_at (ts := Tryz.f3.params.toList ++ _) (j := 0) hsz rfl rfl)
  clear hA0 hV0 hval0
  obtain ⟨m, hm⟩ := Tryz.laysM146.s1_3 W hSh
  refine (X.printPlaces.calls l A0 c0 m W hr0 lc0 hg.1 hg.2 hm (tabs hL) (tabs2 hL)).mono ?_
  rintro e W' ⟨rfl, bel⟩
  exact ⟨_, rfl, _, _, _, [], _, [], hW', trodAll_mk1 (shut_bool Tryz.underlying4 _), trodAll_mk1 (Below.trod laidOut (by kernel_rfl) (of_decide_eq_true (by kernel_rfl)) k0 bel lt0), rfl, bel.frame _, fun h => by cases h⟩
theorem said : Rows.PrintPlacesSaid :=
  OpenClaim.holds_of_cond 3 Tryz.f3 rfl rfl rfl rfl rfl rfl rfl ⟨rfl, rfl, rfl, rfl, rfl⟩ rfl rfl rfl rfl rfl (by kernel_rfl) Tryz.func3 (by kernel_rfl)
    (of_decide_eq_true (by kernel_rfl)) (by unfold Func.isWrapper; first | (rw [if_pos (by decide +kernel)]; kernel_rfl) | (rw [if_neg (by decide +kernel)]; exact ⟨rfl, rfl⟩))
    (fun os started H enc _ F => by rw [OpenClaim.pre_eq_preRow]; exact lifted os started H enc F)
theorem plain (f : FuncId) (fn : Func) (hf : Tryz.pinned.checked.prog.funcNamed "courier/courierlaw06.PrintPlaces" = some f) (hfn : Tryz.pinned.checked.prog.funcs[f]? = some fn) :
    true = Tryz.pinned.checked.prog.looks [] ∧ ∀ (j : Nat) t, fn.params[j]? = some t → Tryz.pinned.checked.prog.wantsStandIn t = false := by
  obtain rfl : f = 3 := Option.some.inj ((show Tryz.prog.funcNamed "courier/courierlaw06.PrintPlaces" = some 3 by kernel_rfl).symm.trans hf) |>.symm
  obtain rfl : fn = Tryz.f3 := (Option.some.inj (Tryz.func3.symm.trans hfn)).symm
  refine ⟨by kernel_rfl, fun j t ht => ?_⟩
  rw [Tryz.params3] at ht
  obtain rfl : t = 22 := by simpa using Array.mem_of_getElem? ht
  exact (show Tryz.prog.wantsStandIn 22 = false by kernel_rfl)
theorem card : Rows.PrintPlacesCardSaid :=
  Claim7.holds_tied_plain_at .later [] _ _ _ _ said (fun _ h => by cases h) (by kernel_rfl) (fun _ h => by cases h) printPlaces_row_tie rfl ⟨rfl, rfl⟩ (by kernel_rfl) rfl plain (by kernel_rfl)
end Go.Proofs.YtknbhbppofphpaaGreatDoor.printPlaces
namespace Go.Proofs.YtknbhbppofphpaaGreatDoor
/-- The card, under a short name, for the claim. -/
theorem printPlaces_card : Rows.PrintPlacesCardSaid := printPlaces.card
end Go.Proofs.YtknbhbppofphpaaGreatDoor
