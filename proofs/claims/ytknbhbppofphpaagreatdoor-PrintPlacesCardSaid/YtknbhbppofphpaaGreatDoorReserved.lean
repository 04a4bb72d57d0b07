/- Reserved words: what ident.Reserved answers of any text. -/
import Derived.Test.YtknbhbppofphpaaGreatDoorXA
import Derived.Test.YtknbhbppofphpaaGreatDoorShelf
import Derived.BigCall
set_option linter.unusedVariables false
set_option linter.unusedSimpArgs false
namespace Go.Proofs.YtknbhbppofphpaaGreatDoor.X
open Go.RowKit Go.Shelf Go.Proofs.YtknbhbppofphpaaGreatDoorW.PrintWords Go.Proofs.YtknbhbppofphpaaGreatDoorW.PrintLast Go.Proofs.YtknbhbppofphpaaGreatDoorW.PrintMore
def resWords : List ByteArray := [{ data := #[109, 101, 115, 115, 97, 103, 101] }, { data := #[101, 110, 117, 109] }, { data := #[115, 101, 114, 118, 105, 99, 101] }, { data := #[114, 112, 99] }, { data := #[114, 101, 116, 117, 114, 110, 115] }, { data := #[114, 101, 112, 101, 97, 116, 101, 100] }]
def scalWords : List ByteArray := [{ data := #[] }, { data := #[105, 110, 116, 54, 52] }, { data := #[117, 105, 110, 116, 54, 52] }, { data := #[115, 105, 110, 116, 54, 52] }, { data := #[98, 111, 111, 108] }, { data := #[115, 116, 114, 105, 110, 103] }, { data := #[98, 121, 116, 101, 115] }, { data := #[102, 105, 120, 101, 100, 51, 50] }, { data := #[102, 105, 120, 101, 100, 54, 52] }]
theorem words_cell {W : World} {g : Nat} (zs : List ByteArray) (h : W.heap[g]? = some (.cells (zs.map Value.string).toArray 9 (0, 0))) : ∀ j, j < zs.length → W.cell? ⟨g, 0 + j, none⟩ = some (.string (zs.getD j ByteArray.empty)) := by
  intro j hj
  rw [Nat.zero_add, blk_cell h j]
  simp [hj, List.getD_eq_getElem?_getD]
set_option maxHeartbeats 1000000 in
set_option maxRecDepth 100000 in
theorem ident_Scalars.calls (w : World) : Calls Tryz.prog 47 #[] w fun e w' => e = .returned (.slice (some ⟨w.heap.size, 0, none⟩) 9 9) ∧ w' = w.alloc (.cells (scalWords.map Value.string).toArray 9) := by
  go_enter Tryz.func47, Tryz.ntmps47
  go_wp2
  go_ret
  exact ⟨rfl, rfl⟩
def resV (s : ByteArray) : Bool := if s.toList = [] then false else (Lib.containsS resWords s || Lib.containsS scalWords s)
set_option maxHeartbeats 1000000 in
set_option maxRecDepth 100000 in
theorem ident_Reserved.calls (s : ByteArray) (w : World) : Calls Tryz.prog 67 #[.string s] w fun e w' => e = .returned (.bool (resV s)) ∧ Below w.heap.size w w' := by
  go_enter Tryz.func67, Tryz.ntmps67
  by_cases he : s.toList = []
  · have HV : Aside0 (resV s = false) := ⟨by unfold resV; rw [if_pos he]⟩
    have he2 : s.toList.isEmpty = true := by rw [he]; rfl
    go_wp2
    go_ret
    exact ⟨congrArg (fun b => Ending.returned (Value.bool b)) HV.out.symm, Below.refl _ _⟩
  have he2 : s.toList.isEmpty = false := by rw [Bool.eq_false_iff]; intro h; exact he (List.isEmpty_iff.mp h)
  have HV : Aside0 (resV s = (Lib.containsS resWords s || Lib.containsS scalWords s)) := ⟨by unfold resV; rw [if_neg he]⟩
  go_wp2_with fail
  obtain ⟨W, hW⟩ : ∃ W, W = w.alloc (.cells (resWords.map Value.string).toArray 9) := ⟨_, rfl⟩
  have HG : Aside0 (W.heap[w.heap.size]? = some (.cells (resWords.map Value.string).toArray 9 (0, 0))) := ⟨by rw [hW]; exact heap_alloc_new w _⟩
  have HB : Aside0 (Below w.heap.size w W) := ⟨by rw [hW]; exact below_alloc (Below.refl _ _) _⟩
  have hW2 : w.alloc (.cells #[.string { data := #[109, 101, 115, 115, 97, 103, 101] }, .string { data := #[101, 110, 117, 109] }, .string { data := #[115, 101, 114, 118, 105, 99, 101] }, .string { data := #[114, 112, 99] }, .string { data := #[114, 101, 116, 117, 114, 110, 115] }, .string { data := #[114, 101, 112, 101, 97, 116, 101, 100] }] 9) = W := hW.symm
  rw [hW2]
  clear hW hW2
  refine (Tryz.slices_Contains_string w.heap.size 0 6 6 resWords s W (by decide) (by omega) (words_cell resWords HG.out)).mono ?_
  rintro e w' ⟨rfl, hw⟩
  obtain rfl := hw.symm
  rw [show resWords.take 6 = resWords from rfl]
  cases h1 : Lib.containsS resWords s with
  | true =>
    rw [h1, Bool.true_or] at HV
    go_wp2_with fail
    go_ret
    exact ⟨congrArg (fun b => Ending.returned (Value.bool b)) HV.out.symm, HB.out⟩
  | false =>
    rw [h1, Bool.false_or] at HV
    go_wp2_with fail
    refine (ident_Scalars.calls W).mono ?_
    rintro e w2 ⟨rfl, hw⟩
    have HG2 : Aside0 (w2.heap[W.heap.size]? = some (.cells (scalWords.map Value.string).toArray 9 (0, 0))) := ⟨by rw [hw]; exact heap_alloc_new W _⟩
    have HB2 : Aside0 (Below w.heap.size w w2) := ⟨by rw [hw]; exact below_alloc HB.out _⟩
    clear hw
    go_wp2_with fail
    refine (Tryz.slices_Contains_string W.heap.size 0 9 9 scalWords s w2 (by decide) (by omega) (words_cell scalWords HG2.out)).mono ?_
    rintro e w' ⟨rfl, hw⟩
    obtain rfl := hw.symm
    rw [show scalWords.take 9 = scalWords from rfl]
    go_wp2_with fail
    go_ret
    exact ⟨congrArg (fun b => Ending.returned (Value.bool b)) HV.out.symm, HB2.out⟩
end Go.Proofs.YtknbhbppofphpaaGreatDoor.X
