/- The runes of a text, laid in a row (courierref03.Runes); texts of at most 2^46 bytes; utf8's two tables as they are laid. -/
import Derived.Test.YtknbhbppofphpaaGreatDoorIdent
import Derived.Test.YtknbhbppofphpaaGreatDoorValid
import Derived.Lib.RuneCount
import Derived.Laws.IdiomStrings
set_option linter.unusedVariables false
set_option linter.unusedSimpArgs false
namespace Go.Proofs.YtknbhbppofphpaaGreatDoor.X
open Go.RowKit Go.Shelf Go.Proofs.YtknbhbppofphpaaGreatDoorW.PrintWords Go.Proofs.YtknbhbppofphpaaGreatDoorW.PrintLast Go.Proofs.YtknbhbppofphpaaGreatDoorW.PrintMore
theorem count_from (s : ByteArray) : ∀ f pos, Lib.runeCountFrom s f pos = (runesFrom s f pos).length
  | 0, _ => rfl
  | f + 1, pos => by
    unfold Lib.runeCountFrom runesFrom
    by_cases h : pos < s.size
    · rw [if_pos h, if_pos h, List.length_cons, count_from s f]; omega
    · rw [if_neg h, if_neg h]; rfl
theorem count_runes (s : ByteArray) : Lib.runeCount s = (runesOf s).length := count_from s _ _
theorem conv_from (s : ByteArray) : ∀ f pos acc, Conv.runesFrom s f pos acc = acc ++ ((runesFrom s f pos).map (fun r : Nat => Value.int .i32 (r : Int))).toArray
  | 0, _, acc => by simp [Conv.runesFrom, runesFrom]
  | f + 1, pos, acc => by
    unfold Conv.runesFrom runesFrom
    by_cases h : pos < s.size
    · rw [if_pos h, if_pos h]
      show Conv.runesFrom s f (pos + (Utf8.decode s pos).2) (acc.push (.int .i32 (Int.ofNat (Utf8.decode s pos).1))) = _
      rw [conv_from s f]
      apply Array.ext'
      simp
    · rw [if_neg h, if_neg h]; simp
def validV (s : ByteArray) : Bool := Lib.validD s.data.toList
/-- The runes of a valid text as numbers; of another none. -/
def runesZ (s : ByteArray) : List Int := if validV s = true then (runesOf s).map (fun r : Nat => (r : Int)) else []
theorem runesOf_le (s : ByteArray) : (runesOf s).length ≤ s.size := by rw [← count_runes]; exact Lib.runeCountFrom_le s _ _
theorem runesZ_le (s : ByteArray) : (runesZ s).length ≤ s.size := by
  unfold runesZ
  by_cases h : validV s = true
  · rw [if_pos h, List.length_map]; exact runesOf_le s
  · rw [if_neg h]; exact Nat.zero_le _
set_option maxHeartbeats 1000000 in
set_option maxRecDepth 100000 in
theorem courierref03_Runes.calls (s : ByteArray) (w : World) (hs : s.size ≤ 70368744177664) (hT : Lib.Utf8Tabs (Tryz.lays196_ren.g 3) (Tryz.lays196_ren.g 4) w) :
    Calls Tryz.prog 84 #[.string s] w fun e w' => ∃ A c, e = .returned (.tuple #[.slice A (runesZ s).length c, .bool (validV s)]) ∧ Kd.C (Kd.int .i32) w' A (runesZ s).length (runesZ s) ∧ (runesZ s).length ≤ c ∧ Below w.heap.size w w' := by
  go_enter Tryz.func84, Tryz.ntmps84
  go_wp2_with fail
  refine (Tryz.utf8_ValidString s w (by omega) hT).mono ?_
  rintro e w1 ⟨rfl, hb⟩
  have HB := Aside0.mk hb
  clear hb hT
  by_cases hv : validV s = true
  · have hv2 : Lib.validD s.data.toList = true := hv
    have hz : runesZ s = (runesOf s).map (fun r : Nat => (r : Int)) := by unfold runesZ; rw [if_pos hv]
    have hl := runesZ_le s
    have hc : Conv.runesFrom s s.size 0 #[] = ((runesZ s).map (Value.int .i32)).toArray := by
      rw [conv_from, hz, List.map_map]
      apply Array.ext'
      simp [runesOf]
    have hcv := run_runes_of_string (P := Tryz.prog) w1 9 137 21 s Tryz.underlying9 Tryz.underlying137 Tryz.underlying21 (by rw [hc]; simp; omega)
    rw [hc] at hcv
    have hsz : ((runesZ s).map (Value.int .i32)).toArray.size = (runesZ s).length := by simp
    rw [hsz] at hcv
    have hge := grownCap_ge w1 (runesZ s).length 0 21
    generalize grownCap w1 (runesZ s).length 0 21 = cap at hcv hge
    generalize hzz : runesZ s = l at *
    have HE : Aside0 (runesZ s = l) := ⟨hzz⟩
    clear hz hc hsz
    rw [hv2]
    go_wp2_with fail
    go_ret2
    rw [HE.out]
    refine ⟨some ⟨w1.heap.size, 0, none⟩, cap, by rw [hv]; rfl, ?_, hge, below_alloc (below_drew HB.out) _⟩
    refine Kd.C_of_reads (enc := Value.int .i32) (d := 0) ⟨rfl, by omega, fun _ => ⟨⟨w1.heap.size, 0, none⟩, rfl, fun j hj => ?_⟩⟩
    have h3 : (Addr.add ⟨w1.heap.size, 0, none⟩ j) = ⟨w1.heap.size, j, none⟩ := by simp [Addr.add]; intro h; omega
    have h2 := blk_cell (heap_alloc_new w1.drew (.cells ((l.map (Value.int .i32)).toArray ++ Array.replicate (cap - l.length) (.int .i32 0)) 21)) j
    rw [h3]
    refine Eq.trans h2 ?_
    simp [Array.getElem?_append_left, hj, List.getD_eq_getElem?_getD]
  · have hv2 : Lib.validD s.data.toList = false := Bool.eq_false_iff.mpr hv
    have hz : runesZ s = [] := by unfold runesZ; rw [if_neg hv]
    rw [hv2]
    go_wp2_with fail
    go_ret2
    rw [hz]
    exact ⟨none, 0, by rw [Bool.eq_false_iff.mpr hv]; rfl, Kd.C_nil _ _, Nat.le_refl _, HB.out⟩
end Go.Proofs.YtknbhbppofphpaaGreatDoor.X
