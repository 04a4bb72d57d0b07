/- What a program that does nothing answers wrongly: the law's first question, answered yes. -/
import Derived.Test.YtknbhbppofphpaaGreatDoorPrFile
set_option linter.unusedVariables false
set_option linter.unusedSimpArgs false
namespace Go.Proofs.YtknbhbppofphpaaGreatDoor.X
open Go.RowKit Go.Shelf Go.Proofs.YtknbhbppofphpaaGreatDoorW.PrintWords Go.Proofs.YtknbhbppofphpaaGreatDoorW.PrintLast Go.Proofs.YtknbhbppofphpaaGreatDoorW.PrintMore
abbrev kP := k41
abbrev kPV := k36
def aw1 : PV := ⟨⟨#[97]⟩, 0, ⟨0, 0⟩⟩
def aw0 : PD := ⟨2, ⟨#[69]⟩, ⟨0, 0⟩, [], [aw1], [], []⟩
def awText : ByteArray := ⟨#[101, 110, 117, 109, 32, 69, 32, 123, 10, 9, 97, 32, 61, 32, 48, 59, 10, 125, 10]⟩
theorem aw_plain (c : UInt8) (h1 : nameV (runesOf ⟨#[c]⟩) = true) (h2 : (Lib.containsS resWords ⟨#[c]⟩ || Lib.containsS scalWords ⟨#[c]⟩) = false) : plainV ⟨#[c]⟩ = true := by
  have h3 : resV ⟨#[c]⟩ = false := by
    unfold resV
    rw [h2]
    split <;> rfl
  unfold plainV
  rw [h1, h3]
  rfl
theorem aw_formed : formedP [aw0] = true := by
  have h1 : plainV ⟨#[69]⟩ = true := aw_plain 69 (by decide +kernel) (by decide +kernel)
  have h2 : plainV ⟨#[97]⟩ = true := aw_plain 97 (by decide +kernel) (by decide +kernel)
  unfold formedP
  rw [← pfrmI_all, aw0, pfrmI, pfrmI, pfrmI]
  unfold phead
  rw [h1]
  simp only [List.all_cons, List.all_nil, Bool.and_true]
  unfold valP
  rw [show (aw1).f0 = (⟨#[97]⟩ : ByteArray) from rfl, h2]
  decide
theorem aw_file : fileB [aw0] = awText := by
  rw [fileB, declL_one]
  show _ ++ catB [] = _
  rw [catB, app_nil, show aw0.f6 = [] from rfl, declL]
  decide +kernel
theorem aw_lex : lexE awText = 0 := by decide +kernel
theorem aw_print : printV [aw0] = (awText, 0) := by
  unfold printV
  rw [aw_formed, if_pos rfl, aw_file, aw_lex]
  rfl
theorem one_lit {α : Type} {d : Kd α} (w : World) (e : TypeId) (x : α) (cs : List Value) (h : d.K (w.alloc (.cells cs.toArray e)) x cs) : d.C (w.alloc (.cells cs.toArray e)) (some ⟨w.heap.size, 0, none⟩) 1 [x] := by
  refine ⟨rfl, by omega, fun _ => ⟨_, rfl, fun j p hj => ?_⟩⟩
  obtain rfl : j = 0 := by
    rcases Nat.eq_zero_or_pos j with h0 | h0
    · exact h0
    · rw [List.getElem?_eq_none (by simp; omega)] at hj; cases hj
  obtain rfl : x = p := by simpa using hj
  refine ⟨cs, d.K_len h, h, fun j u hu => ?_⟩
  rw [Nat.zero_mul, Nat.zero_add, add_plain]
  refine (blk_cell (blk_new w _) j).trans ?_
  rw [← hu, List.getElem?_toArray]
set_option maxHeartbeats 4000000 in
set_option maxRecDepth 100000 in
theorem awake06.calls (m : Int) (w : World) (hm : w.cell? ⟨3, 0, none⟩ = some (.int .i64 m)) (hT : LexTabs w) :
    Calls Tryz.prog 5 #[] w fun e w' => e = .returned (.bool true) ∧ Below w.heap.size w w' := by
  have HT := Aside0.mk hT
  have HM := Aside0.mk hm
  clear hT hm
  go_enter Tryz.func5, Tryz.ntmps5
  go_wp2_with fail
  obtain ⟨W0, hW0⟩ : ∃ W0, W0 = w.alloc (.cells #[.string ⟨#[97]⟩, .int .i64 0, .int .i64 0, .int .i64 0] 36) := ⟨_, rfl⟩
  obtain ⟨W1, hW1⟩ : ∃ W1, W1 = W0.alloc (.cells #[.int .i64 2, .string ⟨#[69]⟩, .int .i64 0, .int .i64 0, .slice none 0 0, .slice (some ⟨w.heap.size, 0, none⟩) 1 1, .slice none 0 0, .slice none 0 0] 41) := ⟨_, rfl⟩
  have hC0 : Kd.C kPV W0 (some ⟨w.heap.size, 0, none⟩) 1 [aw1] := by
    rw [hW0]
    exact one_lit w _ aw1 [.string ⟨#[97]⟩, .int .i64 0, .int .i64 0, .int .i64 0] (k36_mk _ aw1)
  have hB1 : Below W0.heap.size W0 W1 := by rw [hW1]; exact below_alloc (Below.refl _ _) _
  have hs : W0.heap.size = w.heap.size + 1 := by rw [hW0]; simp
  have hC1 : Kd.C kP W1 (some ⟨w.heap.size + 1, 0, none⟩) 1 [aw0] := by
    rw [← hs, hW1]
    have hC2 := Kd.C_below hC0 hB1
    rw [hW1] at hC2
    exact one_lit W0 _ aw0 [.int .i64 2, .string ⟨#[69]⟩, .int .i64 0, .int .i64 0, .slice none 0 0, .slice (some ⟨w.heap.size, 0, none⟩) 1 1, .slice none 0 0, .slice none 0 0] (k41_mk _ aw0 (Nat.le_refl _) (Kd.C_nil _ _) (Nat.le_refl _) hC2 (Nat.le_refl _) (Kd.C_nil _ _) (Nat.le_refl _) (Kd.C_nil _ _))
  have hB : Below w.heap.size w W1 := by rw [hW1, hW0]; exact below_alloc (below_alloc (Below.refl _ _) _) _
  rw [← hW0, ← hW1]
  have HBA := Aside0.mk hB
  have HPV := Aside0.mk aw_print
  refine (printFile.calls [aw0] (some ⟨w.heap.size + 1, 0, none⟩) 1 m W1 hC1 (by rw [aw0, szP, szP]; decide) (pw_cell_below hB HM.out) (HT.out.below hB)).mono ?_
  rw [HPV.out]
  rintro e w2 ⟨rfl, hb⟩
  have HB2 := Aside0.mk (below_step HBA.out hb)
  clear hb hC0 hB1 hs hC1 hB hW0 hW1
  have hte : (awText.toList == [101, 110, 117, 109, 32, 69, 32, 123, 10, 9, 97, 32, 61, 32, 48, 59, 10, 125, 10]) = true := by decide +kernel
  go_wp2_with fail
  go_ret
  exact ⟨rfl, HB2.out⟩
end Go.Proofs.YtknbhbppofphpaaGreatDoor.X
