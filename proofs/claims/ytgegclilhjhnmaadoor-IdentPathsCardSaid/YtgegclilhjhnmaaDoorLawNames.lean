/- The law IdentNames walked: of any text, where utf8's two tables are as they are laid, it answers true. -/
import Derived.Test.YtgegclilhjhnmaaDoorX22
import Derived.Test.YtgegclilhjhnmaaDoorRefName
import Derived.Test.YtgegclilhjhnmaaDoorRefReserved
import Derived.Test.YtgegclilhjhnmaaDoorAwake03
set_option linter.unusedVariables false
set_option linter.unusedSimpArgs false
namespace Go.Proofs.YtgegclilhjhnmaaDoor.X
open Go.RowKit Go.Shelf Go.Proofs.YtgegclilhjhnmaaDoorW.PrintWords Go.Proofs.YtgegclilhjhnmaaDoorW.PrintLast Go.Proofs.YtgegclilhjhnmaaDoorW.PrintMore
theorem few_one (s : ByteArray) : courierlaw03_few.f 3 [s] = some (decide (s.size ≤ 3000)) := by
  unfold courierlaw03_few.f
  rw [courierlaw03_few.l0]
  rw [if_pos (by simp), if_pos (by omega), if_pos (by simp)]
  have h : rdOf ByteArray.empty [s] 0 = s := rfl
  rw [h]
  by_cases hs : s.size ≤ 3000
  · rw [if_neg (by omega), decide_eq_true hs, courierlaw03_few.l0, if_neg (by simp [wrap64])]
  · rw [if_pos (by omega), decide_eq_false hs]
theorem one_C {W : World} (s : ByteArray) : Kd.C Kd.string (W.alloc (.cells #[.string s] 9)) (some ⟨W.heap.size, 0, none⟩) 1 [s] := by
  refine Kd.C_of_reads (enc := Value.string) (d := ByteArray.empty) ⟨rfl, by omega, fun _ => ⟨⟨W.heap.size, 0, none⟩, rfl, fun j hj => ?_⟩⟩
  obtain rfl : j = 0 := by omega
  exact blk_cell (heap_alloc_new W _) 0
set_option maxHeartbeats 4000000 in
set_option maxRecDepth 100000 in
theorem identNames.calls (s : ByteArray) (w : World) (hT : Lib.Utf8Tabs (Tryd.lays196_ren.g 3) (Tryd.lays196_ren.g 4) w) :
    Calls Tryd.prog 4 #[.string s] w fun e w' => e = .returned (.bool true) ∧ Below w.heap.size w w' := by
  have HT := Aside0.mk hT
  clear hT
  go_enter Tryd.func4, Tryd.ntmps4
  go_wp2_with fail
  refine (awake03.calls _).mono ?_
  rintro e w1 ⟨rfl, hb⟩
  have HB1 := Aside0.mk hb
  clear hb
  go_wp2_with fail
  refine (courierlaw03_few.calls 3 (some ⟨w1.heap.size, 0, none⟩) 1 [s] _ _ (one_C s) (by simp) (few_one s)).mono ?_
  rintro e w' ⟨rfl, ⟨nd, rfl⟩⟩
  have HB2 := Aside0.mk (pw_below_drewN (below_alloc HB1.out (.cells #[.string s] 9)) nd)
  obtain ⟨W, hW⟩ : ∃ W, W = (w1.alloc (.cells #[.string s] 9)).drewN nd := ⟨_, rfl⟩
  rw [← hW] at HB2 ⊢
  clear hW HB1
  by_cases hs : s.size ≤ 3000
  rotate_left
  · rw [decide_eq_false hs]
    go_wp2_with fail
    refine (awake03.calls _).mono ?_
    rintro e w2 ⟨rfl, hb⟩
    have HB3 := Aside0.mk (below_step HB2.out hb)
    clear hb
    go_wp2_with fail
    go_ret
    exact ⟨rfl, HB3.out⟩
  rw [decide_eq_true hs]
  have HT2 := Aside0.mk (Utf8Tabs_below HT.out HB2.out)
  go_wp2_with fail
  refine (ident_Runes.calls s W (by omega) HT2.out).mono ?_
  rintro e w3 ⟨rfl, hb⟩
  have HB3 := Aside0.mk (below_step HB2.out hb)
  have HT3 := Aside0.mk (Utf8Tabs_below HT2.out hb)
  clear hb HB2 HT2
  go_wp2_with fail
  refine (courierref03_Runes.calls s w3 (by omega) HT3.out).mono ?_
  rintro e w4 ⟨A, c, rfl, _, _, hb⟩
  have HB4 := Aside0.mk (below_step HB3.out hb)
  have HT4 := Aside0.mk (Utf8Tabs_below HT3.out hb)
  clear hb HB3 HT3
  go_wp2_with fail
  refine (ident_Name.calls s w4 (by omega)).mono ?_
  rintro e w5 ⟨rfl, hb⟩
  have HB5 := Aside0.mk (below_step HB4.out hb)
  have HT5 := Aside0.mk (Utf8Tabs_below HT4.out hb)
  clear hb HB4 HT4
  go_wp2_with fail
  refine (courierref03_Name.calls s w5 (by omega) HT5.out).mono ?_
  rintro e w6 ⟨rfl, hb⟩
  have HB6 := Aside0.mk (below_step HB5.out hb)
  clear hb HB5 HT5 HT
  generalize nameV (runesOf s) = v1
  generalize (runesZ s).length = n1
  generalize validV s = v2
  have t1 : (v1 == v1) = true := beq_self_eq_true v1
  have t2 : (v2 == v2) = true := beq_self_eq_true v2
  go_wp2_with fail
  refine (ident_Reserved.calls s w6).mono ?_
  rintro e w7 ⟨rfl, hb⟩
  have HB7 := Aside0.mk (below_step HB6.out hb)
  clear hb HB6
  go_wp2_with fail
  refine (courierref03_Reserved.calls s (resV s) w7 (refReserved_f s)).mono ?_
  rintro e w' ⟨rfl, ⟨nd2, rfl⟩⟩
  generalize resV s = v3
  have t3 : (v3 == v3) = true := beq_self_eq_true v3
  have t4 : ((n1 : Int) == (n1 : Int)) = true := beq_self_eq_true _
  go_wp2_with fail
  go_ret
  exact ⟨rfl, pw_below_drewN HB7.out _⟩
end Go.Proofs.YtgegclilhjhnmaaDoor.X
