/- The laws IdentCamels and IdentSnakes walked: of any text, where utf8's two tables are as they are laid, they answer true. -/
import Derived.Test.YtgegclilhjhnmaaDoorLawNames
import Derived.Test.YtgegclilhjhnmaaDoorSnake
import Derived.Test.YtgegclilhjhnmaaDoorRefCamel
import Derived.Test.YtgegclilhjhnmaaDoorRefSnake
set_option linter.unusedVariables false
set_option linter.unusedSimpArgs false
namespace Go.Proofs.YtgegclilhjhnmaaDoor.X
open Go.RowKit Go.Shelf Go.Proofs.YtgegclilhjhnmaaDoorW.PrintWords Go.Proofs.YtgegclilhjhnmaaDoorW.PrintLast Go.Proofs.YtgegclilhjhnmaaDoorW.PrintMore
set_option maxHeartbeats 4000000 in
set_option maxRecDepth 100000 in
theorem identCamels.calls (s : ByteArray) (w : World) (hT : Lib.Utf8Tabs (Tryd.lays196_ren.g 3) (Tryd.lays196_ren.g 4) w) :
    Calls Tryd.prog 5 #[.string s] w fun e w' => e = .returned (.bool true) ∧ Below w.heap.size w w' := by
  have HT := Aside0.mk hT
  clear hT
  go_enter Tryd.func5, Tryd.ntmps5
  go_wp2_with fail
  refine (awake03.calls _).mono ?_
  rintro e w1 ⟨rfl, hb⟩
  have HB1 := Aside0.mk hb
  clear hb
  go_wp2_with fail
  refine (courierlaw03_few.calls 3 (some ⟨w1.heap.size, 0, none⟩) 1 [s] _ _ (one_C s) (by simp) (few_one s)).mono ?_
  rintro e w' ⟨rfl, ⟨nd, rfl⟩⟩
  have HB2 := Aside0.mk (pw_below_drewN (below_alloc HB1.out (.cells #[.string s] 9)) nd)
  obtain ⟨W, hW⟩ : ∃ W, W = (w1.alloc (.cells #[.string s] 9)).drewN nd := ⟨_, rfl⟩
  rw [← hW] at HB2 ⊢
  clear hW HB1
  by_cases hs : s.size ≤ 3000
  rotate_left
  · rw [decide_eq_false hs]
    go_wp2_with fail
    refine (awake03.calls _).mono ?_
    rintro e w2 ⟨rfl, hb⟩
    have HB3 := Aside0.mk (below_step HB2.out hb)
    clear hb
    go_wp2_with fail
    go_ret
    exact ⟨rfl, HB3.out⟩
  rw [decide_eq_true hs]
  have HT2 := Aside0.mk (Utf8Tabs_below HT.out HB2.out)
  go_wp2_with fail
  refine (ident_Camel.calls s W (by omega)).mono ?_
  rintro e w3 ⟨rfl, hb⟩
  have HB3 := Aside0.mk (below_step HB2.out hb)
  have HT3 := Aside0.mk (Utf8Tabs_below HT2.out hb)
  clear hb HB2 HT2
  go_wp2_with fail
  refine (courierref03_Camel.calls s w3 (by omega) HT3.out).mono ?_
  rintro e w4 ⟨rfl, hb⟩
  have HB4 := Aside0.mk (below_step HB3.out hb)
  have HT4 := Aside0.mk (Utf8Tabs_below HT3.out hb)
  clear hb HB3 HT3
  generalize (⟨(camelV s).toArray⟩ : ByteArray) = c
  go_wp2_with fail
  refine (ident_Snake.calls s w4 (by omega) HT4.out).mono ?_
  rintro e w5 ⟨rfl, hb⟩
  have HB5 := Aside0.mk (below_step HB4.out hb)
  have HT5 := Aside0.mk (Utf8Tabs_below HT4.out hb)
  clear hb HB4 HT4
  go_wp2_with fail
  refine (courierref03_Snake.calls s w5 (by omega) HT5.out).mono ?_
  rintro e w6 ⟨rfl, hb⟩
  have HB6 := Aside0.mk (below_step HB5.out hb)
  clear hb HB5 HT5 HT
  generalize (⟨(snakeV s).toArray⟩ : ByteArray) = d
  go_wp2_with fail
  go_ret
  exact ⟨rfl, HB6.out⟩
theorem bt_txt {l : List UInt8} (h : l ≠ []) : bt (txt l) 0 = ((l.getD 0 0).toNat : Int) := by
  cases l with
  | nil => exact absurd rfl h
  | cons x l => rfl
theorem txt_nil {l : List UInt8} (h : txt l ≠ ⟨#[]⟩) : l ≠ [] := fun e => h (by rw [e]; rfl)
theorem txt_size (l : List UInt8) : (txt l).size = l.length := by show l.toArray.size = _; simp
theorem camel_size (s : ByteArray) : (txt (camelV s)).size ≤ 4 * s.size := by
  rw [txt_size]
  unfold camelV
  by_cases h : nameV (runesOf s) = true
  · rw [if_pos h, camelGo_R]
    have h1 := encAll_le (camelR true (runesOf s))
    have h2 := (camelR_facts true (runesOf s) (nameV_all h).1).2
    have h3 := runesOf_le s
    omega
  · rw [if_neg h]; simp
theorem snake_size (s : ByteArray) : (txt (snakeV s)).size ≤ 160 := by
  rw [txt_size]
  unfold snakeV
  by_cases h : nameV (runesOf s) = true
  · rw [if_pos h]
    by_cases h2 : (snakeR true (runesOf s)).length ≤ 40
    · rw [if_pos h2]
      have h1 := encAll_le (snakeR true (runesOf s))
      omega
    · rw [if_neg h2]; simp
  · rw [if_neg h]; simp
set_option maxHeartbeats 4000000 in
set_option maxRecDepth 100000 in
theorem identSnakes.calls (s : ByteArray) (w : World) (hT : Lib.Utf8Tabs (Tryd.lays196_ren.g 3) (Tryd.lays196_ren.g 4) w) :
    Calls Tryd.prog 6 #[.string s] w fun e w' => e = .returned (.bool true) ∧ Below w.heap.size w w' := by
  have HT := Aside0.mk hT
  clear hT
  go_enter Tryd.func6, Tryd.ntmps6
  go_wp2_with fail
  refine (awake03.calls _).mono ?_
  rintro e w1 ⟨rfl, hb⟩
  have HB1 := Aside0.mk hb
  clear hb
  go_wp2_with fail
  refine (courierlaw03_few.calls 3 (some ⟨w1.heap.size, 0, none⟩) 1 [s] _ _ (one_C s) (by simp) (few_one s)).mono ?_
  rintro e w' ⟨rfl, ⟨nd, rfl⟩⟩
  have HB2 := Aside0.mk (pw_below_drewN (below_alloc HB1.out (.cells #[.string s] 9)) nd)
  obtain ⟨W, hW⟩ : ∃ W, W = (w1.alloc (.cells #[.string s] 9)).drewN nd := ⟨_, rfl⟩
  rw [← hW] at HB2 ⊢
  clear hW HB1
  by_cases hs : s.size ≤ 3000
  rotate_left
  · rw [decide_eq_false hs]
    go_wp2_with fail
    refine (awake03.calls _).mono ?_
    rintro e w2 ⟨rfl, hb⟩
    have HB3 := Aside0.mk (below_step HB2.out hb)
    clear hb
    go_wp2_with fail
    go_ret
    exact ⟨rfl, HB3.out⟩
  rw [decide_eq_true hs]
  have HT2 := Aside0.mk (Utf8Tabs_below HT.out HB2.out)
  go_wp2_with fail
  refine (ident_Camel.calls s W (by omega)).mono ?_
  rintro e w3 ⟨rfl, hb⟩
  have HB3 := Aside0.mk (below_step HB2.out hb)
  have HT3 := Aside0.mk (Utf8Tabs_below HT2.out hb)
  clear hb HB2 HT2
  have hcs := camel_size s
  obtain ⟨C, hC⟩ : ∃ C, C = txt (camelV s) := ⟨_, rfl⟩
  rw [show (⟨(camelV s).toArray⟩ : ByteArray) = C from hC.symm]
  rw [← hC] at hcs
  have HC := Aside0.mk hC
  have HCS := Aside0.mk hcs
  clear hC hcs
  go_wp2_with fail
  refine (ident_Snake.calls C w3 (by have := HCS.out; omega) HT3.out).mono ?_
  rintro e w4 ⟨rfl, hb⟩
  have HB4 := Aside0.mk (below_step HB3.out hb)
  clear hb HB3 HT3 HT
  have hts := snake_size C
  obtain ⟨T, hT⟩ : ∃ T, T = txt (snakeV C) := ⟨_, rfl⟩
  rw [show (⟨(snakeV C).toArray⟩ : ByteArray) = T from hT.symm]
  rw [← hT] at hts
  have HTT := Aside0.mk hT
  have HTS := Aside0.mk hts
  clear hT hts hs
  by_cases hc : C.toList.isEmpty = true
  · have hc2 : (C.toList = []) = True := eq_true (List.isEmpty_iff.mp hc)
    go_wp2_with fail
    go_ret
    exact ⟨rfl, HB4.out⟩
  have tc : C.toList.isEmpty = false := Bool.eq_false_iff.mpr hc
  have hc2 : (C.toList = []) = False := eq_false (fun e => hc (List.isEmpty_iff.mpr e))
  have HCN : Aside0 (C ≠ ⟨#[]⟩) := ⟨fun e => hc (by rw [e]; first | decide +kernel | (simp [ByteArray.toList, ByteArray.toList.loop]; done) | (unfold ByteArray.toList ByteArray.toList.loop; rfl))⟩
  clear hc
  by_cases ht : T.toList.isEmpty = true
  · have ht2 : (T.toList = []) = True := eq_true (List.isEmpty_iff.mp ht)
    go_wp2_with fail
    go_ret
    exact ⟨rfl, HB4.out⟩
  have tt : T.toList.isEmpty = false := Bool.eq_false_iff.mpr ht
  have ht2 : (T.toList = []) = False := eq_false (fun e => ht (List.isEmpty_iff.mpr e))
  have HTN : Aside0 (T ≠ ⟨#[]⟩) := ⟨fun e => ht (by rw [e]; first | decide +kernel | (simp [ByteArray.toList, ByteArray.toList.loop]; done) | (unfold ByteArray.toList ByteArray.toList.loop; rfl))⟩
  clear ht
  have hl : camelV s ≠ [] := txt_nil (by rw [← HC.out]; exact HCN.out)
  have hm : snakeV C ≠ [] := txt_nil (by rw [← HTT.out]; exact HTN.out)
  have h0 : 0 < C.size := by
    rw [HC.out, txt_size]
    exact List.length_pos_iff.mpr hl
  have hbt : bt C 0 = (((camelV s).getD 0 0).toNat : Int) := by rw [HC.out]; exact bt_txt hl
  have hat : ((C[0]'h0).toNat : Int) = bt C 0 := bt_at C 0 h0
  have HBT := Aside0.mk hbt
  have HL := Aside0.mk hl
  have HMM := Aside0.mk hm
  clear hbt hl hm
  have hr := bt_range C 0
  generalize bt C 0 = b at hat HBT hr
  by_cases hA : b < 65
  · have tA : decide (b < 65) = true := decide_eq_true hA
    go_wp2_with fail
    go_ret
    exact ⟨rfl, HB4.out⟩
  have tA : decide (b < 65) = false := decide_eq_false hA
  by_cases hZ : 90 < b
  · have tZ : decide (90 < b) = true := decide_eq_true hZ
    go_wp2_with fail
    go_ret
    exact ⟨rfl, HB4.out⟩
  have tZ : decide (90 < b) = false := decide_eq_false hZ
  have HP : Aside0 ((⟨(camelV T).toArray⟩ : ByteArray) = C) := ⟨by
    have hp := snakes_pure s HL.out (by rw [← HC.out]; exact HMM.out) (by have := HBT.out; omega) (by have := HBT.out; omega)
    rw [← HC.out, ← HTT.out] at hp
    rw [HC.out, hp]; rfl⟩
  go_wp2_with fail
  refine (ident_Camel.calls T w4 (by have := HTS.out; omega)).mono ?_
  rintro e w5 ⟨rfl, hb⟩
  have HB5 := Aside0.mk (below_step HB4.out hb)
  clear hb HB4
  rw [HP.out]
  go_wp2_with fail
  go_ret
  exact ⟨rfl, HB5.out⟩
end Go.Proofs.YtgegclilhjhnmaaDoor.X
