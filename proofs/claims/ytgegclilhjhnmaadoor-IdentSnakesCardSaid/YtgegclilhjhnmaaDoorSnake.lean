/- A name's small form: what ident.Snake answers of any text; texts of at most 2^44 bytes; utf8's two tables as they are laid. -/
import Derived.Test.YtgegclilhjhnmaaDoorSnakeMath
import Derived.Test.YtgegclilhjhnmaaDoorBuilder2
set_option linter.unusedVariables false
set_option linter.unusedSimpArgs false
namespace Go.Proofs.YtgegclilhjhnmaaDoor.X
open Go.RowKit Go.Shelf Go.Proofs.YtgegclilhjhnmaaDoorW.PrintWords Go.Proofs.YtgegclilhjhnmaaDoorW.PrintLast Go.Proofs.YtgegclilhjhnmaaDoorW.PrintMore
theorem first_dec (pos : Nat) : decide (pos = 0) = true ↔ pos = 0 := by simp
theorem snakeE_up (a : Bool) (x : Nat) (l : List Nat) (h1 : 65 ≤ x) (h2 : x ≤ 90) (h : a = true) : encAll (snakeR a (x :: l)) = Lib.encodeRune ((x : Int) + 32) ++ encAll (snakeR false l) := by
  rw [snakeR, if_pos ⟨h1, h2⟩, if_pos h, encAll_append, encAll_cons, encAll_nil, List.append_nil]; rfl
theorem snakeE_up2 (a : Bool) (x : Nat) (l : List Nat) (h1 : 65 ≤ x) (h2 : x ≤ 90) (h : a = false) : encAll (snakeR a (x :: l)) = [95] ++ (Lib.encodeRune ((x : Int) + 32) ++ encAll (snakeR false l)) := by
  rw [snakeR, if_pos ⟨h1, h2⟩, if_neg (by rw [h]; decide), encAll_append, encAll_cons, encAll_cons, encAll_nil, List.append_nil, List.append_assoc]; rfl
theorem snakeE_no (a : Bool) (x : Nat) (l : List Nat) (h : ¬ (65 ≤ x ∧ x ≤ 90)) : encAll (snakeR a (x :: l)) = Lib.encodeRune (x : Int) ++ encAll (snakeR false l) := by
  rw [snakeR, if_neg h, encAll_append, encAll_cons, encAll_nil, List.append_nil]
theorem byteCells_95 : Lib.byteCells [95] = [Value.int .u8 95] := rfl
set_option maxHeartbeats 4000000 in
set_option maxRecDepth 100000 in
theorem ident_Snake.calls (s : ByteArray) (w : World) (hs : s.size ≤ 8796093022208) (hT : Lib.Utf8Tabs (Tryd.lays196_ren.g 3) (Tryd.lays196_ren.g 4) w) :
    Calls Tryd.prog 21 #[.string s] w fun e w' => e = .returned (.string ⟨(snakeV s).toArray⟩) ∧ Below w.heap.size w w' := by
  have HTab := Aside0.mk hT
  clear hT
  go_enter Tryd.func21, Tryd.ntmps21
  go_wp2_with fail
  refine (ident_Name.calls s _ (by omega)).mono ?_
  rintro e w1 ⟨rfl, hb1⟩
  by_cases hnm : nameV (runesOf s) = true
  rotate_left
  · have HV : Aside0 (snakeV s = []) := ⟨by unfold snakeV; rw [if_neg hnm]⟩
    rw [Bool.eq_false_iff.mpr hnm]
    go_wp2
    go_ret
    exact ⟨by rw [HV.out]; rfl, hb1⟩
  have HNm := Aside0.mk hnm
  rw [hnm]
  have hz1 := hb1.size
  have HB1 := Aside0.mk hb1
  clear hb1 hnm
  go_wp2
  go_loopw [] (fun wr => ∃ (pos fuel : Nat) (acc : List UInt8), Aside0 (Lib.IsBuilderF 38 5 w1.heap.size w1.heap.size (Lib.byteCells acc) wr) ∧ Aside0 (wr.heap[w1.heap.size + 1]? = some (.stringIter s pos)) ∧ Aside0 (Below w1.heap.size w1 wr) ∧ Aside0 (acc ++ encAll (snakeR (decide (pos = 0)) (runesFrom s fuel pos)) = encAll (snakeR true (runesOf s))) ∧ s.size ≤ pos + fuel ∧ acc.length ≤ 8 * pos) (fun wr => s.size - wr.iterPos (w1.heap.size + 1))
  case atStart =>
    refine ⟨0, s.size, [], ⟨(Lib.IsBuilderF.of (Lib.fresh_isBuilder 38 5 w1)).alloc _⟩, ⟨?_⟩, ⟨((Below.refl _ w1).alloc (Nat.le_refl _) _).alloc (by simp) _⟩, ⟨by rw [List.nil_append]; rfl⟩, by omega, by simp⟩
    have := World.iter_heap (w1.alloc (.cells #[.pointer none, .slice none 0 0] 38)) s 0
    simpa using this
  case round =>
    obtain ⟨pos, fuel, acc, HI, HT, HB, HA, hfu, hal⟩ := hrel
    have hsz : w1.heap.size + 1 < wr.heap.size := (Array.getElem?_eq_some_iff.1 HT.out).1
    by_cases hp : pos < s.size
    · have hnx : ∀ ty, (Instr.next (.pointer (some ⟨w1.heap.size + 1, 0, none⟩)) true ty).run Tryd.prog wr = _ := fun ty => Lib.run_next_any_at wr (w1.heap.size + 1) s pos ty HT.out hp
      have hwd := width_pos s pos hp
      have hd1 := decode_le s pos
      have HI2 := Aside0.mk (HI.out.iterAt HT.out (pos + (Utf8.decode s pos).2))
      have HT2 := Aside0.mk (Lib.iterAt_heap wr (w1.heap.size + 1) s pos (pos + (Utf8.decode s pos).2) HT.out)
      have HB2 := Aside0.mk (Lib.below_iterAt HB.out (k := w1.heap.size + 1) (by omega) s (pos + (Utf8.decode s pos).2))
      have HZ2 : Aside0 (w1.heap.size ≤ (wr.iterAt (w1.heap.size + 1) s (pos + (Utf8.decode s pos).2)).heap.size) := ⟨by rw [Lib.iterAt_size]; omega⟩
      obtain ⟨f, rfl⟩ : ∃ f, fuel = f + 1 := ⟨fuel - 1, by omega⟩
      have HR := Aside0.mk (runesFrom_next s f pos hp)
      have hfu2 : s.size ≤ pos + (Utf8.decode s pos).2 + f := by omega
      have hadv : pos < pos + (Utf8.decode s pos).2 := by omega
      have HM : Aside0 (wr.iterPos (w1.heap.size + 1) = pos) := ⟨by simp only [World.iterPos, HT.out]⟩
      generalize (Utf8.decode s pos).1 = x at *
      generalize pos + (Utf8.decode s pos).2 = pos2 at *
      have HP2 : Aside0 (decide (pos2 = 0) = false) := ⟨decide_eq_false (by omega)⟩
      clear HI HT
      by_cases h65 : 65 ≤ x
      · have t65 : decide (65 ≤ (x : Int)) = true := decide_eq_true (by omega)
        by_cases h90 : x ≤ 90
        · have t90 : decide ((x : Int) ≤ 90) = true := decide_eq_true (by omega)
          have hw1 : IntKind.i32.wrap ((x : Int) + 32) = (x : Int) + 32 := by rw [IntKind.wrap_i32]; omega
          have hw2 : wrap32 ((x : Int) + 32) = (x : Int) + 32 := by unfold wrap32; omega
          by_cases hp0 : pos = 0
          · have tp : decide (0 < (pos : Int)) = false := decide_eq_false (by omega)
            have tpn : decide (0 < pos) = false := decide_eq_false (by omega)
            have HP0 := Aside0.mk hp0
            clear hp0
            go_wp2_with fail
            clear hw1 hw2
            refine (Builder_WriteRune w1.heap.size w1.heap.size _ ((x : Int) + 32) (by omega) (by omega) _ HI2.out (by rw [Lib.byteCells_length]; simp; omega) HZ2.out).mono ?_
            rintro e W1 ⟨rfl, h1, b1, k1⟩
            have HK := Aside0.mk (k1.iter HT2.out (by omega))
            have HI3 := Aside0.mk h1
            have HB3 := Aside0.mk (HB2.out.trans b1)
            clear h1 b1 k1
            go_wp2_with fail
            go_roundw
            case rel =>
              have hl4 := Lib.runeCells_le (((x : Int) + 32))
              rw [Lib.runeCells_length] at hl4
              refine ⟨pos2, f, acc ++ Lib.encodeRune (((x : Int) + 32)), ⟨?_⟩, HK, HB3, ⟨?_⟩, hfu2, by simp; omega⟩
              · have h3 := HI3.out
                first | (rw [Lib.byteCells_append, Lib.byteCells_encodeRune]; exact Or.inr h3) | (rw [Lib.byteCells_append, Lib.byteCells_append, Lib.byteCells_encodeRune]; exact Or.inr h3)
              · rw [← HA.out, HR.out]
                rw [snakeE_up _ x _ h65 h90 (decide_eq_true HP0.out), HP2.out, List.append_assoc]
            case measure =>
              have h1 : World.iterPos W1 (w1.heap.size + 1) = pos2 := by simp only [World.iterPos, HK.out]
              rw [h1, HM.out]
              omega
          · have tp : decide (0 < (pos : Int)) = true := decide_eq_true (by omega)
            have tpn : decide (0 < pos) = true := decide_eq_true (by omega)
            go_wp2_with fail
            refine (Builder_WriteByte w1.heap.size w1.heap.size _ 95 _ HI2.out (by rw [Lib.byteCells_length]; omega) HZ2.out).mono ?_
            rintro e W0 ⟨rfl, h1, b1, k1⟩
            have HK0 := Aside0.mk (k1.iter HT2.out (by omega))
            have HI0 : Aside0 (Lib.IsBuilderF 38 5 w1.heap.size w1.heap.size (Lib.byteCells (acc ++ [95])) W0) := ⟨by rw [Lib.byteCells_append]; exact Or.inr h1⟩
            have HB0 := Aside0.mk (HB2.out.trans b1)
            have HZ0 : Aside0 (w1.heap.size ≤ W0.heap.size) := ⟨Nat.le_trans HZ2.out b1.size⟩
            clear h1 b1 k1
            go_wp2_with fail
            clear hw1 hw2
            refine (Builder_WriteRune w1.heap.size w1.heap.size _ ((x : Int) + 32) (by omega) (by omega) _ HI0.out (by rw [Lib.byteCells_length]; simp; omega) HZ0.out).mono ?_
            rintro e W1 ⟨rfl, h1, b1, k1⟩
            have HK := Aside0.mk (k1.iter HK0.out (by omega))
            have HI3 := Aside0.mk h1
            have HB3 := Aside0.mk (HB0.out.trans b1)
            clear h1 b1 k1
            go_wp2_with fail
            go_roundw
            case rel =>
              have hl4 := Lib.runeCells_le (((x : Int) + 32))
              rw [Lib.runeCells_length] at hl4
              refine ⟨pos2, f, (acc ++ [95]) ++ Lib.encodeRune (((x : Int) + 32)), ⟨?_⟩, HK, HB3, ⟨?_⟩, hfu2, by simp; omega⟩
              · have h3 := HI3.out
                first | (rw [Lib.byteCells_append, Lib.byteCells_encodeRune]; exact Or.inr h3) | (rw [Lib.byteCells_append, Lib.byteCells_append, Lib.byteCells_encodeRune]; exact Or.inr h3)
              · rw [← HA.out, HR.out]
                rw [snakeE_up2 _ x _ h65 h90 (decide_eq_false hp0), HP2.out, List.append_assoc, List.append_assoc]
            case measure =>
              have h1 : World.iterPos W1 (w1.heap.size + 1) = pos2 := by simp only [World.iterPos, HK.out]
              rw [h1, HM.out]
              omega
        · have t90 : decide ((x : Int) ≤ 90) = false := decide_eq_false (by omega)
          go_wp2_with fail
          refine (Builder_WriteRune w1.heap.size w1.heap.size _ (x : Int) (by omega) (by omega) _ HI2.out (by rw [Lib.byteCells_length]; simp; omega) HZ2.out).mono ?_
          rintro e W1 ⟨rfl, h1, b1, k1⟩
          have HK := Aside0.mk (k1.iter HT2.out (by omega))
          have HI3 := Aside0.mk h1
          have HB3 := Aside0.mk (HB2.out.trans b1)
          clear h1 b1 k1
          go_wp2_with fail
          go_roundw
          case rel =>
            have hl4 := Lib.runeCells_le ((x : Int))
            rw [Lib.runeCells_length] at hl4
            refine ⟨pos2, f, acc ++ Lib.encodeRune ((x : Int)), ⟨?_⟩, HK, HB3, ⟨?_⟩, hfu2, by simp; omega⟩
            · have h3 := HI3.out
              first | (rw [Lib.byteCells_append, Lib.byteCells_encodeRune]; exact Or.inr h3) | (rw [Lib.byteCells_append, Lib.byteCells_append, Lib.byteCells_encodeRune]; exact Or.inr h3)
            · rw [← HA.out, HR.out]
              rw [snakeE_no _ x _ (by omega), HP2.out, List.append_assoc]
          case measure =>
            have h1 : World.iterPos W1 (w1.heap.size + 1) = pos2 := by simp only [World.iterPos, HK.out]
            rw [h1, HM.out]
            omega
      · have t65 : decide (65 ≤ (x : Int)) = false := decide_eq_false (by omega)
        go_wp2_with fail
        refine (Builder_WriteRune w1.heap.size w1.heap.size _ (x : Int) (by omega) (by omega) _ HI2.out (by rw [Lib.byteCells_length]; simp; omega) HZ2.out).mono ?_
        rintro e W1 ⟨rfl, h1, b1, k1⟩
        have HK := Aside0.mk (k1.iter HT2.out (by omega))
        have HI3 := Aside0.mk h1
        have HB3 := Aside0.mk (HB2.out.trans b1)
        clear h1 b1 k1
        go_wp2_with fail
        go_roundw
        case rel =>
          have hl4 := Lib.runeCells_le ((x : Int))
          rw [Lib.runeCells_length] at hl4
          refine ⟨pos2, f, acc ++ Lib.encodeRune ((x : Int)), ⟨?_⟩, HK, HB3, ⟨?_⟩, hfu2, by simp; omega⟩
          · have h3 := HI3.out
            first | (rw [Lib.byteCells_append, Lib.byteCells_encodeRune]; exact Or.inr h3) | (rw [Lib.byteCells_append, Lib.byteCells_append, Lib.byteCells_encodeRune]; exact Or.inr h3)
          · rw [← HA.out, HR.out]
            rw [snakeE_no _ x _ (by omega), HP2.out, List.append_assoc]
        case measure =>
          have h1 : World.iterPos W1 (w1.heap.size + 1) = pos2 := by simp only [World.iterPos, HK.out]
          rw [h1, HM.out]
          omega
    · have hnx : ∀ ty, (Instr.next (.pointer (some ⟨w1.heap.size + 1, 0, none⟩)) true ty).run Tryd.prog wr = _ := fun ty => Lib.run_next_end_at wr (w1.heap.size + 1) s pos ty HT.out hp
      have HV : Aside0 (acc = encAll (snakeR true (runesOf s))) := ⟨by rw [← HA.out, runesFrom_end s fuel pos hp]; unfold snakeR; rw [encAll_nil, List.append_nil]⟩
      have hasz : acc.length ≤ 70368744177664 := by
        have h1 := congrArg List.length HV.out
        rw [h1]
        have h2 := encAll_le (snakeR true (runesOf s))
        have h3 := snakeR_len true (runesOf s)
        have h4 := runesOf_le s
        omega
      go_wp2_with fail
      refine (Tryd.Builder_String_any_k w1.heap.size w1.heap.size acc _ HI.out (by omega)).mono ?_
      rintro e W1 ⟨rfl, hi1, b1, _⟩
      have HI1 := Aside0.mk hi1
      have HB4 := Aside0.mk (HB.out.trans b1)
      have HZ1 : Aside0 (w1.heap.size ≤ W1.heap.size) := ⟨HB4.out.size⟩
      have HT4 := Aside0.mk (Utf8Tabs_below HTab.out (below_step HB1.out HB4.out))
      clear hi1 b1
      go_wp2_with fail
      refine (ident_Runes.calls ⟨acc.toArray⟩ _ (by show acc.toArray.size ≤ _; simpa using hasz) HT4.out).mono ?_
      rintro e W2 ⟨rfl, hb2⟩
      have HB5 := Aside0.mk (HB4.out.trans (hb2.mono HZ1.out))
      have HI5 := Aside0.mk (builder_below HI1.out hb2)
      have HZZ : Aside0 ((runesZ ⟨acc.toArray⟩).length = (snakeR true (runesOf s)).length) := ⟨by rw [HV.out, snake_runes HNm.out, List.length_map]⟩
      have HS : Aside0 (snakeV s = if (snakeR true (runesOf s)).length ≤ 40 then acc else []) := ⟨by unfold snakeV; rw [if_pos HNm.out, HV.out]⟩
      rw [HZZ.out]
      generalize (snakeR true (runesOf s)).length = n at HS
      clear hb2 HZZ
      by_cases h40 : n ≤ 40
      · have t40 : decide (40 < (n : Int)) = false := decide_eq_false (by omega)
        rw [if_pos h40] at HS
        go_wp2_with fail
        refine (Tryd.Builder_String_any_k w1.heap.size w1.heap.size acc _ HI5.out HB5.out.size).mono ?_
        rintro e W3 ⟨rfl, _, b3, _⟩
        go_wp2
        go_ret
        exact ⟨congrArg (fun l : List UInt8 => Ending.returned (Value.string ⟨l.toArray⟩)) HS.out.symm, below_step HB1.out (HB5.out.trans b3)⟩
      · have t40 : decide (40 < (n : Int)) = true := decide_eq_true (by omega)
        rw [if_neg h40] at HS
        go_wp2
        go_ret
        exact ⟨congrArg (fun l : List UInt8 => Ending.returned (Value.string ⟨l.toArray⟩)) HS.out.symm, below_step HB1.out HB5.out⟩
end Go.Proofs.YtgegclilhjhnmaaDoor.X
