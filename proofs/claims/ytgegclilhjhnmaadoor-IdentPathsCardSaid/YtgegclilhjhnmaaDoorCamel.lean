/- A name's great form: what ident.Camel answers of any text; texts of at most 2^45 bytes. -/
import Derived.Test.YtgegclilhjhnmaaDoorIdent
set_option linter.unusedVariables false
set_option linter.unusedSimpArgs false
namespace Go.Proofs.YtgegclilhjhnmaaDoor.X
open Go.RowKit Go.Shelf Go.Proofs.YtgegclilhjhnmaaDoorW.PrintWords Go.Proofs.YtgegclilhjhnmaaDoorW.PrintLast Go.Proofs.YtgegclilhjhnmaaDoorW.PrintMore
/-- What the loop of Camel writes. -/
def camelGo : Bool → List Nat → List UInt8
  | _, [] => []
  | g, x :: l => if x = 95 then camelGo true l else Lib.encodeRune (if g = true ∧ 97 ≤ x ∧ x ≤ 122 then (x : Int) - 32 else (x : Int)) ++ camelGo false l
def camelV (s : ByteArray) : List UInt8 := if nameV (runesOf s) = true then camelGo true (runesOf s) else []
set_option maxHeartbeats 4000000 in
set_option maxRecDepth 100000 in
theorem ident_Camel.calls (s : ByteArray) (w : World) (hs : s.size ≤ 35184372088832) :
    Calls Tryd.prog 19 #[.string s] w fun e w' => e = .returned (.string ⟨(camelV s).toArray⟩) ∧ Below w.heap.size w w' := by
  go_enter Tryd.func19, Tryd.ntmps19
  go_wp2_with fail
  refine (ident_Name.calls s _ (by omega)).mono ?_
  rintro e w1 ⟨rfl, hb1⟩
  by_cases hnm : nameV (runesOf s) = true
  rotate_left
  · have HV : Aside0 (camelV s = []) := ⟨by unfold camelV; rw [if_neg hnm]⟩
    rw [Bool.eq_false_iff.mpr hnm]
    go_wp2
    go_ret
    exact ⟨by rw [HV.out]; rfl, hb1⟩
  have HC : Aside0 (camelGo true (runesOf s) = camelV s) := ⟨by unfold camelV; rw [if_pos hnm]⟩
  rw [hnm]
  have hz1 := hb1.size
  have HB1 := Aside0.mk hb1
  clear hb1 hnm
  go_wp2
  go_loopw [4] (fun v4 wr => ∃ (pos fuel : Nat) (acc : List UInt8) (g : Bool), v4 = .bool g ∧ Aside0 (Lib.IsBuilderF 38 5 w1.heap.size w1.heap.size (Lib.byteCells acc) wr) ∧ Aside0 (wr.heap[w1.heap.size + 1]? = some (.stringIter s pos)) ∧ Aside0 (Below w1.heap.size w1 wr) ∧ Aside0 (acc ++ camelGo g (runesFrom s fuel pos) = camelV s) ∧ s.size ≤ pos + fuel ∧ acc.length ≤ 4 * pos) (fun _ wr => s.size - wr.iterPos (w1.heap.size + 1))
  case atStart =>
    refine ⟨0, s.size, [], true, rfl, ⟨(Lib.IsBuilderF.of (Lib.fresh_isBuilder 38 5 w1)).alloc _⟩, ⟨?_⟩, ⟨((Below.refl _ w1).alloc (Nat.le_refl _) _).alloc (by simp) _⟩, ⟨by rw [List.nil_append]; exact HC.out⟩, by omega, by simp⟩
    have := World.iter_heap (w1.alloc (.cells #[.pointer none, .slice none 0 0] 38)) s 0
    simpa using this
  case round =>
    obtain ⟨pos, fuel, acc, g, rfl, HI, HT, HB, HA, hfu, hal⟩ := hrel
    have hsz : w1.heap.size + 1 < wr.heap.size := (Array.getElem?_eq_some_iff.1 HT.out).1
    by_cases hp : pos < s.size
    · have hnx : ∀ ty, (Instr.next (.pointer (some ⟨w1.heap.size + 1, 0, none⟩)) true ty).run Tryd.prog wr = _ := fun ty => Lib.run_next_any_at wr (w1.heap.size + 1) s pos ty HT.out hp
      have hwd := width_pos s pos hp
      have hd1 := decode_le s pos
      have HI2 := Aside0.mk (HI.out.iterAt HT.out (pos + (Utf8.decode s pos).2))
      have HT2 := Aside0.mk (Lib.iterAt_heap wr (w1.heap.size + 1) s pos (pos + (Utf8.decode s pos).2) HT.out)
      have HB2 := Aside0.mk (Lib.below_iterAt HB.out (k := w1.heap.size + 1) (by omega) s (pos + (Utf8.decode s pos).2))
      have HZ2 : Aside0 (w1.heap.size ≤ (wr.iterAt (w1.heap.size + 1) s (pos + (Utf8.decode s pos).2)).heap.size) := ⟨by rw [Lib.iterAt_size]; omega⟩
      obtain ⟨f, rfl⟩ : ∃ f, fuel = f + 1 := ⟨fuel - 1, by omega⟩
      have HR := Aside0.mk (runesFrom_next s f pos hp)
      have hfu2 : s.size ≤ pos + (Utf8.decode s pos).2 + f := by omega
      have hadv : pos < pos + (Utf8.decode s pos).2 := by omega
      have HM : Aside0 (wr.iterPos (w1.heap.size + 1) = pos) := ⟨by simp only [World.iterPos, HT.out]⟩
      generalize (Utf8.decode s pos).1 = x at *
      generalize pos + (Utf8.decode s pos).2 = pos2 at *
      clear HI HT
      by_cases hx : x = 95
      · have t95 : ((x : Int) == 95) = true := beq_iff_eq.mpr (by omega)
        go_wp2_with fail
        go_roundw
        case rel => exact ⟨pos2, f, acc, true, rfl, HI2, HT2, HB2, ⟨by rw [← HA.out, HR.out, camelGo, if_pos hx]⟩, hfu2, by omega⟩
        case measure =>
          have h1 : World.iterPos (wr.iterAt (w1.heap.size + 1) s pos2) (w1.heap.size + 1) = pos2 := by simp only [World.iterPos, HT2.out]
          rw [h1, HM.out]
          omega
      · have t95 : ((x : Int) == 95) = false := beq_eq_false_iff_ne.mpr (by omega)
        cases g with
        | false =>
          go_wp2_with fail
          refine (Builder_WriteRune w1.heap.size w1.heap.size _ (x : Int) (by omega) (by omega) _ HI2.out (by rw [Lib.byteCells_length]; omega) HZ2.out).mono ?_
          rintro e W1 ⟨rfl, h1, b1, k1⟩
          have HK := Aside0.mk (k1.iter HT2.out (by omega))
          have HI3 := Aside0.mk h1
          have HB3 := Aside0.mk (HB2.out.trans b1)
          clear h1 b1 k1
          go_wp2_with fail
          go_roundw
          case rel =>
            have hl4 := Lib.runeCells_le ((x : Int))
            rw [Lib.runeCells_length] at hl4
            refine ⟨pos2, f, acc ++ Lib.encodeRune ((x : Int)), false, rfl, ⟨?_⟩, HK, HB3, ⟨?_⟩, hfu2, by simp; omega⟩
            · rw [Lib.byteCells_append, Lib.byteCells_encodeRune]; exact Or.inr HI3.out
            · rw [← HA.out, HR.out, camelGo, if_neg hx, if_neg (by simp), List.append_assoc]
          case measure =>
            have h1 : World.iterPos W1 (w1.heap.size + 1) = pos2 := by simp only [World.iterPos, HK.out]
            rw [h1, HM.out]
            omega
        | true =>
          by_cases h97 : 97 ≤ x
          · have t97 : decide (97 ≤ (x : Int)) = true := decide_eq_true (by omega)
            by_cases h122 : x ≤ 122
            · have t122 : decide ((x : Int) ≤ 122) = true := decide_eq_true (by omega)
              have hw1 : IntKind.i32.wrap ((x : Int) - 32) = (x : Int) - 32 := by rw [IntKind.wrap_i32]; omega
              have hw2 : wrap32 ((x : Int) - 32) = (x : Int) - 32 := by unfold wrap32; omega
              go_wp2_with fail
              refine (Builder_WriteRune w1.heap.size w1.heap.size _ ((x : Int) - 32) (by omega) (by omega) _ HI2.out (by rw [Lib.byteCells_length]; omega) HZ2.out).mono ?_
              rintro e W1 ⟨rfl, h1, b1, k1⟩
              have HK := Aside0.mk (k1.iter HT2.out (by omega))
              have HI3 := Aside0.mk h1
              have HB3 := Aside0.mk (HB2.out.trans b1)
              clear h1 b1 k1
              go_wp2_with fail
              go_roundw
              case rel =>
                have hl4 := Lib.runeCells_le (((x : Int) - 32))
                rw [Lib.runeCells_length] at hl4
                refine ⟨pos2, f, acc ++ Lib.encodeRune (((x : Int) - 32)), false, rfl, ⟨?_⟩, HK, HB3, ⟨?_⟩, hfu2, by simp; omega⟩
                · rw [Lib.byteCells_append, Lib.byteCells_encodeRune]; exact Or.inr HI3.out
                · rw [← HA.out, HR.out, camelGo, if_neg hx, if_pos ⟨rfl, h97, h122⟩, List.append_assoc]
              case measure =>
                have h1 : World.iterPos W1 (w1.heap.size + 1) = pos2 := by simp only [World.iterPos, HK.out]
                rw [h1, HM.out]
                omega
            · have t122 : decide ((x : Int) ≤ 122) = false := decide_eq_false (by omega)
              go_wp2_with fail
              refine (Builder_WriteRune w1.heap.size w1.heap.size _ (x : Int) (by omega) (by omega) _ HI2.out (by rw [Lib.byteCells_length]; omega) HZ2.out).mono ?_
              rintro e W1 ⟨rfl, h1, b1, k1⟩
              have HK := Aside0.mk (k1.iter HT2.out (by omega))
              have HI3 := Aside0.mk h1
              have HB3 := Aside0.mk (HB2.out.trans b1)
              clear h1 b1 k1
              go_wp2_with fail
              go_roundw
              case rel =>
                have hl4 := Lib.runeCells_le ((x : Int))
                rw [Lib.runeCells_length] at hl4
                refine ⟨pos2, f, acc ++ Lib.encodeRune ((x : Int)), false, rfl, ⟨?_⟩, HK, HB3, ⟨?_⟩, hfu2, by simp; omega⟩
                · rw [Lib.byteCells_append, Lib.byteCells_encodeRune]; exact Or.inr HI3.out
                · rw [← HA.out, HR.out, camelGo, if_neg hx, if_neg (fun h => h122 h.2.2), List.append_assoc]
              case measure =>
                have h1 : World.iterPos W1 (w1.heap.size + 1) = pos2 := by simp only [World.iterPos, HK.out]
                rw [h1, HM.out]
                omega
          · have t97 : decide (97 ≤ (x : Int)) = false := decide_eq_false (by omega)
            go_wp2_with fail
            refine (Builder_WriteRune w1.heap.size w1.heap.size _ (x : Int) (by omega) (by omega) _ HI2.out (by rw [Lib.byteCells_length]; omega) HZ2.out).mono ?_
            rintro e W1 ⟨rfl, h1, b1, k1⟩
            have HK := Aside0.mk (k1.iter HT2.out (by omega))
            have HI3 := Aside0.mk h1
            have HB3 := Aside0.mk (HB2.out.trans b1)
            clear h1 b1 k1
            go_wp2_with fail
            go_roundw
            case rel =>
              have hl4 := Lib.runeCells_le ((x : Int))
              rw [Lib.runeCells_length] at hl4
              refine ⟨pos2, f, acc ++ Lib.encodeRune ((x : Int)), false, rfl, ⟨?_⟩, HK, HB3, ⟨?_⟩, hfu2, by simp; omega⟩
              · rw [Lib.byteCells_append, Lib.byteCells_encodeRune]; exact Or.inr HI3.out
              · rw [← HA.out, HR.out, camelGo, if_neg hx, if_neg (fun h => h97 h.2.1), List.append_assoc]
            case measure =>
              have h1 : World.iterPos W1 (w1.heap.size + 1) = pos2 := by simp only [World.iterPos, HK.out]
              rw [h1, HM.out]
              omega
    · have hnx : ∀ ty, (Instr.next (.pointer (some ⟨w1.heap.size + 1, 0, none⟩)) true ty).run Tryd.prog wr = _ := fun ty => Lib.run_next_end_at wr (w1.heap.size + 1) s pos ty HT.out hp
      have HV : Aside0 (acc = camelV s) := ⟨by rw [← HA.out, runesFrom_end s fuel pos hp, camelGo, List.append_nil]⟩
      go_wp2_with fail
      refine (Tryd.Builder_String_any_k w1.heap.size w1.heap.size acc _ HI.out (by omega)).mono ?_
      rintro e W1 ⟨rfl, _, b1, _⟩
      go_wp2
      go_ret
      exact ⟨congrArg (fun l : List UInt8 => Ending.returned (Value.string ⟨l.toArray⟩)) HV.out, below_step HB1.out (HB.out.trans b1)⟩
end Go.Proofs.YtgegclilhjhnmaaDoor.X
