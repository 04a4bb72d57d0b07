/- The program's Quote: of any text its quoted form; texts of at most 2^40 bytes; utf8's two tables as they are laid. -/
import Derived.Test.YtgegclilhjhnmaaDoorQuoteMath
import Derived.Test.YtgegclilhjhnmaaDoorBuilder2
import Derived.StillTailTactics
import Derived.Laws.BytesString
import Derived.Laws.Runes
set_option linter.unusedVariables false
set_option linter.unusedSimpArgs false
namespace Go.Proofs.YtgegclilhjhnmaaDoor.X
open Go.RowKit Go.Shelf Go.Proofs.YtgegclilhjhnmaaDoorW.PrintWords Go.Proofs.YtgegclilhjhnmaaDoorW.PrintLast Go.Proofs.YtgegclilhjhnmaaDoorW.PrintMore
theorem enc_fits (x : Nat) : (9223372036854775807 < 1 + (Utf8.encode (x : Int)).size) = False := eq_false (by
  have := encode_size_le (x : Int)
  generalize (Utf8.encode (x : Int)).size = n at *
  omega)
theorem lit_size6 {c : UInt8} {b : ByteArray} (hb : b.size ≤ 4) : (⟨#[c]⟩ ++ b : ByteArray).size ≤ 6 := by
  rw [ByteArray.size_append]
  show 1 + b.size ≤ _
  generalize b.size = m at *
  omega
theorem lit_bound {n : Nat} {c : UInt8} {b : ByteArray} (h : n ≤ 8796093022208) (hb : b.size ≤ 4) : n + (⟨#[c]⟩ ++ b : ByteArray).size ≤ 140737488355328 := by
  rw [ByteArray.size_append]
  show n + (1 + b.size) ≤ _
  generalize b.size = m at *
  omega
theorem lf_bound {n : Nat} {c d : UInt8} (h : n ≤ 8796093022208) : n + (⟨#[c, d]⟩ : ByteArray).size ≤ 140737488355328 := by
  show n + 2 ≤ _
  omega
theorem hex_bound {n : Nat} {c d e f a b : UInt8} (h : n ≤ 8796093022208) : n + (⟨#[c, d, e, f]⟩ ++ ⟨#[a, b]⟩ : ByteArray).size ≤ 140737488355328 := by
  rw [ByteArray.size_append]
  show n + (4 + 2) ≤ _
  omega
theorem cells_str (l : List UInt8) (b : ByteArray) (h : b.data.toList = l) : Lib.byteCells l = Lib.strCells b := by rw [← h]; rfl
theorem cells_rune (x : Nat) : Lib.byteCells (Lib.encodeRune (x : Int)) = Lib.runeCells (x : Int) := Lib.byteCells_encodeRune _
theorem cells_lit (x : Nat) : Lib.byteCells (92 :: Lib.encodeRune (x : Int)) = Lib.strCells (⟨#[92]⟩ ++ Utf8.encode (x : Int)) := cells_str _ _ (by rw [ByteArray.data_append, Array.toList_append, encode_N]; rfl)
theorem cells_lf : Lib.byteCells [92, 110] = Lib.strCells ⟨#[92, 110]⟩ := rfl
theorem cells_hex (a b : UInt8) : Lib.byteCells [92, 117, 48, 48, a, b] = Lib.strCells (⟨#[92, 117, 48, 48]⟩ ++ ⟨#[a, b]⟩) := cells_str _ _ (by rw [ByteArray.data_append, Array.toList_append]; rfl)
/-- string([]byte{a, b}). -/
theorem conv_two (W : World) (a b : UInt8) : (convert 36 9 (.slice (some ⟨W.heap.size, 0, none⟩) 2 2)).run Tryd.prog (W.alloc (.cells #[.int .u8 (a.toNat : Int), .int .u8 (b.toNat : Int)] 5)) = .ok (.string ⟨#[a, b]⟩) (W.alloc (.cells #[.int .u8 (a.toNat : Int), .int .u8 (b.toNat : Int)] 5)) := by
  rw [run_convert_bytes_string _ _ _ 5 _ _ _ Tryd.underlying36 Tryd.underlying5 Tryd.underlying9]
  have h0 := blk_cell (heap_alloc_new W (.cells #[.int .u8 (a.toNat : Int), .int .u8 (b.toNat : Int)] 5)) 0
  have h1 := blk_cell (heap_alloc_new W (.cells #[.int .u8 (a.toNat : Int), .int .u8 (b.toNat : Int)] 5)) 1
  rw [run_bytesToString _ _ _ _ [(a.toNat : Int), (b.toNat : Int)] ?_]
  · simp [List.foldl]
    rfl
  · rw [run_loadCells _ _ 2 (fun j => .int .u8 (if j = 0 then (a.toNat : Int) else (b.toNat : Int))) ?_]
    · rfl
    · intro j hj
      rcases (show j = 0 ∨ j = 1 by omega) with rfl | rfl
      · exact h0
      · exact h1
set_option maxHeartbeats 4000000 in
set_option maxRecDepth 100000 in
theorem text_Quote.calls (s : ByteArray) (w : World) (hs : s.size ≤ 1099511627776) (hT : Lib.Utf8Tabs (Tryd.lays196_ren.g 3) (Tryd.lays196_ren.g 4) w) :
    Calls Tryd.prog 9 #[.string s] w fun e w' => e = .returned (.string ⟨(quoteV s).toArray⟩) ∧ Below w.heap.size w w' := by
  go_enter Tryd.func9, Tryd.ntmps9
  go_wp2_with fail
  refine (Tryd.utf8_ValidString s w (by omega) hT).mono ?_
  rintro e w1 ⟨rfl, hb1⟩
  clear hT
  by_cases hv : validV s = true
  rotate_left
  · have hv2 : Lib.validD s.data.toList = false := Bool.eq_false_iff.mpr hv
    rw [hv2]
    have HV : Aside0 (quoteV s = []) := ⟨by unfold quoteV; rw [if_neg hv]⟩
    go_wp2
    go_ret
    exact ⟨congrArg (fun l : List UInt8 => Ending.returned (Value.string ⟨l.toArray⟩)) HV.out.symm, hb1⟩
  have hv2 : Lib.validD s.data.toList = true := hv
  rw [hv2]
  have HVV := Aside0.mk hv
  have HB1 := Aside0.mk hb1
  clear hb1 hv hv2
  have hcb := conv_two
  have HCB := Aside0.mk hcb
  clear hcb
  go_wp2_with fail
  refine (Builder_WriteByte w1.heap.size w1.heap.size (Lib.byteCells []) 34 _ (Lib.IsBuilderF.of (Lib.fresh_isBuilder 38 5 w1)) (by decide) (by simp)).mono ?_
  rintro e W0 ⟨rfl, h1, b1, k1⟩
  have HI0 : Aside0 (Lib.IsBuilderF 38 5 w1.heap.size w1.heap.size (Lib.byteCells [34]) W0) := ⟨Or.inr h1⟩
  have HB0 : Aside0 (Below w1.heap.size w1 W0) := ⟨((Below.refl _ w1).alloc (Nat.le_refl _) _).trans b1⟩
  have hz0 : w1.heap.size + 1 ≤ W0.heap.size := by have := b1.size; simp at this; omega
  clear h1 b1 k1
  go_wp2_with fail
  obtain ⟨it, hit⟩ : ∃ it, it = W0.heap.size := ⟨_, rfl⟩
  rw [← hit] at hz0 ⊢
  have HIT := Aside0.mk hit
  clear hit
  go_loopw [] (fun wr => ∃ (pos fuel : Nat) (acc : List UInt8), Aside0 (Lib.IsBuilderF 38 5 w1.heap.size w1.heap.size (Lib.byteCells acc) wr) ∧ Aside0 (wr.heap[it]? = some (.stringIter s pos)) ∧ Aside0 (Below w1.heap.size w1 wr) ∧ Aside0 (acc ++ quoteGo (runesFrom s fuel pos) = 34 :: quoteGo (runesOf s)) ∧ s.size ≤ pos + fuel ∧ acc.length ≤ 6 * pos + 1) (fun wr => s.size - wr.iterPos it)
  case atStart =>
    refine ⟨0, s.size, [34], ⟨HI0.out.alloc _⟩, ⟨?_⟩, ⟨HB0.out.alloc HB0.out.size _⟩, ⟨rfl⟩, by omega, by simp⟩
    have := World.iter_heap W0 s 0
    rw [HIT.out]
    exact this
  case round =>
    obtain ⟨pos, fuel, acc, HI, HT, HB, HA, hfu, hal⟩ := hrel
    have hsz : it < wr.heap.size := (Array.getElem?_eq_some_iff.1 HT.out).1
    by_cases hp : pos < s.size
    · have hnx : ∀ ty, (Instr.next (.pointer (some ⟨it, 0, none⟩)) true ty).run Tryd.prog wr = _ := fun ty => Lib.run_next_any_at wr it s pos ty HT.out hp
      have hwd := width_pos s pos hp
      have hd1 := decode_le s pos
      have HI2 := Aside0.mk (HI.out.iterAt HT.out (pos + (Utf8.decode s pos).2))
      have HT2 := Aside0.mk (Lib.iterAt_heap wr it s pos (pos + (Utf8.decode s pos).2) HT.out)
      have HB2 := Aside0.mk (Lib.below_iterAt HB.out (k := it) (by omega) s (pos + (Utf8.decode s pos).2))
      have HZ2 : Aside0 (w1.heap.size ≤ (wr.iterAt it s (pos + (Utf8.decode s pos).2)).heap.size) := ⟨by rw [Lib.iterAt_size]; omega⟩
      obtain ⟨f, rfl⟩ : ∃ f, fuel = f + 1 := ⟨fuel - 1, by omega⟩
      have HR := Aside0.mk (runesFrom_next s f pos hp)
      have hfu2 : s.size ≤ pos + (Utf8.decode s pos).2 + f := by omega
      have hadv : pos < pos + (Utf8.decode s pos).2 := by omega
      have HM : Aside0 (wr.iterPos it = pos) := ⟨by simp only [World.iterPos, HT.out]⟩
      generalize (Utf8.decode s pos).1 = x at *
      generalize pos + (Utf8.decode s pos).2 = pos2 at *
      have HQL := Aside0.mk (quoteR_len x)
      have HAL : Aside0 ((Lib.byteCells acc).length ≤ 8796093022208) := ⟨by rw [Lib.byteCells_length]; omega⟩
      clear HI HT HIT
      by_cases h34 : x = 34 ∨ x = 92
      · have HQ : Aside0 (quoteR x = 92 :: Lib.encodeRune (x : Int)) := ⟨quote_lit h34⟩
        have kE1 := enc_fits x
        by_cases h3 : x = 34
        · have t34 : ((x : Int) == 34) = true := beq_iff_eq.mpr (by omega)
          clear h3 h34
          go_wp2_with fail
          obtain ⟨S, hS⟩ : ∃ S : ByteArray, S = ⟨#[92]⟩ ++ Utf8.encode (x : Int) := ⟨_, rfl⟩
          rw [← hS]
          have hSs : S.size ≤ 6 := by rw [hS]; exact lit_size6 (encode_size_le _)
          have HSC : Aside0 (Lib.byteCells (quoteR x) = Lib.strCells S) := ⟨by rw [HQ.out, hS]; exact cells_lit x⟩
          clear hS
          refine (Builder_WriteString w1.heap.size w1.heap.size _ S _ HI2.out (by have := HAL.out; omega) HZ2.out).mono ?_
          rintro e W1 ⟨rfl, h1, b1, k1⟩
          have HK := Aside0.mk (k1.iter HT2.out (by omega))
          have HI3 : Aside0 (Lib.IsBuilderF 38 5 w1.heap.size w1.heap.size (Lib.byteCells (acc ++ quoteR x)) W1) := ⟨by rw [Lib.byteCells_append, HSC.out]; exact Or.inr h1⟩
          have HB3 := Aside0.mk (HB2.out.trans b1)
          clear h1 b1 k1
          go_wp2_with fail
          go_roundw
          case rel => exact ⟨pos2, f, acc ++ quoteR x, HI3, HK, HB3, ⟨by rw [← HA.out, HR.out, quoteGo, List.append_assoc]⟩, hfu2, by rw [List.length_append]; have := HQL.out; omega⟩
          case measure =>
            have h1 : World.iterPos W1 it = pos2 := by simp only [World.iterPos, HK.out]
            rw [h1, HM.out]
            omega
        · have t34 : ((x : Int) == 34) = false := beq_eq_false_iff_ne.mpr (by omega)
          have t92 : ((x : Int) == 92) = true := beq_iff_eq.mpr (by omega)
          clear h3 h34
          go_wp2_with fail
          obtain ⟨S, hS⟩ : ∃ S : ByteArray, S = ⟨#[92]⟩ ++ Utf8.encode (x : Int) := ⟨_, rfl⟩
          rw [← hS]
          have hSs : S.size ≤ 6 := by rw [hS]; exact lit_size6 (encode_size_le _)
          have HSC : Aside0 (Lib.byteCells (quoteR x) = Lib.strCells S) := ⟨by rw [HQ.out, hS]; exact cells_lit x⟩
          clear hS
          refine (Builder_WriteString w1.heap.size w1.heap.size _ S _ HI2.out (by have := HAL.out; omega) HZ2.out).mono ?_
          rintro e W1 ⟨rfl, h1, b1, k1⟩
          have HK := Aside0.mk (k1.iter HT2.out (by omega))
          have HI3 : Aside0 (Lib.IsBuilderF 38 5 w1.heap.size w1.heap.size (Lib.byteCells (acc ++ quoteR x)) W1) := ⟨by rw [Lib.byteCells_append, HSC.out]; exact Or.inr h1⟩
          have HB3 := Aside0.mk (HB2.out.trans b1)
          clear h1 b1 k1
          go_wp2_with fail
          go_roundw
          case rel => exact ⟨pos2, f, acc ++ quoteR x, HI3, HK, HB3, ⟨by rw [← HA.out, HR.out, quoteGo, List.append_assoc]⟩, hfu2, by rw [List.length_append]; have := HQL.out; omega⟩
          case measure =>
            have h1 : World.iterPos W1 it = pos2 := by simp only [World.iterPos, HK.out]
            rw [h1, HM.out]
            omega
      · have t34 : ((x : Int) == 34) = false := beq_eq_false_iff_ne.mpr (by omega)
        have t92 : ((x : Int) == 92) = false := beq_eq_false_iff_ne.mpr (by omega)
        by_cases h10 : x = 10
        · have HQ : Aside0 (quoteR x = [92, 110]) := ⟨quote_lf h10⟩
          have t10 : ((x : Int) == 10) = true := beq_iff_eq.mpr (by omega)
          clear h10 h34
          go_wp2_with fail
          refine (Builder_WriteString w1.heap.size w1.heap.size _ ⟨#[92, 110]⟩ _ HI2.out (lf_bound HAL.out) HZ2.out).mono ?_
          rintro e W1 ⟨rfl, h1, b1, k1⟩
          have HK := Aside0.mk (k1.iter HT2.out (by omega))
          have HI3 : Aside0 (Lib.IsBuilderF 38 5 w1.heap.size w1.heap.size (Lib.byteCells (acc ++ quoteR x)) W1) := ⟨by rw [Lib.byteCells_append, HQ.out, cells_lf]; exact Or.inr h1⟩
          have HB3 := Aside0.mk (HB2.out.trans b1)
          clear h1 b1 k1
          go_wp2_with fail
          go_roundw
          case rel => exact ⟨pos2, f, acc ++ quoteR x, HI3, HK, HB3, ⟨by rw [← HA.out, HR.out, quoteGo, List.append_assoc]⟩, hfu2, by rw [List.length_append]; have := HQL.out; omega⟩
          case measure =>
            have h1 : World.iterPos W1 it = pos2 := by simp only [World.iterPos, HK.out]
            rw [h1, HM.out]
            omega
        · have t10 : ((x : Int) == 10) = false := beq_eq_false_iff_ne.mpr (by omega)
          by_cases h32 : x < 32 ∨ x = 127
          · have HQ : Aside0 (quoteR x = [92, 117, 48, 48, hexd (x / 16), hexd (x % 16)]) := ⟨quote_hex h10 h32⟩
            have hb : Go.bits .and .i32 (x : Int) 15 = ((x % 16 : Nat) : Int) := and15 (by omega)
            have hr16 : x % 16 < 16 := by omega
            have hx128 : x < 128 := by omega
            have hq16 : x / 16 < 16 := by omega
            have hq0 : 0 ≤ (x : Int) / 16 := by omega
            have hq1 : (x : Int) / 16 < 16 := by omega
            have hqn : ((x : Int) / 16).toNat = x / 16 := by omega
            have hh1 := hexd_idx hq16
            have hh2 := hexd_idx hr16
            have hr0 : (0 : Int) ≤ ((x % 16 : Nat) : Int) := by omega
            have hr1 : ((x % 16 : Nat) : Int) < 16 := by omega
            generalize x % 16 = r at *
            by_cases h3 : x < 32
            · have t32 : decide ((x : Int) < 32) = true := decide_eq_true (by omega)
              clear h32
              go_wp2_with fail
              go_still_tail 6, (by kernel_rfl)
              change wpList _ _ _ _ _ (wr.iterAt it s pos2).drew
              obtain ⟨Wd, hWd⟩ : ∃ Wd, Wd = (wr.iterAt it s pos2).drew := ⟨_, rfl⟩
              rw [← hWd]
              have HID : Aside0 (Lib.IsBuilderF 38 5 w1.heap.size w1.heap.size (Lib.byteCells acc) Wd) := ⟨by rw [hWd]; exact builder_below HI2.out (below_drew (Below.refl _ _))⟩
              have HBD : Aside0 (Below w1.heap.size w1 Wd) := ⟨by rw [hWd]; exact below_drew HB2.out⟩
              have HTD : Aside0 (Wd.heap[it]? = some (.stringIter s pos2)) := ⟨by rw [hWd]; exact HT2.out⟩
              have HZD : Aside0 (w1.heap.size ≤ Wd.heap.size ∧ it < Wd.heap.size) := ⟨HBD.out.size, (Array.getElem?_eq_some_iff.1 HTD.out).1⟩
              clear hWd HI2 HB2 HT2 HZ2
              have hcb := HCB.out Wd (hexd (x / 16)) (hexd r)
              go_wp2_with fail
              obtain ⟨S, hS⟩ : ∃ S : ByteArray, S = ⟨#[92, 117, 48, 48]⟩ ++ ⟨#[hexd (x / 16), hexd r]⟩ := ⟨_, rfl⟩
              rw [← hS]
              have hSs : S.size ≤ 6 := by rw [hS, ByteArray.size_append]; exact Nat.le_refl _
              have HSC : Aside0 (Lib.byteCells (quoteR x) = Lib.strCells S) := ⟨by rw [HQ.out, hS]; exact cells_hex _ _⟩
              clear hS hcb
              refine (Builder_WriteString w1.heap.size w1.heap.size _ S _ (HID.out.alloc _) (by have := HAL.out; omega) (by have := HZD.out.1; simp; omega)).mono ?_
              have HB2 : Aside0 (Below w1.heap.size w1 (Wd.alloc (.cells #[.int .u8 ((hexd (x / 16)).toNat : Int), .int .u8 ((hexd r).toNat : Int)] 5))) := ⟨HBD.out.alloc HZD.out.1 _⟩
              have HT2 : Aside0 ((Wd.alloc (.cells #[.int .u8 ((hexd (x / 16)).toNat : Int), .int .u8 ((hexd r).toNat : Int)] 5)).heap[it]? = some (.stringIter s pos2)) := ⟨(Lib.alloc_old Wd _ it HZD.out.2).trans HTD.out⟩
              rintro e W1 ⟨rfl, h1, b1, k1⟩
              have HK := Aside0.mk (k1.iter HT2.out (by omega))
              have HI3 : Aside0 (Lib.IsBuilderF 38 5 w1.heap.size w1.heap.size (Lib.byteCells (acc ++ quoteR x)) W1) := ⟨by rw [Lib.byteCells_append, HSC.out]; exact Or.inr h1⟩
              have HB3 := Aside0.mk (HB2.out.trans b1)
              clear h1 b1 k1
              go_wp2_with fail
              go_roundw
              case rel => exact ⟨pos2, f, acc ++ quoteR x, HI3, HK, HB3, ⟨by rw [← HA.out, HR.out, quoteGo, List.append_assoc]⟩, hfu2, by rw [List.length_append]; have := HQL.out; omega⟩
              case measure =>
                have h1 : World.iterPos W1 it = pos2 := by simp only [World.iterPos, HK.out]
                rw [h1, HM.out]
                omega
            · have t32 : decide ((x : Int) < 32) = false := decide_eq_false (by omega)
              have t127 : ((x : Int) == 127) = true := beq_iff_eq.mpr (by omega)
              clear h32
              go_wp2_with fail
              go_still_tail 6, (by kernel_rfl)
              change wpList _ _ _ _ _ (wr.iterAt it s pos2).drew
              obtain ⟨Wd, hWd⟩ : ∃ Wd, Wd = (wr.iterAt it s pos2).drew := ⟨_, rfl⟩
              rw [← hWd]
              have HID : Aside0 (Lib.IsBuilderF 38 5 w1.heap.size w1.heap.size (Lib.byteCells acc) Wd) := ⟨by rw [hWd]; exact builder_below HI2.out (below_drew (Below.refl _ _))⟩
              have HBD : Aside0 (Below w1.heap.size w1 Wd) := ⟨by rw [hWd]; exact below_drew HB2.out⟩
              have HTD : Aside0 (Wd.heap[it]? = some (.stringIter s pos2)) := ⟨by rw [hWd]; exact HT2.out⟩
              have HZD : Aside0 (w1.heap.size ≤ Wd.heap.size ∧ it < Wd.heap.size) := ⟨HBD.out.size, (Array.getElem?_eq_some_iff.1 HTD.out).1⟩
              clear hWd HI2 HB2 HT2 HZ2
              have hcb := HCB.out Wd (hexd (x / 16)) (hexd r)
              go_wp2_with fail
              obtain ⟨S, hS⟩ : ∃ S : ByteArray, S = ⟨#[92, 117, 48, 48]⟩ ++ ⟨#[hexd (x / 16), hexd r]⟩ := ⟨_, rfl⟩
              rw [← hS]
              have hSs : S.size ≤ 6 := by rw [hS, ByteArray.size_append]; exact Nat.le_refl _
              have HSC : Aside0 (Lib.byteCells (quoteR x) = Lib.strCells S) := ⟨by rw [HQ.out, hS]; exact cells_hex _ _⟩
              clear hS hcb
              refine (Builder_WriteString w1.heap.size w1.heap.size _ S _ (HID.out.alloc _) (by have := HAL.out; omega) (by have := HZD.out.1; simp; omega)).mono ?_
              have HB2 : Aside0 (Below w1.heap.size w1 (Wd.alloc (.cells #[.int .u8 ((hexd (x / 16)).toNat : Int), .int .u8 ((hexd r).toNat : Int)] 5))) := ⟨HBD.out.alloc HZD.out.1 _⟩
              have HT2 : Aside0 ((Wd.alloc (.cells #[.int .u8 ((hexd (x / 16)).toNat : Int), .int .u8 ((hexd r).toNat : Int)] 5)).heap[it]? = some (.stringIter s pos2)) := ⟨(Lib.alloc_old Wd _ it HZD.out.2).trans HTD.out⟩
              rintro e W1 ⟨rfl, h1, b1, k1⟩
              have HK := Aside0.mk (k1.iter HT2.out (by omega))
              have HI3 : Aside0 (Lib.IsBuilderF 38 5 w1.heap.size w1.heap.size (Lib.byteCells (acc ++ quoteR x)) W1) := ⟨by rw [Lib.byteCells_append, HSC.out]; exact Or.inr h1⟩
              have HB3 := Aside0.mk (HB2.out.trans b1)
              clear h1 b1 k1
              go_wp2_with fail
              go_roundw
              case rel => exact ⟨pos2, f, acc ++ quoteR x, HI3, HK, HB3, ⟨by rw [← HA.out, HR.out, quoteGo, List.append_assoc]⟩, hfu2, by rw [List.length_append]; have := HQL.out; omega⟩
              case measure =>
                have h1 : World.iterPos W1 it = pos2 := by simp only [World.iterPos, HK.out]
                rw [h1, HM.out]
                omega
          · have HQ : Aside0 (quoteR x = Lib.encodeRune (x : Int)) := ⟨quote_any h34 h10 h32⟩
            have t32 : decide ((x : Int) < 32) = false := decide_eq_false (by omega)
            have t127 : ((x : Int) == 127) = false := beq_eq_false_iff_ne.mpr (by omega)
            clear h32 h10 h34
            go_wp2_with fail
            refine (Builder_WriteRune w1.heap.size w1.heap.size _ (x : Int) (by omega) (by omega) _ HI2.out (by have := HAL.out; omega) HZ2.out).mono ?_
            rintro e W1 ⟨rfl, h1, b1, k1⟩
            have HK := Aside0.mk (k1.iter HT2.out (by omega))
            have HI3 : Aside0 (Lib.IsBuilderF 38 5 w1.heap.size w1.heap.size (Lib.byteCells (acc ++ quoteR x)) W1) := ⟨by rw [Lib.byteCells_append, HQ.out, cells_rune]; exact Or.inr h1⟩
            have HB3 := Aside0.mk (HB2.out.trans b1)
            clear h1 b1 k1
            go_wp2_with fail
            go_roundw
            case rel => exact ⟨pos2, f, acc ++ quoteR x, HI3, HK, HB3, ⟨by rw [← HA.out, HR.out, quoteGo, List.append_assoc]⟩, hfu2, by rw [List.length_append]; have := HQL.out; omega⟩
            case measure =>
              have h1 : World.iterPos W1 it = pos2 := by simp only [World.iterPos, HK.out]
              rw [h1, HM.out]
              omega
    · have hnx : ∀ ty, (Instr.next (.pointer (some ⟨it, 0, none⟩)) true ty).run Tryd.prog wr = _ := fun ty => Lib.run_next_end_at wr it s pos ty HT.out hp
      have HV : Aside0 (acc ++ [34] = quoteV s) := ⟨by
        have h1 := HA.out
        rw [runesFrom_end s fuel pos hp, quoteGo, List.append_nil] at h1
        unfold quoteV
        rw [if_pos HVV.out, h1]
        rfl⟩
      have HAL : Aside0 (acc.length ≤ 6 * s.size + 1) := ⟨by
        have h1 := congrArg List.length HA.out
        have h2 := quoteGo_len (runesOf s)
        have h3 := runesOf_le s
        rw [runesFrom_end s fuel pos hp, quoteGo, List.append_nil, List.length_cons] at h1
        omega⟩
      go_wp2_with fail
      refine (Builder_WriteByte w1.heap.size w1.heap.size _ 34 _ HI.out (by rw [Lib.byteCells_length]; have := HAL.out; omega) (by omega)).mono ?_
      rintro e W1 ⟨rfl, h1, b1, k1⟩
      have HI3 : Aside0 (Lib.IsBuilderF 38 5 w1.heap.size w1.heap.size (Lib.byteCells (acc ++ [34])) W1) := ⟨by rw [Lib.byteCells_append]; exact Or.inr h1⟩
      have HB3 := Aside0.mk (HB.out.trans b1)
      clear h1 b1 k1
      go_wp2_with fail
      refine (Tryd.Builder_String_any_k w1.heap.size w1.heap.size (acc ++ [34]) _ HI3.out HB3.out.size).mono ?_
      rintro e W2 ⟨rfl, _, b2, _⟩
      go_wp2
      go_ret
      exact ⟨congrArg (fun l : List UInt8 => Ending.returned (Value.string ⟨l.toArray⟩)) HV.out, below_step HB1.out (HB3.out.trans b2)⟩
end Go.Proofs.YtgegclilhjhnmaaDoor.X
