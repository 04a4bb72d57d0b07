/- A text made a row of runes; a row of runes made a text. -/
import Derived.Test.YtgegclilhjhnmaaDoorSnakeMath
import Derived.Laws.Cover4
set_option linter.unusedVariables false
set_option linter.unusedSimpArgs false
namespace Go.Proofs.YtgegclilhjhnmaaDoor.X
open Go.RowKit Go.Shelf Go.Proofs.YtgegclilhjhnmaaDoorW.PrintWords Go.Proofs.YtgegclilhjhnmaaDoorW.PrintLast Go.Proofs.YtgegclilhjhnmaaDoorW.PrintMore
theorem infoRune : (Tryd.prog.info? 21).map (fun i => (i.zero, i.size, i.bytes)) = some (some (.int .i32 0), 1, 4) := by kernel_rfl
def ints (l : List Nat) : List Int := l.map fun r : Nat => (r : Int)
theorem ints_length (l : List Nat) : (ints l).length = l.length := List.length_map ..
theorem ints_append (l m : List Nat) : ints (l ++ m) = ints l ++ ints m := List.map_append
theorem ints_one (x : Nat) : ints [x] = [(x : Int)] := rfl
theorem ints_at {l : List Nat} {j : Nat} (h : j < l.length) : rd (ints l) (j : Int) = ((l[j]'h : Nat) : Int) := by simp [rd, ints, h]
set_option maxRecDepth 100000 in
theorem encode_N (r : Nat) : (Utf8.encode (r : Int)).data.toList = Lib.encodeRune (r : Int) := by
  have hz : ∀ l : List UInt8, (l.map (fun b : UInt8 => ((b.toNat : Nat) : Int))).map (fun x => x.toNat.toUInt8) = l := by
    intro l
    rw [List.map_map]
    conv => rhs; rw [← List.map_id l]
    apply List.map_congr_left
    intro b _
    simp
  have he : (Utf8.encode (r : Int)).data.toList.map (fun b : UInt8 => ((b.toNat : Nat) : Int)) = Lib.encodeRuneZ (r : Int) := by
    unfold Utf8.encode
    have hv : Utf8.valid (r : Int) = decide (r < 55296 ∨ (57344 ≤ r ∧ r ≤ 1114111)) := by
      rw [Bool.eq_iff_iff]; simp [Utf8.valid]; omega
    by_cases hb : (55296 ≤ r ∧ r ≤ 57343) ∨ 1114111 < r
    · rw [Lib.encodeRuneZ_bad (by omega), hv, decide_eq_false (by omega)]
      simp [Utf8.runeError]
    · rw [hv, decide_eq_true (by omega)]
      simp only [if_true, Int.toNat_natCast]
      by_cases c1 : r < 128
      · rw [if_pos c1, Lib.encodeRuneZ_one (by omega) (by omega)]; simp; omega
      · rw [if_neg c1]
        by_cases c2 : r < 2048
        · rw [if_pos c2, Lib.encodeRuneZ_two (by omega) (by omega)]; simp; omega
        · rw [if_neg c2]
          by_cases c3 : r < 65536
          · rw [if_pos c3, Lib.encodeRuneZ_three (by omega)]; simp; omega
          · rw [if_neg c3, Lib.encodeRuneZ_four (by omega) (by omega)]; simp; omega
  rw [← hz (Utf8.encode (r : Int)).data.toList, he]
  rfl
theorem runesBytes_enc : ∀ (l : List Nat) (s : ByteArray), (ints l).foldl (fun r n => r ++ Utf8.encode n) s = ⟨(s.data.toList ++ encAll l).toArray⟩
  | [], s => by simp [ints, encAll_nil]
  | x :: l, s => by
    show (ints l).foldl _ (s ++ Utf8.encode (x : Int)) = _
    rw [runesBytes_enc l, encAll_cons]
    have : (s ++ Utf8.encode (x : Int)).data.toList = s.data.toList ++ Lib.encodeRune (x : Int) := by
      rw [← encode_N, ByteArray.data_append, Array.toList_append]
    rw [this, List.append_assoc]
theorem runesBytes_of (l : List Nat) : runesBytes (ints l) = ⟨(encAll l).toArray⟩ := by
  unfold runesBytes
  rw [runesBytes_enc]
  rfl
/-- string(rs) of a row that reads as runes. -/
theorem conv_out {W : World} {A : Option Addr} {n c : Nat} {l : List Nat} (h : Kd.C (Kd.int .i32) W A n (ints l)) :
    (convert 28 9 (.slice A n c)).run Tryd.prog W = .ok (.string ⟨(encAll l).toArray⟩) W := by
  have hn := Kd.C_len h
  cases A with
  | none =>
    have h0 : n = 0 := by
      rcases Nat.eq_zero_or_pos n with h1 | h1
      · exact h1
      · obtain ⟨ad, ha, _⟩ := Kd.at_int h 0 (by omega) (by omega)
        cases ha
    rw [h0] at hn
    have hl : l = [] := List.eq_nil_of_length_eq_zero (by rw [ints_length] at hn; exact hn)
    rw [run_convert_runes_nil W _ _ 21 n c Tryd.underlying28 Tryd.underlying21 Tryd.underlying9, hl]
    rfl
  | some ad =>
    rw [run_convert_runes W _ _ 21 ad n c (ints l) (by omega) Tryd.underlying28 Tryd.underlying21 Tryd.underlying9 ?_]
    · rw [List.take_of_length_le (by omega), runesBytes_of]
    · intro j hj
      obtain ⟨ad', ha, hc⟩ := Kd.at_int h (j : Int) (by omega) (by omega)
      obtain rfl := Option.some.inj ha
      rw [Int.toNat_natCast] at hc
      rw [hc]
      rfl
/-- []rune(s): a new row. -/
theorem conv_in (w1 : World) (s : ByteArray) (hs : s.size ≤ 70368744177664) : ∃ cap W, (convert 9 28 (.string s)).run Tryd.prog w1 = .ok (.slice (some ⟨w1.heap.size, 0, none⟩) (runesOf s).length cap) W ∧ Kd.C (Kd.int .i32) W (some ⟨w1.heap.size, 0, none⟩) (runesOf s).length (ints (runesOf s)) ∧ (runesOf s).length ≤ cap ∧ Below w1.heap.size w1 W := by
  have hl := runesOf_le s
  have hc : Conv.runesFrom s s.size 0 #[] = ((ints (runesOf s)).map (Value.int .i32)).toArray := by
    rw [conv_from, ints, List.map_map]
    apply Array.ext'
    simp [runesOf]
  have hcv := run_runes_of_string (P := Tryd.prog) w1 9 28 21 s Tryd.underlying9 Tryd.underlying28 Tryd.underlying21 (by rw [hc]; simp [ints_length]; omega)
  rw [hc] at hcv
  have hsz : ((ints (runesOf s)).map (Value.int .i32)).toArray.size = (runesOf s).length := by simp [ints_length]
  rw [hsz] at hcv
  have hge := grownCap_ge w1 (runesOf s).length 0 21
  generalize grownCap w1 (runesOf s).length 0 21 = cap at hcv hge
  refine ⟨cap, _, hcv, ?_, hge, below_alloc (below_drew (Below.refl _ _)) _⟩
  have hlen := ints_length (runesOf s)
  generalize ints (runesOf s) = l at *
  rw [← hlen]
  rw [← hlen] at hl hge
  refine Kd.C_of_reads (enc := Value.int .i32) (d := 0) ⟨rfl, by omega, fun _ => ⟨⟨w1.heap.size, 0, none⟩, rfl, fun j hj => ?_⟩⟩
  have h3 : (Addr.add ⟨w1.heap.size, 0, none⟩ j) = ⟨w1.heap.size, j, none⟩ := by simp [Addr.add]; intro h; omega
  have h2 := blk_cell (heap_alloc_new w1.drew (.cells ((l.map (Value.int .i32)).toArray ++ Array.replicate (cap - l.length) (.int .i32 0)) 21)) j
  rw [h3]
  refine Eq.trans h2 ?_
  simp [Array.getElem?_append_left, hj, List.getD_eq_getElem?_getD]
end Go.Proofs.YtgegclilhjhnmaaDoor.X
