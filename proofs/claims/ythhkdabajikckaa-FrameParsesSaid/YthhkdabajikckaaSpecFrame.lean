/- What the frames' writers come to in the program and in the reference: whether a frame is formed, and its bytes; for payloads of at most 2^40 bytes. -/
import Derived.Test.YthhkdabajikckaaX2
import Derived.Test.YthhkdabajikckaaX7
import Derived.Test.YthhkdabajikckaaX5
import Derived.Test.YthhkdabajikckaaX11
import Derived.Test.YthhkdabajikckaaX3
import Derived.Test.YthhkdabajikckaaX8
import Derived.Test.YthhkdabajikckaaX6
import Derived.Test.YthhkdabajikckaaX10
import Derived.Test.YthhkdabajikckaaX4
import Derived.Test.YthhkdabajikckaaSpecWrite
import Derived.Test.YthhkdabajikckaaSpecCrc
set_option linter.unusedVariables false
namespace Go.Proofs.Ythhkdabajikckaa.X
open Go.RowKit Go.Proofs.YthhkdabajikckaaW.PrintWords Go.Proofs.YthhkdabajikckaaW.PrintLast Go.Proofs.YthhkdabajikckaaW.PrintMore Go.Proofs.Ythhkdabajikckaa.Math

/-- A frame is formed. -/
def FormedP (a0 a1 a2 a3 a4 a5 a6 a7 n : Int) : Prop := 1 ≤ a0 ∧ a0 ≤ 3 ∧ 1 ≤ a1 ∧ a1 ≤ 2147483647 ∧ 1 ≤ a4 ∧ a4 ≤ a2 ∧ 0 ≤ a3 ∧ a3 ≤ 5 ∧ 0 ≤ a5 ∧ a5 ≤ 2147483647 ∧ 0 ≤ a6 ∧ a6 ≤ 1099511627776 ∧ 0 ≤ a7 ∧ a7 ≤ 255 ∧ n ≤ 4096 ∧ (a0 = 3 → n = 0) ∧ (a0 ≠ 2 → a7 = 0)
instance (a0 a1 a2 a3 a4 a5 a6 a7 n : Int) : Decidable (FormedP a0 a1 a2 a3 a4 a5 a6 a7 n) := by unfold FormedP; infer_instance
theorem is_no {p : Prop} [Decidable p] (h : ¬ p) : some false = some (decide p) := by rw [decide_eq_false h]
theorem is_yes {p : Prop} [Decidable p] (h : p) : some true = some (decide p) := by rw [decide_eq_true h]
section
variable {a0 a1 a2 a3 a4 a5 a6 a7 : Int} {l : List Int}
theorem frame_formed (h2 : 0 ≤ a2) (h4 : 0 ≤ a4) : ∀ k, 6 ≤ k → frame_Formed.f k a0 a1 a2 a3 a4 a5 a6 a7 l = some (decide (FormedP a0 a1 a2 a3 a4 a5 a6 a7 (l.length : Int))) := by
  intro k hk
  obtain ⟨k, rfl⟩ : ∃ m, k = m + 1 + 1 + 1 + 1 + 1 + 1 := ⟨k - 6, by omega⟩
  have hl : (0 : Int) ≤ (l.length : Int) := by omega
  generalize hL : (l.length : Int) = n at hl
  unfold frame_Formed.f
  simp only [frame_Formed.j0, frame_Formed.j1, frame_Formed.j2, frame_Formed.j3, frame_Formed.j4, frame_Formed.j5, frame_number.f, hL, if_true, Bool.false_eq_true, if_false]
  by_cases c1 : a0 < 1
  · rw [if_pos c1]; exact is_no (by unfold FormedP; omega)
  rw [if_neg c1]
  by_cases c2 : a0 > 3
  · rw [decide_eq_true c2, if_pos rfl]; exact is_no (by unfold FormedP; omega)
  rw [decide_eq_false c2, if_neg (by decide)]
  by_cases c3 : a1 ≥ 0
  rotate_left
  · rw [if_neg c3, bsome, if_neg (by decide)]; exact is_no (by unfold FormedP; omega)
  rw [if_pos c3, bsome]
  by_cases c4 : a1 ≤ 2147483647
  rotate_left
  · rw [decide_eq_false c4, if_neg (by decide)]; exact is_no (by unfold FormedP; omega)
  rw [decide_eq_true c4, if_pos rfl]
  by_cases c5 : a1 = 0
  · rw [if_pos c5]; exact is_no (by unfold FormedP; omega)
  rw [if_neg c5]
  by_cases c6 : a5 ≥ 0
  rotate_left
  · rw [if_neg c6, bsome, if_pos (by decide)]; exact is_no (by unfold FormedP; omega)
  rw [if_pos c6, bsome]
  by_cases c7 : a5 ≤ 2147483647
  rotate_left
  · rw [decide_eq_false c7, if_pos (by decide)]; exact is_no (by unfold FormedP; omega)
  rw [decide_eq_true c7, if_neg (by decide)]
  by_cases c8 : a4 = 0
  · rw [if_pos c8]; exact is_no (by unfold FormedP; omega)
  rw [if_neg c8]
  by_cases c9 : a4 > a2
  · rw [decide_eq_true c9, if_pos rfl]; exact is_no (by unfold FormedP; omega)
  rw [decide_eq_false c9, if_neg (by decide)]
  by_cases d1 : a3 < 0
  · rw [if_pos d1]; exact is_no (by unfold FormedP; omega)
  rw [if_neg d1]
  by_cases d2 : a3 ≥ 6
  · rw [decide_eq_true d2, if_pos rfl]; exact is_no (by unfold FormedP; omega)
  rw [decide_eq_false d2, if_neg (by decide)]
  by_cases d3 : a6 < 0
  · rw [if_pos d3]; exact is_no (by unfold FormedP; omega)
  rw [if_neg d3]
  by_cases d4 : a6 > 1099511627776
  · rw [decide_eq_true d4, if_pos rfl]; exact is_no (by unfold FormedP; omega)
  rw [decide_eq_false d4, if_neg (by decide)]
  by_cases d5 : a7 < 0
  · rw [if_pos d5]; exact is_no (by unfold FormedP; omega)
  rw [if_neg d5]
  by_cases d6 : a7 > 255
  · rw [if_pos d6]; exact is_no (by unfold FormedP; omega)
  rw [if_neg d6]
  have tail : ¬ (a7 > 0 ∧ a0 ≠ 2) → (if n > 4096 then some false else if n > 0 then if a0 = 3 then some false else some true else some true) = some (decide (FormedP a0 a1 a2 a3 a4 a5 a6 a7 n)) := by
    intro e
    by_cases f1 : n > 4096
    · rw [if_pos f1]; exact is_no (by unfold FormedP; omega)
    rw [if_neg f1]
    by_cases f2 : n > 0
    · rw [if_pos f2]
      by_cases f3 : a0 = 3
      · rw [if_pos f3]; exact is_no (by unfold FormedP; omega)
      · rw [if_neg f3]; exact is_yes (by unfold FormedP; omega)
    · rw [if_neg f2]; exact is_yes (by unfold FormedP; omega)
  by_cases d7 : a7 > 0
  · rw [if_pos d7]
    by_cases d8 : a0 = 2
    · rw [show (a0 != 2) = false from bne_eq_false_iff_eq.mpr d8, if_neg (by decide)]; exact tail (by omega)
    · rw [show (a0 != 2) = true from bne_iff_ne.mpr d8, if_pos rfl]; exact is_no (by unfold FormedP; omega)
  · rw [if_neg d7]; exact tail (by omega)
theorem ref_formed (h2 : 0 ≤ a2) (h4 : 0 ≤ a4) : ∀ k, 1 ≤ k → courierref15_Formed.f k a0 a1 a2 a3 a4 a5 a6 a7 l = some (decide (FormedP a0 a1 a2 a3 a4 a5 a6 a7 (l.length : Int))) := by
  intro k hk
  obtain ⟨k, rfl⟩ : ∃ m, k = m + 1 := ⟨k - 1, by omega⟩
  have hl : (0 : Int) ≤ (l.length : Int) := by omega
  generalize hL : (l.length : Int) = n at hl
  unfold courierref15_Formed.f
  simp only [courierref15_Formed.j0, hL, if_true]
  by_cases c1 : a0 < 1
  · rw [if_pos c1]; exact is_no (by unfold FormedP; omega)
  rw [if_neg c1]
  by_cases c2 : a0 > 3
  · rw [if_pos c2]; exact is_no (by unfold FormedP; omega)
  rw [if_neg c2]
  by_cases c3 : a1 < 1
  · rw [if_pos c3]; exact is_no (by unfold FormedP; omega)
  rw [if_neg c3]
  by_cases c4 : a1 > 2147483647
  · rw [if_pos c4]; exact is_no (by unfold FormedP; omega)
  rw [if_neg c4]
  by_cases c5 : a2 < 1
  · rw [if_pos c5]; exact is_no (by unfold FormedP; omega)
  rw [if_neg c5]
  by_cases c6 : a3 < 0
  · rw [if_pos c6]; exact is_no (by unfold FormedP; omega)
  rw [if_neg c6]
  by_cases c7 : a3 > 5
  · rw [if_pos c7]; exact is_no (by unfold FormedP; omega)
  rw [if_neg c7]
  by_cases c8 : a4 < 1
  · rw [if_pos c8]; exact is_no (by unfold FormedP; omega)
  rw [if_neg c8]
  by_cases c9 : a4 > a2
  · rw [decide_eq_true c9, if_pos rfl]; exact is_no (by unfold FormedP; omega)
  rw [decide_eq_false c9, if_neg (by decide)]
  by_cases d1 : a5 < 0
  · rw [if_pos d1]; exact is_no (by unfold FormedP; omega)
  rw [if_neg d1]
  by_cases d2 : a5 > 2147483647
  · rw [if_pos d2]; exact is_no (by unfold FormedP; omega)
  rw [if_neg d2]
  by_cases d3 : a6 < 0
  · rw [if_pos d3]; exact is_no (by unfold FormedP; omega)
  rw [if_neg d3]
  by_cases d4 : a6 > 1099511627776
  · rw [if_pos d4]; exact is_no (by unfold FormedP; omega)
  rw [if_neg d4]
  by_cases d5 : a7 < 0
  · rw [if_pos d5]; exact is_no (by unfold FormedP; omega)
  rw [if_neg d5]
  by_cases d6 : a7 > 255
  · rw [if_pos d6]; exact is_no (by unfold FormedP; omega)
  rw [if_neg d6]
  by_cases d7 : n > 4096
  · rw [if_pos d7]; exact is_no (by unfold FormedP; omega)
  rw [if_neg d7]
  by_cases d8 : a0 = 2
  · rw [if_pos d8, if_neg (show ¬ a0 = 3 by omega)]; exact is_yes (by unfold FormedP; omega)
  rw [if_neg d8]
  have tail : (a0 = 3 → n = 0) → some (a7 == 0) = some (decide (FormedP a0 a1 a2 a3 a4 a5 a6 a7 n)) := by
    intro e
    by_cases f1 : a7 = 0
    · rw [show (a7 == 0) = true from beq_iff_eq.mpr f1]; exact is_yes (by unfold FormedP; omega)
    · rw [show (a7 == 0) = false from beq_eq_false_iff_ne.mpr f1]; exact is_no (by unfold FormedP; omega)
  by_cases d9 : a0 = 3
  · rw [if_pos d9]
    by_cases e1 : n = 0
    · rw [if_pos e1]; exact tail (by omega)
    · rw [if_neg e1]; exact is_no (by unfold FormedP; omega)
  · rw [if_neg d9]; exact tail (by omega)
end

/-- Varints, one behind the other. -/
def encs : List Nat → List Int
  | [] => []
  | n :: ns => encV n ++ encs ns
theorem encs_bytes (ns : List Nat) : Bytes (encs ns) := by
  induction ns with
  | nil => exact Bytes.nil
  | cons n ns ih => exact (encV_bytes n).append ih
theorem encs_len {ns : List Nat} (h : ∀ n ∈ ns, n < 18446744073709551616) : (encs ns).length ≤ 10 * ns.length := by
  induction ns with
  | nil => simp [encs]
  | cons n ns ih =>
    have h1 := encV_len10 (h n List.mem_cons_self)
    have h2 := ih (fun m hm => h m (List.mem_cons_of_mem _ hm))
    simp only [encs, List.length_append, List.length_cons]
    omega
theorem encs_pos (ns : List Nat) : ns.length ≤ (encs ns).length := by
  induction ns with
  | nil => simp [encs]
  | cons n ns ih =>
    have h1 := encV_pos n
    simp only [encs, List.length_append, List.length_cons]
    omega
def sumB (t : Nat) : List Int := [((t / 16777216 % 256 : Nat) : Int), ((t / 65536 % 256 : Nat) : Int), ((t / 256 % 256 : Nat) : Int), ((t % 256 : Nat) : Int)]
theorem sumB_bytes (t : Nat) : Bytes (sumB t) := Bytes.cons (by omega) (by omega) (Bytes.cons (by omega) (by omega) (Bytes.cons (by omega) (by omega) (Bytes.cons (by omega) (by omega) Bytes.nil)))
theorem sumB_inj {s t : Nat} (hs : s < 4294967296) (ht : t < 4294967296) (h : sumB s = sumB t) : s = t := by
  simp only [sumB, List.cons.injEq, and_true] at h
  omega
def signed (b : List Int) : List Int := b ++ sumB (crcUpd 0 b)
theorem signed_bytes {b : List Int} (h : Bytes b) : Bytes (signed b) := h.append (sumB_bytes _)
theorem sumB_of (t : Nat) : [((t : Int) / 16777216) % 256, ((t : Int) / 65536) % 256, ((t : Int) / 256) % 256, (t : Int) % 256] = sumB t := by
  simp only [sumB, List.cons.injEq, and_true]
  omega
theorem varint_append_ok {n : Nat} (hn : n < 18446744073709551616) {l : List Int} (hl : l.length < 1125899906842) {k : Nat} (hk : 11 ≤ k) : varint_Append.f k l (n : Int) = some (l ++ encV n) := by
  have h1 := encV_len10 hn
  have hp := encV_pos n
  unfold varint_Append.f
  rw [wrap64_id (by omega) (by omega), if_pos (by omega), if_pos (by omega)]
  simp only [List.replicate_zero, bsome, List.nil_append, List.length_nil, Nat.zero_add]
  rw [if_pos (by omega)]
  exact varint_append_l0 n l (by omega) k (by omega)
theorem ref_varint_ok {n : Nat} (hn : n < 18446744073709551616) {l : List Int} (hl : l.length < 1125899906842) {k : Nat} (hk : 11 ≤ k) : courierref01_Varint.f k l (n : Int) = some (l ++ encV n) := by
  have h1 := encV_len10 hn
  exact ref_varint_l0 n l (by omega) k (by omega)
theorem rd_nums {ns : List Nat} {i : Nat} (h : i < ns.length) : rd (ns.map Int.ofNat) (i : Int) = ((ns[i]'h : Nat) : Int) := by
  rw [rd_nat, List.getD_eq_getElem?_getD, List.getElem?_map, List.getElem?_eq_getElem h]
  rfl
section
variable {a0 a1 a2 a3 a4 a5 a6 a7 : Int} {l : List Int}
theorem frame_build_l0 (ns : List Nat) (hns : ∀ n ∈ ns, n < 18446744073709551616) (hln : ns.length < 1000) (hb : Bytes l) (hl : l.length < 1099511627776) : ∀ (d i : Nat) (x : List Int), ns.length - i = d → i ≤ ns.length → Bytes x → x.length ≤ 1 + 10 * i → ∀ k, 11 + d + 1 ≤ k →
    frame_Build.l0 k x (ns.map Int.ofNat) (ns.length : Int) (i : Int) a0 a1 a2 a3 a4 a5 a6 a7 l = some (signed (x ++ encs (ns.drop i) ++ l), 0) := by
  intro d
  induction d with
  | zero =>
    intro i x hd hi hx hxl k hk
    obtain ⟨k, rfl⟩ : ∃ m, k = m + 1 := ⟨k - 1, by omega⟩
    simp only [frame_Build.l0]
    rw [if_neg (by omega), if_pos (by omega), bsome, crc_sum (hx.append hb), bsome, bsome, sumB_of, if_pos (by rw [List.length_append]; simp only [sumB, List.length_cons, List.length_nil]; omega), List.drop_eq_nil_of_le (by omega)]
    simp only [encs, List.append_nil]
    rfl
  | succ d ih =>
    intro i x hd hi hx hxl k hk
    obtain ⟨k, rfl⟩ : ∃ m, k = m + 1 := ⟨k - 1, by omega⟩
    have hlt : i < ns.length := by omega
    have hn := hns _ (List.getElem_mem hlt)
    have hn10 := encV_len10 hn
    simp only [frame_Build.l0]
    rw [if_pos (by omega), if_pos (by omega), if_pos (by rw [List.length_map]; omega), rd_nums hlt, varint_append_ok hn (by omega) (by omega), bsome, wrap64_id (by omega) (by omega), show (i : Int) + 1 = ((i + 1 : Nat) : Int) by omega, ih (i + 1) _ (by omega) (by omega) (hx.append (encV_bytes _)) (by rw [List.length_append]; omega) k (by omega), List.drop_eq_getElem_cons hlt]
    simp only [encs, List.append_assoc]
theorem ref_build_l0 (ns : List Nat) (hns : ∀ n ∈ ns, n < 18446744073709551616) (hln : ns.length < 1000) (hb : Bytes l) (hl : l.length < 1099511627776) : ∀ (d i : Nat) (x : List Int), ns.length - i = d → i ≤ ns.length → Bytes x → x.length ≤ 1 + 10 * i → ∀ k, 10 * (l.length + 1 + 10 * ns.length) + 11 + d + 1 ≤ k →
    courierref15_Build.l0 k x (ns.map Int.ofNat) (ns.length : Int) (i : Int) a0 a1 a2 a3 a4 a5 a6 a7 l = some (signed (x ++ encs (ns.drop i) ++ l), 0) := by
  intro d
  induction d with
  | zero =>
    intro i x hd hi hx hxl k hk
    obtain ⟨k, rfl⟩ : ∃ m, k = m + 1 := ⟨k - 1, by omega⟩
    have hsum : courierref15_Sum.f k (x ++ l) = some ((crcUpd 0 (x ++ l) : Nat) : Int) := by
      unfold courierref15_Sum.f courierref15_Update.f
      rw [show (0 : Int) = ((0 : Nat) : Int) from rfl, inv_u32 (by decide)]
      have h0 := ref_update_l0 (x ++ l) (hx.append hb) (by rw [List.length_append]; omega) (x ++ l).length 0 (inv32 0) (by omega) (by omega) (inv32_lt (by omega)) k (by rw [List.length_append]; omega)
      rw [show ((0 : Nat) : Int) = (0 : Int) from rfl] at h0 ⊢
      rw [h0, bsome]
      rfl
    simp only [courierref15_Build.l0]
    rw [if_neg (by omega), if_pos (by omega), bsome, hsum, bsome, bsome, sumB_of, if_pos (by rw [List.length_append]; simp only [sumB, List.length_cons, List.length_nil]; omega), List.drop_eq_nil_of_le (by omega)]
    simp only [encs, List.append_nil]
    rfl
  | succ d ih =>
    intro i x hd hi hx hxl k hk
    obtain ⟨k, rfl⟩ : ∃ m, k = m + 1 := ⟨k - 1, by omega⟩
    have hlt : i < ns.length := by omega
    have hn := hns _ (List.getElem_mem hlt)
    have hn10 := encV_len10 hn
    simp only [courierref15_Build.l0]
    rw [if_pos (by omega), if_pos (by omega), if_pos (by rw [List.length_map]; omega), rd_nums hlt, ref_varint_ok hn (by omega) (by omega), bsome, wrap64_id (by omega) (by omega), show (i : Int) + 1 = ((i + 1 : Nat) : Int) by omega, ih (i + 1) _ (by omega) (by omega) (hx.append (encV_bytes _)) (by rw [List.length_append]; omega) k (by omega), List.drop_eq_getElem_cons hlt]
    simp only [encs, List.append_assoc]
end
/-- A formed frame's numbers. -/
def numsF (a0 a1 a2 a3 a4 a5 a6 a7 : Int) (n : Nat) : List Nat := [a0.toNat, a1.toNat, a2.toNat, a3.toNat, a4.toNat, a5.toNat, a6.toNat, a7.toNat, n]
/-- A formed frame's bytes. -/
def frameV (a0 a1 a2 a3 a4 a5 a6 a7 : Int) (l : List Int) : List Int := signed (199 :: encs (numsF a0 a1 a2 a3 a4 a5 a6 a7 l.length) ++ l)
section
variable {a0 a1 a2 a3 a4 a5 a6 a7 : Int} {l : List Int}
theorem numsF_lt (h2 : a2 < 18446744073709551616) {n : Nat} (hf : FormedP a0 a1 a2 a3 a4 a5 a6 a7 (n : Int)) : ∀ m ∈ numsF a0 a1 a2 a3 a4 a5 a6 a7 n, m < 18446744073709551616 := by
  unfold FormedP at hf
  intro m hm
  simp only [numsF, List.mem_cons, List.not_mem_nil, or_false] at hm
  rcases hm with rfl | rfl | rfl | rfl | rfl | rfl | rfl | rfl | rfl <;> omega
theorem numsF_wrap (h2 : a2 < 18446744073709551616) {n : Nat} (hf : FormedP a0 a1 a2 a3 a4 a5 a6 a7 (n : Int)) :
    [IntKind.u64.wrap a0, IntKind.u64.wrap a1, a2, IntKind.u64.wrap a3, a4, IntKind.u64.wrap a5, IntKind.u64.wrap a6, IntKind.u64.wrap a7, IntKind.u64.wrap (n : Int)] = (numsF a0 a1 a2 a3 a4 a5 a6 a7 n).map Int.ofNat := by
  unfold FormedP at hf
  rw [u64_id (n := a0) (by omega) (by omega), u64_id (n := a1) (by omega) (by omega), u64_id (n := a3) (by omega) (by omega), u64_id (n := a5) (by omega) (by omega), u64_id (n := a6) (by omega) (by omega), u64_id (n := a7) (by omega) (by omega), u64_id (n := (n : Int)) (by omega) (by omega)]
  simp only [numsF, List.map_cons, List.map_nil, List.cons.injEq, Int.ofNat_eq_natCast, and_true]
  omega
theorem frame_build_yes (hb : Bytes l) (h2 : a2 < 18446744073709551616) (hf : FormedP a0 a1 a2 a3 a4 a5 a6 a7 (l.length : Int)) : ∀ k, 22 ≤ k → frame_Build.f k a0 a1 a2 a3 a4 a5 a6 a7 l = some (frameV a0 a1 a2 a3 a4 a5 a6 a7 l, 0) := by
  intro k hk
  have hf' := hf
  unfold FormedP at hf'
  unfold frame_Build.f
  rw [frame_formed (by omega) (by omega) k (by omega), bsome, decide_eq_true hf, if_pos rfl, bsome, numsF_wrap h2 hf]
  have hlen : ((numsF a0 a1 a2 a3 a4 a5 a6 a7 l.length).map Int.ofNat).length = (numsF a0 a1 a2 a3 a4 a5 a6 a7 l.length).length := List.length_map ..
  rw [hlen]
  have := frame_build_l0 (a0 := a0) (a1 := a1) (a2 := a2) (a3 := a3) (a4 := a4) (a5 := a5) (a6 := a6) (a7 := a7) (numsF a0 a1 a2 a3 a4 a5 a6 a7 l.length) (numsF_lt h2 hf) (by simp [numsF]) hb (by omega) 9 0 [199] rfl (by omega) (Bytes.cons (by omega) (by omega) Bytes.nil) (by simp) k (by omega)
  exact this
theorem ref_build_yes (hb : Bytes l) (h2 : a2 < 18446744073709551616) (hf : FormedP a0 a1 a2 a3 a4 a5 a6 a7 (l.length : Int)) : ∀ k, 42000 ≤ k → courierref15_Build.f k a0 a1 a2 a3 a4 a5 a6 a7 l = some (frameV a0 a1 a2 a3 a4 a5 a6 a7 l, 0) := by
  intro k hk
  have hf' := hf
  unfold FormedP at hf'
  unfold courierref15_Build.f
  rw [ref_formed (by omega) (by omega) k (by omega), bsome, decide_eq_true hf, if_pos rfl, bsome, numsF_wrap h2 hf]
  have hlen : ((numsF a0 a1 a2 a3 a4 a5 a6 a7 l.length).map Int.ofNat).length = (numsF a0 a1 a2 a3 a4 a5 a6 a7 l.length).length := List.length_map ..
  rw [hlen]
  have := ref_build_l0 (a0 := a0) (a1 := a1) (a2 := a2) (a3 := a3) (a4 := a4) (a5 := a5) (a6 := a6) (a7 := a7) (numsF a0 a1 a2 a3 a4 a5 a6 a7 l.length) (numsF_lt h2 hf) (by simp [numsF]) hb (by omega) 9 0 [199] rfl (by omega) (Bytes.cons (by omega) (by omega) Bytes.nil) (by simp) k (by simp only [numsF, List.length_cons, List.length_nil]; omega)
  exact this
theorem frame_build_no (h2 : 0 ≤ a2) (h4 : 0 ≤ a4) (hf : ¬ FormedP a0 a1 a2 a3 a4 a5 a6 a7 (l.length : Int)) : ∀ k, 6 ≤ k → frame_Build.f k a0 a1 a2 a3 a4 a5 a6 a7 l = some ([], 1) := by
  intro k hk
  unfold frame_Build.f
  rw [frame_formed h2 h4 k hk, bsome, decide_eq_false hf, if_neg (by decide)]
theorem ref_build_no (h2 : 0 ≤ a2) (h4 : 0 ≤ a4) (hf : ¬ FormedP a0 a1 a2 a3 a4 a5 a6 a7 (l.length : Int)) : ∀ k, 1 ≤ k → courierref15_Build.f k a0 a1 a2 a3 a4 a5 a6 a7 l = some ([], 1) := by
  intro k hk
  unfold courierref15_Build.f
  rw [ref_formed h2 h4 k hk, bsome, decide_eq_false hf, if_neg (by decide)]
end
theorem frame_awake : ∀ k, 22 ≤ k → courierlaw15_awake.f k = some true := by
  intro k hk
  unfold courierlaw15_awake.f
  rw [frame_build_yes (a0 := 3) (a1 := 1) (a2 := 1) (a3 := 0) (a4 := 1) (a5 := 1) (a6 := 0) (a7 := 0) Bytes.nil (by decide) (by decide) k hk, bsome]
  have e : frameV 3 1 1 0 1 1 0 0 [] = signed [199, 3, 1, 1, 0, 1, 1, 0, 0, 0] := by
    unfold frameV
    simp [numsF, encs, encV_small]
  rw [e]
  rfl
end Go.Proofs.Ythhkdabajikckaa.X
