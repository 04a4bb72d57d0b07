/- Plain functions for Go's own, out of the translation's print, and a proof that each call comes to what they tell; no condition but the functions' own answers. -/
import Derived.Test.YtnmdgbfkeghboaaX0
import Derived.Test.YtnmdgbfkeghboaaX2
import Derived.Test.YtnmdgbfkeghboaaX3
namespace Go.Proofs.Ytnmdgbfkeghboaa.X
open Go.RowKit Go.Proofs.YtnmdgbfkeghboaaW.PrintWords Go.Proofs.YtnmdgbfkeghboaaW.PrintLast Go.Proofs.YtnmdgbfkeghboaaW.PrintMore
attribute [local go_sem] max2_int min2_int max_two min_two max_three min_three max_four min_four Go.Proofs.Ytnmdgbfkeghboaa.MyWords.put_isSome Go.Proofs.Ytnmdgbfkeghboaa.MyWords.drewN_put   -- for this text's walks alone
set_option linter.unusedVariables false
set_option linter.unusedSimpArgs false

/-! ### courierlaw01_VarintKeeps: function 4 -/
section
open Go.Proofs.Ytnmdgbfkeghboaa.Math
def courierlaw01_VarintKeeps.f (k : Nat) (l0 : List Int) (a1 : Int) : Option Bool :=
  (varint_Append.f k l0 a1).bind fun x => (varint_Append32.f l0 1).bind fun y => (varint_Append64.f l0 2).bind fun z => if 0 < x.length ∧ y.length = l0.length + 4 ∧ z.length = l0.length + 8 ∧ l0.length < 140737488355328 then some true else none
theorem courierlaw01_VarintKeeps.mono : ∀ a0 a1 k, LeO (courierlaw01_VarintKeeps.f k a0 a1) (courierlaw01_VarintKeeps.f (k + 1) a0 a1) := by
  intro a0 a1 k
  exact LeO.bind (varint_Append.mono _ _ _) (fun x => LeO.refl _)
section
variable {P : Program} {ops : Array Oper} {rest : List Oper} {o : Oper} {a : Act} {Q : Exit → Act → World → Prop}
theorem keeps_made (q : Nat) : madeCells (Value.int .u8 0).cells (q * 1) = (List.replicate q (Value.int .u8 0)).toArray := by
  have hz : (Value.int .u8 0).cells = #[Value.int .u8 0] := by kernel_rfl
  rw [hz]
  unfold madeCells
  apply Array.ext
  · simp
  · intro i h1 h2
    simp [Nat.mod_one]
theorem keeps_make {W : World} {e : Nat} (hgd : o.guard = none) {N : Tmp} (_hd : o.dst = some N) (t : TypeId) (x y : Operand) (ho : o.op = .makeSlice t x y) (n c : Nat) (hx : a.eval x = .int .i64 n) (hy : a.eval y = .int .i64 c) (ht : P.underlying t = some (.slice e))
    (hinfo : (P.info? e).map (fun i => (i.zero, i.size, i.bytes)) = some (some (.int .u8 0), 1, 1)) (hnc : n ≤ c) (hl : c ≤ 281474976710656)
    (h : ∀ w1, w1 = W.alloc (.cells (List.replicate c (Value.int .u8 0)).toArray e) → wpList P ops Q rest (a.put o.dst (.slice (some ⟨W.heap.size, 0, none⟩) n c)) w1) : wpList P ops Q (o :: rest) a W := by
  obtain ⟨i0, hi, hzz⟩ := Option.map_eq_some_iff.1 hinfo
  simp only [Prod.mk.injEq] at hzz
  obtain ⟨hz0, hz1, hz2⟩ := hzz
  have hr := run_make (P := P) W t e i0 _ ht hi hz0 .i64 .i64 (n : Int) (c : Int) (by omega) (by omega) (by rw [hz2]; omega) (by omega)
  simp only [Int.toNat_natCast] at hr
  rw [hz1, keeps_made] at hr
  exact Kd.event_run hgd (by simp [execOp, ho, hx, hy, hr]) (h _ rfl)
theorem keeps_copy {W w0 : World} {e : Nat} (hgd : o.guard = none) (d s : Operand) (t t' : TypeId) (ho : o.op = .call { callee := .builtin .copy, args := #[d, s], argTypes := #[t, t'] }) (ht : P.underlying t = some (.slice e))
    (hinfo : (P.info? e).map (·.size) = some 1) (g : Nat) (A : Option Addr) (l : List Int) (q c : Nat) (m : Nat) (hq : q = l.length + m) (hd : a.eval d = .slice (some ⟨g, 0, none⟩) l.length q) (hs : a.eval s = .slice A l.length c)
    (hg : W.heap[g]? = some (.cells (List.replicate q (Value.int .u8 0)).toArray e (0, 0))) (HR : (Kd.int .u8).C W A l.length l) (HB : Below w0.heap.size w0 W) (hbase : w0.heap.size ≤ g)
    (h : ∀ w1, w1.heap[g]? = some (.cells (l.map (Value.int .u8) ++ List.replicate m (Value.int .u8 0)).toArray e (0, 0)) → Below w0.heap.size w0 w1 → wpList P ops Q rest (a.put o.dst (goInt l.length)) w1) : wpList P ops Q (o :: rest) a W := by
  have hR := Kd.reads_of_C (enc := Value.int .u8) (d := 0) HR
  have hk : (l.map (Value.int .u8)).length = l.length := List.length_map ..
  refine wpList_copy_splice hgd d s t t' ho e ht hinfo _ A l.length q l.length c hd hs g 0 (List.replicate q (Value.int .u8 0)) e hg (l.map (Value.int .u8)) (by rw [hk]; simp) ?_ (by rw [hk, List.length_replicate]; omega) ?_ w0.heap.size w0 HB hbase ?_
  · intro hp
    rw [hk] at hp
    obtain ⟨ad, hA, hc⟩ := hR.2.2 hp
    refine ⟨rfl, ad, hA, fun j v hv => ?_⟩
    have hj : j < l.length := by
      rcases Nat.lt_or_ge j l.length with h | h
      · exact h
      · rw [List.getElem?_eq_none (by rw [hk]; exact h)] at hv; cases hv
    rw [hc j hj, ← hv]
    exact (encs_get (enc := Value.int .u8) (d := 0) l j hj).symm
  · intro v hv
    obtain ⟨q, _, rfl⟩ := List.mem_map.mp hv
    rfl
  · intro w1 hw hb
    rw [hk]
    refine h w1 ?_ hb
    have h2 : w1.heap[g]? = some (.cells (splice (List.replicate q (Value.int .u8 0)) 0 (l.map (Value.int .u8))).toArray e (0, 0)) := hw.out
    have h3 : splice (List.replicate q (Value.int .u8 0)) 0 (l.map (Value.int .u8)) = l.map (Value.int .u8) ++ List.replicate m (Value.int .u8 0) := by
      unfold splice
      rw [List.take_zero, List.nil_append, hk, List.drop_replicate, hq]
      congr 2
      omega
    rw [h3] at h2
    exact h2
end
theorem keeps_C {W : World} {g : Nat} {l : List Int} {m : Nat} (hl : l.length < 140737488355328) (h : W.heap[g]? = some (.cells (l.map (Value.int .u8) ++ List.replicate m (Value.int .u8 0)).toArray 5 (0, 0))) : (Kd.int .u8).C W (some ⟨g, 0, none⟩) l.length l := by
  refine Kd.C_of_reads (enc := Value.int .u8) (d := 0) ⟨rfl, by omega, fun _ => ⟨⟨g, 0, none⟩, rfl, fun j hj => ?_⟩⟩
  have h2 := blk_cell h j
  have h3 : (Addr.add ⟨g, 0, none⟩ j) = ⟨g, j, none⟩ := by simp [Addr.add]; intro h; omega
  rw [h3, h2]
  simp [List.getElem?_append_left, hj, List.getD_eq_getElem?_getD]
theorem keeps_zero {W : World} {g : Nat} {l : List Int} {m : Nat} (h : W.heap[g]? = some (.cells (l.map (Value.int .u8) ++ List.replicate m (Value.int .u8 0)).toArray 5 (0, 0))) (i : Nat) (h1 : l.length ≤ i) (h2 : i < l.length + m) : W.cell? ⟨g, i, none⟩ = some (.int .u8 0) := by
  rw [blk_cell h i]
  have h3 : i - l.length < m := by omega
  simp [List.getElem?_append_right, h1, h3]
set_option maxHeartbeats 4000000 in
set_option maxRecDepth 100000 in
theorem courierlaw01_VarintKeeps.calls (k : Nat) (A0 : Option Addr) (c0 : Nat) (l0 : List Int) (a1 : Int) (r : Bool) (w : World) (hr0 : Kd.C (Kd.int .u8) w A0 l0.length l0) (hc0 : l0.length ≤ c0) (h : courierlaw01_VarintKeeps.f k l0 a1 = some r) :
    Calls Try.prog 4 #[.slice A0 l0.length c0, .int .u64 a1] w fun e w' => e = .returned (.bool r) ∧ Below w.heap.size w w' := by
  unfold courierlaw01_VarintKeeps.f at h
  obtain ⟨x, hx, h⟩ := Option.bind_eq_some_iff.mp h
  obtain ⟨y, hy, h⟩ := Option.bind_eq_some_iff.mp h
  obtain ⟨z, hz, h⟩ := Option.bind_eq_some_iff.mp h
  by_cases hc : 0 < x.length ∧ y.length = l0.length + 4 ∧ z.length = l0.length + 8 ∧ l0.length < 140737488355328
  rotate_left
  · rw [if_neg hc] at h; cases h
  rw [if_pos hc] at h
  obtain rfl := Option.some.inj h
  obtain ⟨hx0, hy0, hz0, hlen⟩ := hc
  clear h
  obtain ⟨q, hq⟩ : ∃ q : Nat, q = l0.length + 20 := ⟨_, rfl⟩
  have hww : IntKind.i64.wrap ((l0.length : Int) + 20) = (q : Int) := by simp only [IntKind.wrap, IntKind.bits, IntKind.signed]; simp; omega
  have HR := Aside0.mk hr0
  have HC := Aside0.mk hc0
  have HX := Aside0.mk hx
  have HY := Aside0.mk hy
  have HZ := Aside0.mk hz
  have HX0 := Aside0.mk hx0
  have HY0 := Aside0.mk hy0
  have HZ0 := Aside0.mk hz0
  have HL := Aside0.mk hlen
  have HQ := Aside0.mk hq
  clear hr0 hc0 hx hy hz hx0 hy0 hz0 hlen hq
  go_enter Try.func4, Try.ntmps4
  go_wp2_with (first | ((with_reducible refine gate_dst (N := 16) rfl ?_); refine keeps_make rfl (N := 16) rfl 26 _ _ rfl l0.length q rfl rfl Try.underlying26 info5 (by have := HQ.out; omega) (by have := HQ.out; have := HL.out; omega) ?_; intro w1 hw1; have HB1 := Aside0.mk (show Below w.heap.size w w1 by rw [hw1]; exact below_alloc (Below.refl _ _) _); have HG1 := Aside0.mk (show w1.heap[w.heap.size]? = some (.cells (List.replicate q (Value.int .u8 0)).toArray 5 (0, 0)) by rw [hw1]; exact heap_alloc_new w _); clear hw1) | ((with_reducible refine gate_builtin (b := .copy) (xs := #[.tmp 17, .tmp 18]) rfl ?_); refine keeps_copy (w0 := w) rfl (.tmp 17) (.tmp 18) _ _ rfl Try.underlying26 (by obtain ⟨i0, hi0, _, hsz, _⟩ := info_parts info5; rw [hi0, Option.map_some, hsz]) w.heap.size A0 l0 q c0 20 HQ.out rfl rfl HG1.out (Kd.C_below HR.out HB1.out) HB1.out (Nat.le_refl _) ?_; intro w2 hg2 hb2; have HB2 := Aside0.mk hb2; have HG2 := Aside0.mk hg2; clear hg2 hb2))
  clear HG1 HB1
  refine (varint_Append.calls k (some ⟨w.heap.size, 0, none⟩) q l0 a1 x w2 (keeps_C HL.out HG2.out) (by have := HQ.out; omega) HX.out).mono ?_
  rintro e w3 ⟨v6, rfl, ho, hb⟩
  obtain ⟨g6, cap6, rfl, hg6, _, cells, hcs⟩ := Kd.R_form ho HX0.out
  have hcl := (Kd.R_cell (0 : Int) ho (0 : Int) (by omega) (by have := HX0.out; omega)).1
  rw [Int.toNat_zero] at hcl
  rw [blk_cell hcs 0] at hcl
  have HG3 := Aside0.mk (blk_below HG2.out hb)
  have HB3 := Aside0.mk (below_step HB2.out hb)
  have HK6 := Aside0.mk hg6
  have HV6 := Aside0.mk hcl
  have HS2 := Aside0.mk (blk_lt HG2.out)
  have HS3 := Aside0.mk hcs
  clear HG2 HB2 hb ho hg6 hcl hcs HX
  go_wp2_with fail
  refine (varint_Append32.calls (some ⟨w.heap.size, 0, none⟩) q l0 1 y w3 (keeps_C HL.out HG3.out) (by have := HQ.out; omega) HY.out).mono ?_
  rintro e w4 ⟨v7, rfl, ho, hb⟩
  obtain ⟨A7, c7, rfl⟩ := Kd.R_slice ho
  have HG4 := Aside0.mk (blk_below HG3.out hb)
  have HB4 := Aside0.mk (below_step HB3.out hb)
  have HS4 := Aside0.mk (blk_below HS3.out hb)
  clear HG3 HB3 HS3 hb ho HY
  go_wp2_with fail
  refine (varint_Append64.calls (some ⟨w.heap.size, 0, none⟩) q l0 2 z w4 (keeps_C HL.out HG4.out) (by have := HQ.out; omega) HZ.out).mono ?_
  rintro e w5 ⟨v8, rfl, ho, hb⟩
  obtain ⟨A8, c8, rfl⟩ := Kd.R_slice ho
  have HG5 := Aside0.mk (blk_below HG4.out hb)
  have HB5 := Aside0.mk (below_step HB4.out hb)
  have HS5 := Aside0.mk (blk_below HS4.out hb)
  clear HG4 HB4 HS4 hb ho HZ
  have e1 : (x.length : Int) ≠ 0 := by have := HX0.out; omega
  have e2 : ((x.length : Int) == 0) = false := beq_eq_false_iff_ne.mpr e1
  have e3 : IntKind.i64.wrap ((l0.length : Int) + 4) = (y.length : Int) := by simp only [IntKind.wrap, IntKind.bits, IntKind.signed]; have := HL.out; have := HY0.out; simp; omega
  have e4 : IntKind.i64.wrap ((l0.length : Int) + 8) = (z.length : Int) := by simp only [IntKind.wrap, IntKind.bits, IntKind.signed]; have := HL.out; have := HZ0.out; simp; omega
  have e5 : ¬ x.length = 0 := by omega
  go_wp2_with fail
  have hlt6 : w.heap.size ≤ g6 := by have := HK6.out; have := HS2.out; omega
  have hB6 : ∀ v : Value, Below w.heap.size w (w5.setCell ⟨g6, 0, none⟩ v) := fun v => HB5.out.setCell hlt6 (p := ⟨g6, 0, none⟩) v
  have hG6 : ∀ v : Value, (w5.setCell ⟨g6, 0, none⟩ v).heap[w.heap.size]? = some (.cells (l0.map (Value.int .u8) ++ List.replicate 20 (Value.int .u8 0)).toArray 5 (0, 0)) := fun v =>
    (((Below.refl w2.heap.size w5).setCell HK6.out (p := ⟨g6, 0, none⟩) v).block w.heap.size HS2.out).trans HG5.out
  have HB6 := Aside0.mk hB6
  have HCA : Aside0 (∀ v : Value, (convert 26 9 (.slice A0 l0.length c0)).run Try.prog (w5.setCell ⟨g6, 0, none⟩ v) = .ok (.string (strOfNums l0)) (w5.setCell ⟨g6, 0, none⟩ v)) := ⟨fun v => Kd.C_string (P := Try.prog) Try.underlying26 Try.underlying5 Try.underlying9 (Kd.C_below HR.out (HB6.out v))⟩
  have HCB : Aside0 (∀ v : Value, (convert 26 9 (.slice (some ⟨w.heap.size, 0, none⟩) l0.length q)).run Try.prog (w5.setCell ⟨g6, 0, none⟩ v) = .ok (.string (strOfNums l0)) (w5.setCell ⟨g6, 0, none⟩ v)) := ⟨fun v => Kd.C_string (P := Try.prog) Try.underlying26 Try.underlying5 Try.underlying9 (keeps_C HL.out (hG6 v))⟩
  have HV7 : Aside0 (w5.cell? ⟨g6, 0, none⟩ = some (.int .u8 (rd x 0))) := ⟨(blk_cell HS5.out 0).trans HV6.out⟩
  have HF7 : Aside0 (w5.frozen? ⟨g6, 0, none⟩ = false) := ⟨blk_frozen HS5.out 0⟩
  have hqm : q ≤ 9223372036854775807 := by have := HQ.out; have := HL.out; omega
  clear hG6 hB6 hlt6 HS5 HV6 HR hww HB5
  go_loop [10] (fun v10 => ∃ j : Nat, l0.length ≤ j ∧ j ≤ q ∧ v10 = .int .i64 j) (fun v10 => q - (intOf v10).toNat)
  case atStart => exact ⟨l0.length, Nat.le_refl _, by have := HQ.out; omega, rfl⟩
  case round =>
    obtain ⟨j, hj1, hj2, rfl⟩ := hrel
    by_cases hlt : j < q
    · have t1 : decide (j < q) = true := decide_eq_true hlt
      have hcell := keeps_zero HG5.out j hj1 (by have := HQ.out; omega)
      go_wp2
      go_round
      case rel => exact ⟨j + 1, by omega, by omega, by go_num⟩
      case measure => simp [intOf]; omega
    · have t1 : decide (j < q) = false := decide_eq_false hlt
      have hcell := HV7.out
      have hfro := HF7.out
      have hcA := HCA.out
      have hcB := HCB.out
      have hx1 := HX0.out
      have hx2 : decide (0 < x.length) = true := decide_eq_true hx1
      go_wp2
      go_ret
      exact ⟨rfl, HB6.out _⟩
def courierlaw01_VarintKeeps.Pure : Prop := ∀ (l0 : List Int) (a1 : Int), l0.length ≤ maxLen → l0.length * 1 ≤ 140737488351232 → (∀ x ∈ l0, (Lit.int .u8 x).wf = true) → (Lit.int .u64 a1).wf = true → ∃ k, courierlaw01_VarintKeeps.f k l0 a1 = some true
theorem courierlaw01_VarintKeeps.walk (P : courierlaw01_VarintKeeps.Pure) (a0 : Option Addr) (len0 cap0 : Nat) (z0 : List Int) (a1 : Int) (w : World) (w0 : (a0 = none ∧ len0 = 0 ∧ cap0 = 0 ∧ z0 = []) ∨ ∃ x, a0 = some x ∧ len0 ≤ cap0 ∧ cap0 ≤ maxLen ∧ z0.length = cap0 ∧ (∀ i, i < z0.length → w.cell? (x.add i) = some (.int .u8 (z0.getD i 0))) ∧ ∀ n ∈ z0, (Lit.int .u8 n).wf = true) (y0 : len0 * 1 ≤ 140737488351232) (w1 : (Lit.int .u64 a1).wf = true) :
    Calls Try.prog 4 #[.slice a0 len0 cap0, .int .u64 a1] w fun e w' => e = .returned (.bool true) ∧ Below w.heap.size w w' := by
  obtain ⟨l0, rfl, hr0, hm0, hw0, hc0⟩ := ReadsInt.ofRowC w0
  obtain ⟨k, h⟩ := P l0 a1 hm0 y0 hw0 w1
  exact courierlaw01_VarintKeeps.calls k _ _ l0 a1 true w (Kd.C_of_reads (d := (0 : Int)) (h1 := fun _ => rfl) hr0) hc0 h
end

end Go.Proofs.Ytnmdgbfkeghboaa.X
