/- Plain functions for Go's own, out of the translation's print, and a proof that each call comes to what they tell; no condition but the functions' own answers. -/
import Derived.Test.YthhkdabajikckaaX0
import Derived.Test.YthhkdabajikckaaX5
import Derived.Test.YthhkdabajikckaaX6
import Derived.Test.YthhkdabajikckaaX18
import Derived.Laws.EntriesVeiled
namespace Go.Proofs.Ythhkdabajikckaa.X
open Go.RowKit Go.Proofs.YthhkdabajikckaaW.PrintWords Go.Proofs.YthhkdabajikckaaW.PrintLast Go.Proofs.YthhkdabajikckaaW.PrintMore
attribute [local go_sem] max2_int min2_int max_two min_two max_three min_three max_four min_four Go.Proofs.Ythhkdabajikckaa.MyWords.put_isSome Go.Proofs.Ythhkdabajikckaa.MyWords.drewN_put   -- for this text's walks alone
set_option linter.unusedVariables false
set_option linter.unusedSimpArgs false

/-! ### courierlaw15_FrameTurned: function 6 -/
section
open Go.Proofs.Ythhkdabajikckaa.Math
/-- What Parse answers beside the frame. -/
def parsedE (k : Nat) (l : List Int) : Option Int := (frame_Parse.f k l).map fun t => t.2.2.2.2.2.2.2.2.2
def turnedF (by_ g h i : Int) : Bool := (g == 2) && ((by_ == 0) == (h == 0)) && (i == 2)
def courierlaw15_FrameTurned.f (k : Nat) (a0_0 : Int) (a0_1 : Int) (a0_2 : Int) (a0_3 : Int) (a0_4 : Int) (a0_5 : Int) (a0_6 : Int) (a0_7 : Int) (l0_8 : List Int) (a1 : Int) (a2 : Int) : Option Bool :=
  (courierlaw15_awake.f k).bind fun t => if t = true then
  (courierlaw15_Few.f a0_0 a0_1 a0_2 a0_3 a0_4 a0_5 a0_6 a0_7 l0_8).bind fun few => if few = true then
    (frame_Build.f k a0_0 a0_1 a0_2 a0_3 a0_4 a0_5 a0_6 a0_7 l0_8).bind fun r => if r.2 = 0 then (if 0 < r.1.length ∧ r.1.length < 1099511627776 ∧ 0 ≤ a1 then
      (parsedE k (r.1.take (a1.toNat % r.1.length))).bind fun g => (parsedE k (r.1.set (a1.toNat % r.1.length) (Go.bits .xor .u8 (rd r.1 ((a1.toNat % r.1.length : Nat) : Int)) a2))).bind fun h => (parsedE k (r.1 ++ [a2])).bind fun i => if turnedF a2 g h i = true then some true else none
      else none) else some true
    else some true
  else none
theorem parsedE.mono (k : Nat) (l : List Int) : LeO (parsedE k l) (parsedE (k + 1) l) := LeO.map _ (frame_Parse.mono l k)
theorem courierlaw15_FrameTurned.mono : ∀ a0 a1 a2 a3 a4 a5 a6 a7 a8 a9 a10 k, LeO (courierlaw15_FrameTurned.f k a0 a1 a2 a3 a4 a5 a6 a7 a8 a9 a10) (courierlaw15_FrameTurned.f (k + 1) a0 a1 a2 a3 a4 a5 a6 a7 a8 a9 a10) := by
  intro a0 a1 a2 a3 a4 a5 a6 a7 a8 a9 a10 k
  unfold courierlaw15_FrameTurned.f
  refine LeO.bind (courierlaw15_awake.mono _) (fun t => LeO.ite (LeO.bind (LeO.refl _) (fun few => LeO.ite ?_ (LeO.refl _))) (LeO.refl _))
  refine LeO.bind (frame_Build.mono _ _ _ _ _ _ _ _ _ _) (fun r => LeO.ite (LeO.ite ?_ (LeO.refl _)) (LeO.refl _))
  refine LeO.bind (parsedE.mono _ _) (fun g => LeO.bind (parsedE.mono _ _) (fun h => LeO.bind (parsedE.mono _ _) (fun i => LeO.refl _)))
theorem parsedE_some {k : Nat} {l : List Int} {e : Int} (h : parsedE k l = some e) : ∃ r1 r2 r3 r4 r5 r6 r7 r8 r9, frame_Parse.f k l = some (r1, r2, r3, r4, r5, r6, r7, r8, r9, e) := by
  unfold parsedE at h
  obtain ⟨⟨r1, r2, r3, r4, r5, r6, r7, r8, r9, r10⟩, h1, h2⟩ := Option.map_eq_some_iff.mp h
  have h3 : r10 = e := h2
  subst h3
  exact ⟨r1, r2, r3, r4, r5, r6, r7, r8, r9, h1⟩
theorem turned_row {W : World} {base : Nat} {ok : Nat → Prop} {v : Value} {b : List Int} (h : Kd.R (Kd.int .u8) 5 W base ok v b) (hb : 0 < b.length) {m : Nat} (hm : m < b.length) : ∃ g cp, v = .slice (some ⟨g, 0, none⟩) b.length cp ∧ base ≤ g ∧ W.cell? ⟨g, m, none⟩ = some (.int .u8 (rd b (m : Int))) ∧ W.frozen? ⟨g, m, none⟩ = false := by
  obtain ⟨g, cp, rfl, hg, _, _, _⟩ := Kd.R_form h hb
  have h1 := Kd.R_cell (0 : Int) h (m : Int) (by omega) (by omega)
  rw [Int.toNat_natCast] at h1
  exact ⟨g, cp, rfl, hg, h1.1, h1.2⟩
set_option maxHeartbeats 4000000 in
set_option maxRecDepth 100000 in
theorem turned_main (k : Nat) (a0_0 : Int) (a0_1 : Int) (a0_2 : Int) (a0_3 : Int) (a0_4 : Int) (a0_5 : Int) (a0_6 : Int) (a0_7 : Int) (A0_8 : Option Addr) (c0_8 : Nat) (l0_8 : List Int) (a1 : Nat) (a2 : Int) (w : World) (hr0_8 : Kd.C (Kd.int .u8) w A0_8 l0_8.length l0_8) (hc0_8 : l0_8.length ≤ c0_8)
    (hA : courierlaw15_awake.f k = some true) (hF : courierlaw15_Few.f a0_0 a0_1 a0_2 a0_3 a0_4 a0_5 a0_6 a0_7 l0_8 = some true) {b : List Int} (hB : frame_Build.f k a0_0 a0_1 a0_2 a0_3 a0_4 a0_5 a0_6 a0_7 l0_8 = some (b, 0)) (hb : 0 < b.length) (hbl : b.length < 1099511627776) {m : Nat} (hm : m = a1 % b.length) {g h i x : Int}
    (hg : parsedE k (b.take m) = some g) (hx : Go.bits .xor .u8 (rd b (m : Int)) a2 = x) (hh : parsedE k (b.set m x) = some h) (hi : parsedE k (b ++ [a2]) = some i) (ht : turnedF a2 g h i = true) :
    Calls Try.prog 6 #[.agg #[.int .i64 a0_0, .int .i64 a0_1, .int .u64 a0_2, .int .i64 a0_3, .int .u64 a0_4, .int .i64 a0_5, .int .i64 a0_6, .int .i64 a0_7, .slice A0_8 l0_8.length c0_8], .int .u64 (a1 : Int), .int .u8 a2] w fun e w' => e = .returned (.bool true) ∧ Below w.heap.size w w' := by
  have hu25 := Try.underlying25
  have HR := Aside0.mk hr0_8
  have HC := Aside0.mk hc0_8
  have HA := Aside0.mk hA
  have HF := Aside0.mk hF
  have HBD := Aside0.mk hB
  have HLP := Aside0.mk hb
  have HLM := Aside0.mk hbl
  have HM := Aside0.mk hm
  have HG := Aside0.mk hg
  have HX := Aside0.mk hx
  have HH := Aside0.mk hh
  have HI := Aside0.mk hi
  have HT := Aside0.mk ht
  have HB0 : Aside0 (Below w.heap.size w (w.alloc (.cells #[.int .i64 a0_0, .int .i64 a0_1, .int .u64 a0_2, .int .i64 a0_3, .int .u64 a0_4, .int .i64 a0_5, .int .i64 a0_6, .int .i64 a0_7, .slice A0_8 l0_8.length c0_8] 25))) := ⟨below_alloc (Below.refl _ _) _⟩
  clear hr0_8 hc0_8 hA hF hB hb hbl hm hg hx hh hi ht
  go_enter Try.func6, Try.ntmps6
  go_wp2_with fail
  refine (courierlaw15_awake.calls k true _ HA.out).mono ?_
  rintro e w1 ⟨rfl, hb⟩
  have hk := blk_below (heap_alloc_new w (.cells #[.int .i64 a0_0, .int .i64 a0_1, .int .u64 a0_2, .int .i64 a0_3, .int .u64 a0_4, .int .i64 a0_5, .int .i64 a0_6, .int .i64 a0_7, .slice A0_8 l0_8.length c0_8] 25)) hb
  have HK := Aside0.mk hk
  have HB1 := Aside0.mk (below_step HB0.out hb)
  clear HB0 hb
  have d0 := blk_cell hk 0
  have d1 := blk_cell hk 1
  have d2 := blk_cell hk 2
  have d3 := blk_cell hk 3
  have d4 := blk_cell hk 4
  have d5 := blk_cell hk 5
  have d6 := blk_cell hk 6
  have d7 := blk_cell hk 7
  have d8 := blk_cell hk 8
  clear hk
  go_wp2_with fail
  refine (courierlaw15_Few.calls a0_0 a0_1 a0_2 a0_3 a0_4 a0_5 a0_6 a0_7 A0_8 c0_8 l0_8 true _ (Kd.C_below HR.out HB1.out) HC.out HF.out).mono ?_
  rintro e w2 ⟨rfl, hb⟩
  have hk := blk_below HK.out hb
  have HB2 := Aside0.mk (below_step HB1.out hb)
  clear d0 d1 d2 d3 d4 d5 d6 d7 d8 HB1 hb HK
  have d0 := blk_cell hk 0
  have d1 := blk_cell hk 1
  have d2 := blk_cell hk 2
  have d3 := blk_cell hk 3
  have d4 := blk_cell hk 4
  have d5 := blk_cell hk 5
  have d6 := blk_cell hk 6
  have d7 := blk_cell hk 7
  have d8 := blk_cell hk 8
  clear hk
  go_wp2_with fail
  refine (frame_Build.calls k a0_0 a0_1 a0_2 a0_3 a0_4 a0_5 a0_6 a0_7 A0_8 c0_8 l0_8 b 0 _ (Kd.C_below HR.out HB2.out) HC.out HBD.out).mono ?_
  rintro e w3 ⟨v7, rfl, ho, hb⟩
  obtain ⟨A7, c7, rfl⟩ := Kd.R_slice ho
  have HB3 := Aside0.mk (below_step HB2.out hb)
  have HCb := Aside0.mk (Kd.R_reads' ho).2.2
  have HLb := Aside0.mk (Kd.R_reads' ho).2.1
  clear d0 d1 d2 d3 d4 d5 d6 d7 d8 HB2 hb ho HBD HF HA HR HC
  have hm1 : ((a1 % b.length : Nat) : Int) = (m : Int) := by rw [HM.out]
  have hml : m < b.length := by rw [HM.out]; exact Nat.mod_lt _ HLP.out
  have HML := Aside0.mk hml
  obtain ⟨i0, hi0, _, hsz, _⟩ := info_parts info5
  have hcut := cut_to (P := Try.prog) 23 5 .i64 Try.underlying23 hi0 A7 b.length c7 (m : Int) (by omega) (by omega) HLb.out
  have hCt := Kd.C_take (m := m) HCb.out (by omega)
  have hz : (b.take m).length = m := by rw [List.length_take]; omega
  have hlt : (b.take m).length ≤ c7 := by have := HLb.out; omega
  obtain ⟨p1, p2, p3, p4, p5, p6, p7, p8, p9, hp⟩ := parsedE_some HG.out
  obtain ⟨z, hzz⟩ : ∃ z, z = b.take m := ⟨_, rfl⟩
  rw [← hzz] at hz hCt hlt hp
  have hz' : z.length = (m : Int).toNat := by rw [hz, Int.toNat_natCast]
  rw [← hz'] at hcut
  have t0 : ¬ b.length = 0 := by have := HLP.out; omega
  have t0i : ¬ (b.length : Int) = 0 := by omega
  have t1 : ((b.length : Int) == 0) = false := beq_eq_false_iff_ne.mpr (by have := HLP.out; omega)
  have t1n : (b.length == 0) = false := beq_eq_false_iff_ne.mpr (by have := HLP.out; omega)
  have t2 : IntKind.u64.wrap (b.length : Int) = (b.length : Int) := by simp only [IntKind.wrap, IntKind.bits, IntKind.signed]; have := HLM.out; simp; omega
  have t3 : (a1 : Int).tmod (b.length : Int) = (m : Int) := by rw [Int.tmod_eq_emod_of_nonneg (by omega), ← hm1]; omega
  have t4 : wrap64 (m : Int) = (m : Int) := by unfold wrap64; have := HLM.out; omega
  have HP := Aside0.mk hp
  have HCT := Aside0.mk hCt
  have HLT := Aside0.mk hlt
  clear hm1 hml hi0 hsz hCt hz hz' hlt hp HM HG hzz
  go_wp2_with fail
  refine (frame_Parse.calls k A7 c7 z p1 p2 p3 p4 p5 p6 p7 p8 p9 g w3 HCT.out HLT.out HP.out).mono ?_
  rintro e w4 ⟨v9, rfl, ho, hb⟩
  obtain ⟨A9, c9, rfl⟩ := Kd.R_slice ho
  have HB4 := Aside0.mk hb
  clear ho hb HCT HLT HP hcut t1 t1n t2 t3
  obtain ⟨q1, q2, q3, q4, q5, q6, q7, q8, q9, hq⟩ := parsedE_some HH.out
  obtain ⟨s1, s2, s3, s4, s5, s6, s7, s8, s9, hs⟩ := parsedE_some HI.out
  have HQ := Aside0.mk hq
  have HS := Aside0.mk hs
  clear hq hs HH HI
  go_wp2_with (first | ((with_reducible refine gate_dst (N := 52) rfl ?_); refine Kd.R_lit (Kd.int .u8) (w0 := w3) w3.heap.size 5 ?hg (N := 52) ?hd (xs := ([] : List Int)) (inner := []) (ok := fun _ => True) (okp := fun _ => True) ?hr ?hp (fun _ hk => hk) trivial (by repeat (first | exact HB4.out | apply below_alloc | apply pw_below_drewN | apply below_drew1)) (below_size (by repeat (first | exact HB4.out | apply below_alloc | apply pw_below_drewN | apply below_drew1))) (by simp) ?_; (case hd => rfl); (case hg => rfl); (case hr => first | (go_simp; done) | (go_simp; rfl)); (case hp => exact (Reps.none _ _)); intro v12 w5 ho_ hb_ hg_ hnew_; clear hg_ hnew_; have HO5 := Aside0.mk ho_; have HB5 := Aside0.mk hb_; clear ho_ hb_) | ((with_reducible refine gate_builtin (b := .append) (xs := #[.tmp 52, .tmp 53]) rfl ?_); at_builtin; refine Kd.R_append_rows (Kd.int .u8) (w0 := w3) w3.heap.size rfl (.tmp 52) (.tmp 53) 23 5 (.int .u8 0) 1 rfl Try.underlying23 info5 rfl (by decide) (by omega) v12 [] b _ _ _ (fun _ => True) (fun _ => False) rfl rfl HO5.out (Kd.C_below HCb.out HB5.out) (fun _ _ h => h) (fun _ h => h.elim) (fun _ _ => trivial) HB5.out (below_size HB5.out) (by have := HLM.out; simp only [List.length_nil]; omega) ?_; intro v54 w6 ho_ hb_ hg_ hat_; clear hg_ hat_; rw [List.nil_append] at ho_; obtain ⟨g6, cp6, rfl, hg6_, d1, d2⟩ := turned_row ho_ HLP.out HML.out; have HG6 := Aside0.mk hg6_; clear hg6_; have d3 : (m : Int) < (b.length : Int) := (by have := HML.out; omega); have d4 := HX.out; have HO6 := Aside0.mk ho_; have HB6 := Aside0.mk hb_; clear ho_ hb_))
  have hp := Kd.R_put HO6.out (m : Int) x
  rw [Int.toNat_natCast] at hp
  obtain ⟨hp1, _⟩ := hp
  have hy : (b.set m x).length = b.length := List.length_set
  have hb6 := HB6.out.setCell HG6.out (p := ⟨g6, m, none⟩) (.int .u8 x)
  have hcall := frame_Parse.calls k (some ⟨g6, 0, none⟩) cp6 (b.set m x) q1 q2 q3 q4 q5 q6 q7 q8 q9 h (w6.setCell ⟨g6, m, none⟩ (.int .u8 x)) ?hC ?hL HQ.out
  rotate_left
  · rw [← hy] at hp1
    exact (Kd.R_reads' hp1).2.2
  · rw [← hy] at hp1
    exact (Kd.R_reads' hp1).2.1
  rw [hy] at hcall
  refine hcall.mono ?_
  rintro e w7 ⟨v64, rfl, ho, hb⟩
  obtain ⟨A64, c64, rfl⟩ := Kd.R_slice ho
  have HB7 := Aside0.mk (below_step hb6 hb)
  clear ho hb hb6 hcall hy hp1 d1 d2 d3 d4 HO6 HB6 HO5 HB5 HQ
  go_wp2_with (first | ((with_reducible refine gate_dst (N := 70) rfl ?_); refine Kd.R_lit (Kd.int .u8) (w0 := w3) w3.heap.size 5 ?hg (N := 70) ?hd (xs := ([] : List Int)) (inner := []) (ok := fun _ => True) (okp := fun _ => True) ?hr ?hp (fun _ hk => hk) trivial (by repeat (first | exact HB7.out | apply below_alloc | apply pw_below_drewN | apply below_drew1)) (below_size (by repeat (first | exact HB7.out | apply below_alloc | apply pw_below_drewN | apply below_drew1))) (by simp) ?_; (case hd => rfl); (case hg => rfl); (case hr => first | (go_simp; done) | (go_simp; rfl)); (case hp => exact (Reps.none _ _)); intro v70 w8 ho_ hb_ hg_ hnew_; clear hg_ hnew_; have HO8 := Aside0.mk ho_; have HB8 := Aside0.mk hb_; clear ho_ hb_) | ((with_reducible refine gate_builtin (b := .append) (xs := #[.tmp 70, .tmp 71]) rfl ?_); at_builtin; refine Kd.R_append_rows (Kd.int .u8) (w0 := w3) w3.heap.size rfl (.tmp 70) (.tmp 71) 23 5 (.int .u8 0) 1 rfl Try.underlying23 info5 rfl (by decide) (by omega) v70 [] b _ _ _ (fun _ => True) (fun _ => False) rfl rfl HO8.out (Kd.C_below HCb.out HB8.out) (fun _ _ h => h) (fun _ h => h.elim) (fun _ _ => trivial) HB8.out (below_size HB8.out) (by have := HLM.out; simp only [List.length_nil]; omega) ?_; intro v72 w9 ho_ hb_ hg_ hat_; clear hg_ hat_; rw [List.nil_append] at ho_; have HO9 := Aside0.mk ho_; have HB9 := Aside0.mk hb_; clear ho_ hb_) | ((with_reducible refine gate_builtin (b := .append) (xs := #[.tmp 72, .tmp 74]) rfl ?_); at_builtin; refine Kd.R_append (Kd.int .u8) (w0 := w3) w3.heap.size rfl (.tmp 72) (.tmp 74) 23 5 (.int .u8 0) 1 rfl Try.underlying23 info5 rfl (by decide) (by omega) v72 b a2 [.int .u8 a2] (fun _ => True) (fun _ => False) rfl rfl rfl (fun _ hk => hk.elim) (fun _ _ => trivial) HO9.out HB9.out (below_size HB9.out) (by have := HLM.out; omega) ?_; intro v75 w10 ho_ hb_ hg_ hat_; clear hg_ hat_; have HO10 := Aside0.mk ho_; have HB10 := Aside0.mk hb_; clear ho_ hb_))
  obtain ⟨A75, c75, rfl⟩ := Kd.R_slice HO10.out
  refine (frame_Parse.calls k A75 c75 (b ++ [a2]) s1 s2 s3 s4 s5 s6 s7 s8 s9 i w10 (Kd.R_reads' HO10.out).2.2 (Kd.R_reads' HO10.out).2.1 HS.out).mono ?_
  rintro e w11 ⟨v76, rfl, ho, hb⟩
  obtain ⟨A76, c76, rfl⟩ := Kd.R_slice ho
  have HB11 := Aside0.mk (below_step HB10.out hb)
  have htt := HT.out
  unfold turnedF at htt
  rw [Bool.and_eq_true, Bool.and_eq_true] at htt
  obtain ⟨⟨g1, g2⟩, g3⟩ := htt
  obtain rfl := beq_iff_eq.mp g1
  obtain rfl := beq_iff_eq.mp g3
  clear ho hb HS HT g1 g3
  have HE := Aside0.mk (below_step HB3.out HB11.out)
  by_cases c1 : a2 = 0
  · have c2 : (a2 == 0) = true := beq_iff_eq.mpr c1
    rw [c2] at g2
    have c3 : (h == 0) = true := (beq_iff_eq.mp g2).symm
    obtain rfl := beq_iff_eq.mp c3
    subst c1
    clear c2 c3 g2
    go_wp2_with fail
    go_ret
    exact ⟨rfl, below_alloc HE.out _⟩
  · have c2 : (a2 == 0) = false := beq_eq_false_iff_ne.mpr c1
    rw [c2] at g2
    have c3 : (h == 0) = false := (beq_iff_eq.mp g2).symm
    clear g2 c1
    go_wp2_with fail
    go_ret
    exact ⟨rfl, below_alloc HE.out _⟩
set_option maxHeartbeats 1000000 in
set_option maxRecDepth 100000 in
theorem turned_few (k : Nat) (a0_0 : Int) (a0_1 : Int) (a0_2 : Int) (a0_3 : Int) (a0_4 : Int) (a0_5 : Int) (a0_6 : Int) (a0_7 : Int) (A0_8 : Option Addr) (c0_8 : Nat) (l0_8 : List Int) (a1 : Int) (a2 : Int) (w : World) (hr0_8 : Kd.C (Kd.int .u8) w A0_8 l0_8.length l0_8) (hc0_8 : l0_8.length ≤ c0_8)
    (hA : courierlaw15_awake.f k = some true) (hF : courierlaw15_Few.f a0_0 a0_1 a0_2 a0_3 a0_4 a0_5 a0_6 a0_7 l0_8 = some false) :
    Calls Try.prog 6 #[.agg #[.int .i64 a0_0, .int .i64 a0_1, .int .u64 a0_2, .int .i64 a0_3, .int .u64 a0_4, .int .i64 a0_5, .int .i64 a0_6, .int .i64 a0_7, .slice A0_8 l0_8.length c0_8], .int .u64 a1, .int .u8 a2] w fun e w' => e = .returned (.bool true) ∧ Below w.heap.size w w' := by
  have hu25 := Try.underlying25
  have HR := Aside0.mk hr0_8
  have HC := Aside0.mk hc0_8
  have HA := Aside0.mk hA
  have HF := Aside0.mk hF
  have HB0 : Aside0 (Below w.heap.size w (w.alloc (.cells #[.int .i64 a0_0, .int .i64 a0_1, .int .u64 a0_2, .int .i64 a0_3, .int .u64 a0_4, .int .i64 a0_5, .int .i64 a0_6, .int .i64 a0_7, .slice A0_8 l0_8.length c0_8] 25))) := ⟨below_alloc (Below.refl _ _) _⟩
  clear hr0_8 hc0_8 hA hF
  go_enter Try.func6, Try.ntmps6
  go_wp2_with fail
  refine (courierlaw15_awake.calls k true _ HA.out).mono ?_
  rintro e w1 ⟨rfl, hb⟩
  have hk := blk_below (heap_alloc_new w (.cells #[.int .i64 a0_0, .int .i64 a0_1, .int .u64 a0_2, .int .i64 a0_3, .int .u64 a0_4, .int .i64 a0_5, .int .i64 a0_6, .int .i64 a0_7, .slice A0_8 l0_8.length c0_8] 25)) hb
  have HK := Aside0.mk hk
  have HB1 := Aside0.mk (below_step HB0.out hb)
  clear HB0 hb
  have d0 := blk_cell hk 0
  have d1 := blk_cell hk 1
  have d2 := blk_cell hk 2
  have d3 := blk_cell hk 3
  have d4 := blk_cell hk 4
  have d5 := blk_cell hk 5
  have d6 := blk_cell hk 6
  have d7 := blk_cell hk 7
  have d8 := blk_cell hk 8
  clear hk
  go_wp2_with fail
  refine (courierlaw15_Few.calls a0_0 a0_1 a0_2 a0_3 a0_4 a0_5 a0_6 a0_7 A0_8 c0_8 l0_8 false _ (Kd.C_below HR.out HB1.out) HC.out HF.out).mono ?_
  rintro e w2 ⟨rfl, hb⟩
  have hk := blk_below HK.out hb
  have HB2 := Aside0.mk (below_step HB1.out hb)
  clear d0 d1 d2 d3 d4 d5 d6 d7 d8 HB1 hb HK
  clear hk
  go_wp2_with fail
  refine (courierlaw15_awake.calls k true _ HA.out).mono ?_
  rintro e w3 ⟨rfl, hb⟩
  have HB3 := Aside0.mk (below_step HB2.out hb)
  clear hb
  go_wp2_with fail
  go_ret
  exact ⟨rfl, HB3.out⟩
set_option maxHeartbeats 1000000 in
set_option maxRecDepth 100000 in
theorem turned_bad (k : Nat) (a0_0 : Int) (a0_1 : Int) (a0_2 : Int) (a0_3 : Int) (a0_4 : Int) (a0_5 : Int) (a0_6 : Int) (a0_7 : Int) (A0_8 : Option Addr) (c0_8 : Nat) (l0_8 : List Int) (a1 : Int) (a2 : Int) (w : World) (hr0_8 : Kd.C (Kd.int .u8) w A0_8 l0_8.length l0_8) (hc0_8 : l0_8.length ≤ c0_8)
    (hA : courierlaw15_awake.f k = some true) (hF : courierlaw15_Few.f a0_0 a0_1 a0_2 a0_3 a0_4 a0_5 a0_6 a0_7 l0_8 = some true) {b : List Int} {eb : Int} (hB : frame_Build.f k a0_0 a0_1 a0_2 a0_3 a0_4 a0_5 a0_6 a0_7 l0_8 = some (b, eb)) (he : ¬ eb = 0) :
    Calls Try.prog 6 #[.agg #[.int .i64 a0_0, .int .i64 a0_1, .int .u64 a0_2, .int .i64 a0_3, .int .u64 a0_4, .int .i64 a0_5, .int .i64 a0_6, .int .i64 a0_7, .slice A0_8 l0_8.length c0_8], .int .u64 a1, .int .u8 a2] w fun e w' => e = .returned (.bool true) ∧ Below w.heap.size w w' := by
  have hu25 := Try.underlying25
  have HR := Aside0.mk hr0_8
  have HC := Aside0.mk hc0_8
  have HA := Aside0.mk hA
  have HF := Aside0.mk hF
  have HBD := Aside0.mk hB
  have t2 : (eb != 0) = true := bne_iff_ne.mpr he
  have HB0 : Aside0 (Below w.heap.size w (w.alloc (.cells #[.int .i64 a0_0, .int .i64 a0_1, .int .u64 a0_2, .int .i64 a0_3, .int .u64 a0_4, .int .i64 a0_5, .int .i64 a0_6, .int .i64 a0_7, .slice A0_8 l0_8.length c0_8] 25))) := ⟨below_alloc (Below.refl _ _) _⟩
  clear hr0_8 hc0_8 hA hF hB he
  go_enter Try.func6, Try.ntmps6
  go_wp2_with fail
  refine (courierlaw15_awake.calls k true _ HA.out).mono ?_
  rintro e w1 ⟨rfl, hb⟩
  have hk := blk_below (heap_alloc_new w (.cells #[.int .i64 a0_0, .int .i64 a0_1, .int .u64 a0_2, .int .i64 a0_3, .int .u64 a0_4, .int .i64 a0_5, .int .i64 a0_6, .int .i64 a0_7, .slice A0_8 l0_8.length c0_8] 25)) hb
  have HK := Aside0.mk hk
  have HB1 := Aside0.mk (below_step HB0.out hb)
  clear HB0 hb
  have d0 := blk_cell hk 0
  have d1 := blk_cell hk 1
  have d2 := blk_cell hk 2
  have d3 := blk_cell hk 3
  have d4 := blk_cell hk 4
  have d5 := blk_cell hk 5
  have d6 := blk_cell hk 6
  have d7 := blk_cell hk 7
  have d8 := blk_cell hk 8
  clear hk
  go_wp2_with fail
  refine (courierlaw15_Few.calls a0_0 a0_1 a0_2 a0_3 a0_4 a0_5 a0_6 a0_7 A0_8 c0_8 l0_8 true _ (Kd.C_below HR.out HB1.out) HC.out HF.out).mono ?_
  rintro e w2 ⟨rfl, hb⟩
  have hk := blk_below HK.out hb
  have HB2 := Aside0.mk (below_step HB1.out hb)
  clear d0 d1 d2 d3 d4 d5 d6 d7 d8 HB1 hb HK
  have d0 := blk_cell hk 0
  have d1 := blk_cell hk 1
  have d2 := blk_cell hk 2
  have d3 := blk_cell hk 3
  have d4 := blk_cell hk 4
  have d5 := blk_cell hk 5
  have d6 := blk_cell hk 6
  have d7 := blk_cell hk 7
  have d8 := blk_cell hk 8
  clear hk
  go_wp2_with fail
  refine (frame_Build.calls k a0_0 a0_1 a0_2 a0_3 a0_4 a0_5 a0_6 a0_7 A0_8 c0_8 l0_8 b eb _ (Kd.C_below HR.out HB2.out) HC.out HBD.out).mono ?_
  rintro e w3 ⟨v7, rfl, ho, hb⟩
  have HB3 := Aside0.mk (below_step HB2.out hb)
  clear d0 d1 d2 d3 d4 d5 d6 d7 d8 HB2 hb ho HBD HF HA HR HC
  go_wp2_with fail
  go_ret
  exact ⟨rfl, HB3.out⟩
theorem courierlaw15_FrameTurned.calls (k : Nat) (a0_0 : Int) (a0_1 : Int) (a0_2 : Int) (a0_3 : Int) (a0_4 : Int) (a0_5 : Int) (a0_6 : Int) (a0_7 : Int) (A0_8 : Option Addr) (c0_8 : Nat) (l0_8 : List Int) (a1 : Int) (a2 : Int) (r : Bool) (w : World) (hr0_8 : Kd.C (Kd.int .u8) w A0_8 l0_8.length l0_8) (hc0_8 : l0_8.length ≤ c0_8) (h : courierlaw15_FrameTurned.f k a0_0 a0_1 a0_2 a0_3 a0_4 a0_5 a0_6 a0_7 l0_8 a1 a2 = some r) :
    Calls Try.prog 6 #[.agg #[.int .i64 a0_0, .int .i64 a0_1, .int .u64 a0_2, .int .i64 a0_3, .int .u64 a0_4, .int .i64 a0_5, .int .i64 a0_6, .int .i64 a0_7, .slice A0_8 l0_8.length c0_8], .int .u64 a1, .int .u8 a2] w fun e w' => e = .returned (.bool r) ∧ Below w.heap.size w w' := by
  unfold courierlaw15_FrameTurned.f at h
  obtain ⟨t, hA, h⟩ := Option.bind_eq_some_iff.mp h
  by_cases ht : t = true
  rotate_left
  · rw [if_neg ht] at h; cases h
  subst ht
  rw [if_pos rfl] at h
  obtain ⟨few, hF, h⟩ := Option.bind_eq_some_iff.mp h
  by_cases hf : few = true
  rotate_left
  · rw [if_neg hf] at h
    obtain rfl := Option.some.inj h
    rw [Bool.eq_false_iff.mpr hf] at hF
    exact turned_few k a0_0 a0_1 a0_2 a0_3 a0_4 a0_5 a0_6 a0_7 A0_8 c0_8 l0_8 a1 a2 w hr0_8 hc0_8 hA hF
  subst hf
  rw [if_pos rfl] at h
  obtain ⟨⟨b, eb⟩, hB, h⟩ := Option.bind_eq_some_iff.mp h
  by_cases he : eb = 0
  rotate_left
  · rw [if_neg he] at h
    obtain rfl := Option.some.inj h
    exact turned_bad k a0_0 a0_1 a0_2 a0_3 a0_4 a0_5 a0_6 a0_7 A0_8 c0_8 l0_8 a1 a2 w hr0_8 hc0_8 hA hF hB he
  subst he
  rw [if_pos rfl] at h
  by_cases hc : 0 < b.length ∧ b.length < 1099511627776 ∧ 0 ≤ a1
  rotate_left
  · rw [if_neg hc] at h; cases h
  rw [if_pos hc] at h
  obtain ⟨g, hg, h⟩ := Option.bind_eq_some_iff.mp h
  obtain ⟨hh, hh1, h⟩ := Option.bind_eq_some_iff.mp h
  obtain ⟨i, hi, h⟩ := Option.bind_eq_some_iff.mp h
  by_cases ht : turnedF a2 g hh i = true
  rotate_left
  · rw [if_neg ht] at h; cases h
  rw [if_pos ht] at h
  obtain rfl := Option.some.inj h
  obtain ⟨q, rfl⟩ := Int.eq_ofNat_of_zero_le hc.2.2
  rw [Int.toNat_natCast] at hg hh1
  exact turned_main k a0_0 a0_1 a0_2 a0_3 a0_4 a0_5 a0_6 a0_7 A0_8 c0_8 l0_8 q a2 w hr0_8 hc0_8 hA hF hB hc.1 hc.2.1 rfl hg rfl hh1 hi ht
end

end Go.Proofs.Ythhkdabajikckaa.X
