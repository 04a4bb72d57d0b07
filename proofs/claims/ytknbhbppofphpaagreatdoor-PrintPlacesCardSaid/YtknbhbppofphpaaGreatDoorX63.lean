/- Plain functions for Go's own, out of the translation's print, and a proof that each call comes to what they tell; no condition but the functions' own answers. -/
import Derived.Test.YtknbhbppofphpaaGreatDoorX0
namespace Go.Proofs.YtknbhbppofphpaaGreatDoor.X
open Go.RowKit Go.Proofs.YtknbhbppofphpaaGreatDoorW.PrintWords Go.Proofs.YtknbhbppofphpaaGreatDoorW.PrintLast Go.Proofs.YtknbhbppofphpaaGreatDoorW.PrintMore
attribute [local go_sem] max2_int min2_int max_two min_two max_three min_three max_four min_four Go.Proofs.YtknbhbppofphpaaGreatDoor.MyWords.put_isSome Go.Proofs.YtknbhbppofphpaaGreatDoor.MyWords.drewN_put   -- for this text's walks alone
set_option linter.unusedVariables false
set_option linter.unusedSimpArgs false

/-! ### courierlaw05_Theirs: function 8 -/
mutual
def courierlaw05_Theirs.l0 : Nat → List (S60) → List (S41) → Int → Int → Option ((List (S41)))
  | 0, _, _, _, _ => none
  | k + 1, x0, x3, x10, x11 => if x11 < x10 then (if 0 ≤ x11 then (if x11 < (x0.length : Int) then ((courierlaw05_Theirs.f k ((rd_T60 x0 x11).f6)).bind fun t167 => (courierlaw05_Theirs.l1 k x0 x3 x11 x10 x11 (((rd_T60 x0 x11).f3).length : Int) 0 ((rd_T60 x0 x11).f0) ((rd_T60 x0 x11).f1) ((rd_T60 x0 x11).f2.f0) ((rd_T60 x0 x11).f2.f1) ([] : List (S62)) t167)) else (none)) else (none)) else (some x3)
def courierlaw05_Theirs.l1 : Nat → List (S60) → List (S41) → Int → Int → Int → Int → Int → Int → ByteArray → Int → Int → List (S62) → List (S41) → Option ((List (S41)))
  | 0, _, _, _, _, _, _, _, _, _, _, _, _, _ => none
  | k + 1, x0, x3, x4, x10, x11, x41, x42, x171000, x171001, x171002, x171003, x171004, x171007 => if x42 < x41 then (if 0 ≤ x4 then (if x4 < (x0.length : Int) then (if 0 ≤ x42 then (if x42 < (((rd_T60 x0 x4).f3).length : Int) then (if x171004.length < 2199023255552 then (courierlaw05_Theirs.l1 k x0 x3 x4 x10 x11 x41 (wrap64 (x42 + 1)) x171000 x171001 x171002 x171003 (x171004 ++ [(⟨(rd_T63 ((rd_T60 x0 x4).f3) x42).f0, (rd_T63 ((rd_T60 x0 x4).f3) x42).f1, (rd_T63 ((rd_T60 x0 x4).f3) x42).f2, (rd_T63 ((rd_T60 x0 x4).f3) x42).f3, (⟨(rd_T63 ((rd_T60 x0 x4).f3) x42).f4.f0, (rd_T63 ((rd_T60 x0 x4).f3) x42).f4.f1⟩ : S34)⟩ : S62)]) x171007) else (none)) else (none)) else (none)) else (none)) else (none)) else (if 0 ≤ x4 then (if x4 < (x0.length : Int) then (courierlaw05_Theirs.l2 k x0 x3 x4 x10 x11 (((rd_T60 x0 x4).f4).length : Int) 0 x171000 x171001 x171002 x171003 x171004 ([] : List (S36)) x171007) else (none)) else (none))
def courierlaw05_Theirs.l2 : Nat → List (S60) → List (S41) → Int → Int → Int → Int → Int → Int → ByteArray → Int → Int → List (S62) → List (S36) → List (S41) → Option ((List (S41)))
  | 0, _, _, _, _, _, _, _, _, _, _, _, _, _, _ => none
  | k + 1, x0, x3, x4, x10, x11, x64, x65, x171000, x171001, x171002, x171003, x171004, x171005, x171007 => if x65 < x64 then (if 0 ≤ x4 then (if x4 < (x0.length : Int) then (if 0 ≤ x65 then (if x65 < (((rd_T60 x0 x4).f4).length : Int) then (if x171005.length < 3518437208883 then (courierlaw05_Theirs.l2 k x0 x3 x4 x10 x11 x64 (wrap64 (x65 + 1)) x171000 x171001 x171002 x171003 x171004 (x171005 ++ [(⟨(rd_T64 ((rd_T60 x0 x4).f4) x65).f0, (rd_T64 ((rd_T60 x0 x4).f4) x65).f1, (⟨(rd_T64 ((rd_T60 x0 x4).f4) x65).f2.f0, (rd_T64 ((rd_T60 x0 x4).f4) x65).f2.f1⟩ : S34)⟩ : S36)]) x171007) else (none)) else (none)) else (none)) else (none)) else (none)) else (if 0 ≤ x4 then (if x4 < (x0.length : Int) then (courierlaw05_Theirs.l3 k x0 x3 x4 x10 x11 (((rd_T60 x0 x4).f5).length : Int) 0 x171000 x171001 x171002 x171003 x171004 x171005 ([] : List (S66)) x171007) else (none)) else (none))
def courierlaw05_Theirs.l3 : Nat → List (S60) → List (S41) → Int → Int → Int → Int → Int → Int → ByteArray → Int → Int → List (S62) → List (S36) → List (S66) → List (S41) → Option ((List (S41)))
  | 0, _, _, _, _, _, _, _, _, _, _, _, _, _, _, _ => none
  | k + 1, x0, x3, x4, x10, x11, x87, x88, x171000, x171001, x171002, x171003, x171004, x171005, x171006, x171007 => if x88 < x87 then (if 0 ≤ x4 then (if x4 < (x0.length : Int) then (if 0 ≤ x88 then (if x88 < (((rd_T60 x0 x4).f5).length : Int) then (if x171006.length < 2199023255552 then (courierlaw05_Theirs.l3 k x0 x3 x4 x10 x11 x87 (wrap64 (x88 + 1)) x171000 x171001 x171002 x171003 x171004 x171005 (x171006 ++ [(⟨(rd_T67 ((rd_T60 x0 x4).f5) x88).f0, (rd_T67 ((rd_T60 x0 x4).f5) x88).f1, (rd_T67 ((rd_T60 x0 x4).f5) x88).f2, (⟨(rd_T67 ((rd_T60 x0 x4).f5) x88).f3.f0, (rd_T67 ((rd_T60 x0 x4).f5) x88).f3.f1⟩ : S34)⟩ : S66)]) x171007) else (none)) else (none)) else (none)) else (none)) else (none)) else (if x3.length < 1034834473200 then (courierlaw05_Theirs.l0 k x0 (x3 ++ [(⟨x171000, x171001, (⟨x171002, x171003⟩ : S34), x171004, x171005, x171006, x171007⟩ : S41)]) x10 (wrap64 (x11 + 1))) else (none))
def courierlaw05_Theirs.f : Nat → List (S60) → Option ((List (S41)))
  | 0, _ => none
  | k + 1, l0 => courierlaw05_Theirs.l0 k l0 ([] : List (S41)) (l0.length : Int) 0
end
theorem courierlaw05_Theirs.mono_l : ∀ k, (∀ y0, LeO (courierlaw05_Theirs.f k y0) (courierlaw05_Theirs.f (k + 1) y0)) ∧ (∀ y0 y1 y2 y3, LeO (courierlaw05_Theirs.l0 k y0 y1 y2 y3) (courierlaw05_Theirs.l0 (k + 1) y0 y1 y2 y3)) ∧ (∀ y0 y1 y2 y3 y4 y5 y6 y7 y8 y9 y10 y11 y12, LeO (courierlaw05_Theirs.l1 k y0 y1 y2 y3 y4 y5 y6 y7 y8 y9 y10 y11 y12) (courierlaw05_Theirs.l1 (k + 1) y0 y1 y2 y3 y4 y5 y6 y7 y8 y9 y10 y11 y12)) ∧ (∀ y0 y1 y2 y3 y4 y5 y6 y7 y8 y9 y10 y11 y12 y13, LeO (courierlaw05_Theirs.l2 k y0 y1 y2 y3 y4 y5 y6 y7 y8 y9 y10 y11 y12 y13) (courierlaw05_Theirs.l2 (k + 1) y0 y1 y2 y3 y4 y5 y6 y7 y8 y9 y10 y11 y12 y13)) ∧ (∀ y0 y1 y2 y3 y4 y5 y6 y7 y8 y9 y10 y11 y12 y13 y14, LeO (courierlaw05_Theirs.l3 k y0 y1 y2 y3 y4 y5 y6 y7 y8 y9 y10 y11 y12 y13 y14) (courierlaw05_Theirs.l3 (k + 1) y0 y1 y2 y3 y4 y5 y6 y7 y8 y9 y10 y11 y12 y13 y14))
  | 0 => ⟨fun _ r h => by simp [courierlaw05_Theirs.f] at h, fun _ _ _ _ r h => by simp [courierlaw05_Theirs.l0] at h, fun _ _ _ _ _ _ _ _ _ _ _ _ _ r h => by simp [courierlaw05_Theirs.l1] at h, fun _ _ _ _ _ _ _ _ _ _ _ _ _ _ r h => by simp [courierlaw05_Theirs.l2] at h, fun _ _ _ _ _ _ _ _ _ _ _ _ _ _ _ r h => by simp [courierlaw05_Theirs.l3] at h⟩
  | k + 1 => by
    obtain ⟨ih0, ih1, ih2, ih3, ih4⟩ := courierlaw05_Theirs.mono_l k
    refine ⟨?_, ?_, ?_, ?_, ?_⟩
    · intro y0
      unfold courierlaw05_Theirs.f
      repeat' first
      | (with_reducible exact ih0 _)
      | (with_reducible exact ih1 _ _ _ _)
      | (with_reducible exact ih2 _ _ _ _ _ _ _ _ _ _ _ _ _)
      | (with_reducible exact ih3 _ _ _ _ _ _ _ _ _ _ _ _ _ _)
      | (with_reducible exact ih4 _ _ _ _ _ _ _ _ _ _ _ _ _ _ _)
      | (with_reducible exact LeO.refl _)
      | (with_reducible exact LeO.none _)
      | (with_reducible refine LeO.ite ?_ ?_)
      | (with_reducible refine LeO.bind ?_ (fun _ => ?_))
      | exact ih0 _
      | exact ih1 _ _ _ _
      | exact ih2 _ _ _ _ _ _ _ _ _ _ _ _ _
      | exact ih3 _ _ _ _ _ _ _ _ _ _ _ _ _ _
      | exact ih4 _ _ _ _ _ _ _ _ _ _ _ _ _ _ _
      | exact LeO.none _
      | refine LeO.ite ?_ ?_
      | refine LeO.bind ?_ (fun _ => ?_)
    · intro y0 y1 y2 y3
      unfold courierlaw05_Theirs.l0
      repeat' first
      | (with_reducible exact ih0 _)
      | (with_reducible exact ih1 _ _ _ _)
      | (with_reducible exact ih2 _ _ _ _ _ _ _ _ _ _ _ _ _)
      | (with_reducible exact ih3 _ _ _ _ _ _ _ _ _ _ _ _ _ _)
      | (with_reducible exact ih4 _ _ _ _ _ _ _ _ _ _ _ _ _ _ _)
      | (with_reducible exact LeO.refl _)
      | (with_reducible exact LeO.none _)
      | (with_reducible refine LeO.ite ?_ ?_)
      | (with_reducible refine LeO.bind ?_ (fun _ => ?_))
      | exact ih0 _
      | exact ih1 _ _ _ _
      | exact ih2 _ _ _ _ _ _ _ _ _ _ _ _ _
      | exact ih3 _ _ _ _ _ _ _ _ _ _ _ _ _ _
      | exact ih4 _ _ _ _ _ _ _ _ _ _ _ _ _ _ _
      | exact LeO.none _
      | refine LeO.ite ?_ ?_
      | refine LeO.bind ?_ (fun _ => ?_)
    · intro y0 y1 y2 y3 y4 y5 y6 y7 y8 y9 y10 y11 y12
      unfold courierlaw05_Theirs.l1
      repeat' first
      | (with_reducible exact ih0 _)
      | (with_reducible exact ih1 _ _ _ _)
      | (with_reducible exact ih2 _ _ _ _ _ _ _ _ _ _ _ _ _)
      | (with_reducible exact ih3 _ _ _ _ _ _ _ _ _ _ _ _ _ _)
      | (with_reducible exact ih4 _ _ _ _ _ _ _ _ _ _ _ _ _ _ _)
      | (with_reducible exact LeO.refl _)
      | (with_reducible exact LeO.none _)
      | (with_reducible refine LeO.ite ?_ ?_)
      | (with_reducible refine LeO.bind ?_ (fun _ => ?_))
      | exact ih0 _
      | exact ih1 _ _ _ _
      | exact ih2 _ _ _ _ _ _ _ _ _ _ _ _ _
      | exact ih3 _ _ _ _ _ _ _ _ _ _ _ _ _ _
      | exact ih4 _ _ _ _ _ _ _ _ _ _ _ _ _ _ _
      | exact LeO.none _
      | refine LeO.ite ?_ ?_
      | refine LeO.bind ?_ (fun _ => ?_)
    · intro y0 y1 y2 y3 y4 y5 y6 y7 y8 y9 y10 y11 y12 y13
      unfold courierlaw05_Theirs.l2
      repeat' first
      | (with_reducible exact ih0 _)
      | (with_reducible exact ih1 _ _ _ _)
      | (with_reducible exact ih2 _ _ _ _ _ _ _ _ _ _ _ _ _)
      | (with_reducible exact ih3 _ _ _ _ _ _ _ _ _ _ _ _ _ _)
      | (with_reducible exact ih4 _ _ _ _ _ _ _ _ _ _ _ _ _ _ _)
      | (with_reducible exact LeO.refl _)
      | (with_reducible exact LeO.none _)
      | (with_reducible refine LeO.ite ?_ ?_)
      | (with_reducible refine LeO.bind ?_ (fun _ => ?_))
      | exact ih0 _
      | exact ih1 _ _ _ _
      | exact ih2 _ _ _ _ _ _ _ _ _ _ _ _ _
      | exact ih3 _ _ _ _ _ _ _ _ _ _ _ _ _ _
      | exact ih4 _ _ _ _ _ _ _ _ _ _ _ _ _ _ _
      | exact LeO.none _
      | refine LeO.ite ?_ ?_
      | refine LeO.bind ?_ (fun _ => ?_)
    · intro y0 y1 y2 y3 y4 y5 y6 y7 y8 y9 y10 y11 y12 y13 y14
      unfold courierlaw05_Theirs.l3
      repeat' first
      | (with_reducible exact ih0 _)
      | (with_reducible exact ih1 _ _ _ _)
      | (with_reducible exact ih2 _ _ _ _ _ _ _ _ _ _ _ _ _)
      | (with_reducible exact ih3 _ _ _ _ _ _ _ _ _ _ _ _ _ _)
      | (with_reducible exact ih4 _ _ _ _ _ _ _ _ _ _ _ _ _ _ _)
      | (with_reducible exact LeO.refl _)
      | (with_reducible exact LeO.none _)
      | (with_reducible refine LeO.ite ?_ ?_)
      | (with_reducible refine LeO.bind ?_ (fun _ => ?_))
      | exact ih0 _
      | exact ih1 _ _ _ _
      | exact ih2 _ _ _ _ _ _ _ _ _ _ _ _ _
      | exact ih3 _ _ _ _ _ _ _ _ _ _ _ _ _ _
      | exact ih4 _ _ _ _ _ _ _ _ _ _ _ _ _ _ _
      | exact LeO.none _
      | refine LeO.ite ?_ ?_
      | refine LeO.bind ?_ (fun _ => ?_)
theorem courierlaw05_Theirs.mono : ∀ a0 k, LeO (courierlaw05_Theirs.f k a0) (courierlaw05_Theirs.f (k + 1) a0) := by
  intro a0 k
  obtain ⟨ih0, ih1, ih2, ih3, ih4⟩ := courierlaw05_Theirs.mono_l k
  exact ih0 a0
def courierlaw05_Theirs.T5 : Bool × List (List Nat × List Nat) := (true, [([], []), ([], []), ([0, 1], [0, 1]), ([2], [2]), ([3], [3]), ([], []), ([], []), ([5, 6], [5, 6]), ([7], [7]), ([8], [8]), ([], []), ([], []), ([10, 11], [10, 11]), ([12], [12]), ([13], [13]), ([], []), ([], []), ([15, 16], [15, 16]), ([17], [17]), ([18], [18]), ([19], [19]), ([4, 9, 14, 20], [4, 9, 14, 20]), ([], []), ([22, 21, 20, 0, 1, 2, 3, 4, 5, 6, 7, 8, 9, 10, 11, 12, 13, 14, 15, 16, 17, 18, 19, 20, 21, 22], [21, 22])])
def courierlaw05_Theirs.B5 : List Nat := [0, 0, 3, 7, 15, 0, 0, 96, 224, 480, 0, 0, 3072, 7168, 15360, 0, 0, 98304, 229376, 491520, 1015808, 2097151, 0, 8388607]
theorem courierlaw05_Theirs.tab5 : rtab .any (opsOf Tryz.f8 5) = courierlaw05_Theirs.T5 := by kernel_rfl
theorem courierlaw05_Theirs.bits5 : waitsOk courierlaw05_Theirs.T5.2 courierlaw05_Theirs.B5 = true := by kernel_rfl
def courierlaw05_Theirs.T9 : Bool × List (List Nat × List Nat) := (true, [([], []), ([0], [0]), ([], []), ([], []), ([2, 3], [2, 3]), ([4], [4]), ([5], [5]), ([], []), ([6, 7], [6, 7]), ([8], [8]), ([9], [9]), ([1, 10], [1, 10]), ([0, 1, 2, 3, 4, 5, 6, 7, 8, 9, 10, 11], []), ([12, 11, 11, 0, 1, 2, 3, 4, 5, 6, 7, 8, 9, 10, 11], [11, 12])])
def courierlaw05_Theirs.B9 : List Nat := [0, 1, 0, 0, 12, 28, 60, 0, 252, 508, 1020, 2047, 4095, 8191]
theorem courierlaw05_Theirs.tab9 : rtab .any (opsOf Tryz.f8 9) = courierlaw05_Theirs.T9 := by kernel_rfl
theorem courierlaw05_Theirs.bits9 : waitsOk courierlaw05_Theirs.T9.2 courierlaw05_Theirs.B9 = true := by kernel_rfl
def courierlaw05_Theirs.T14 : Bool × List (List Nat × List Nat) := (true, [([], []), ([0], [0]), ([], []), ([], []), ([2, 3], [2, 3]), ([4], [4]), ([5], [5]), ([], []), ([6, 7], [6, 7]), ([8], [8]), ([9], [9]), ([1, 10], [1, 10]), ([0, 1, 2, 3, 4, 5, 6, 7, 8, 9, 10, 11], []), ([12, 11, 11, 0, 1, 2, 3, 4, 5, 6, 7, 8, 9, 10, 11], [11, 12])])
def courierlaw05_Theirs.B14 : List Nat := [0, 1, 0, 0, 12, 28, 60, 0, 252, 508, 1020, 2047, 4095, 8191]
theorem courierlaw05_Theirs.tab14 : rtab .any (opsOf Tryz.f8 14) = courierlaw05_Theirs.T14 := by kernel_rfl
theorem courierlaw05_Theirs.bits14 : waitsOk courierlaw05_Theirs.T14.2 courierlaw05_Theirs.B14 = true := by kernel_rfl
def courierlaw05_Theirs.T19 : Bool × List (List Nat × List Nat) := (true, [([], []), ([0], [0]), ([], []), ([], []), ([2, 3], [2, 3]), ([4], [4]), ([5], [5]), ([], []), ([6, 7], [6, 7]), ([8], [8]), ([9], [9]), ([1, 10], [1, 10]), ([0, 1, 2, 3, 4, 5, 6, 7, 8, 9, 10, 11], []), ([12, 11, 11, 0, 1, 2, 3, 4, 5, 6, 7, 8, 9, 10, 11], [11, 12])])
def courierlaw05_Theirs.B19 : List Nat := [0, 1, 0, 0, 12, 28, 60, 0, 252, 508, 1020, 2047, 4095, 8191]
theorem courierlaw05_Theirs.tab19 : rtab .any (opsOf Tryz.f8 19) = courierlaw05_Theirs.T19 := by kernel_rfl
theorem courierlaw05_Theirs.bits19 : waitsOk courierlaw05_Theirs.T19.2 courierlaw05_Theirs.B19 = true := by kernel_rfl
set_option maxHeartbeats 8000000 in
set_option maxRecDepth 100000 in
theorem courierlaw05_Theirs.calls (k : Nat) : ∀ (A0 : Option Addr) (c0 : Nat) (l0 : List (S60)) (r : List (S41)) (w : World) (hr0 : Kd.C k60 w A0 l0.length l0) (hc0 : l0.length ≤ c0) (h : courierlaw05_Theirs.f k l0 = some r),
    Calls Tryz.prog 8 #[.slice A0 l0.length c0] w fun e w' => ∃ v0_ : Value, e = .returned (v0_) ∧ Kd.R k41 41 w' w.heap.size (fun _ => True) v0_ r ∧ Below w.heap.size w w' := by
  induction k using Nat.strongRecOn with
  | _ k ih =>
  intro A0 c0 l0 r w hr0 hc0 h
  cases k with
  | zero => exact absurd h (by simp [courierlaw05_Theirs.f])
  | succ k =>
  simp only [courierlaw05_Theirs.f] at h
  have hu34 := Tryz.underlying34
  have hu41 := Tryz.underlying41
  have hu63 := Tryz.underlying63
  have hu64 := Tryz.underlying64
  have hu67 := Tryz.underlying67
  have HR0 := Aside0.mk hr0
  have HC0 := Aside0.mk hc0
  clear hr0 hc0
  have HB := Aside0.mk (Below.refl w.heap.size w)
  have H : (courierlaw05_Theirs.l0 k l0 ([] : List (S41)) (l0.length : Int) 0) = some r := h
  clear h
  have H' := Aside0.mk H
  clear H
  go_enter Tryz.func8, Tryz.ntmps8
  go_wp2
  go_loopg [3, 11] k (fun kq v3 v11 w' => ∃ (x3_1 : List (S41)) (x11_1 : Int), v11 = .int .i64 x11_1 ∧ Aside0 (courierlaw05_Theirs.l0 kq l0 x3_1 (l0.length : Int) x11_1 = some r) ∧ Aside0 (kq ≤ k) ∧ Aside0 (Kd.R k41 41 w' w.heap.size (fun _ => True) v3 x3_1) ∧ Aside0 (Below w.heap.size w w'))
  case atStart => exact ⟨(([] : List (S41))), (0), (by first | rfl | (simp; done) | (simp [*]; done)), H', ⟨Nat.le_refl _⟩, ⟨by first | exact Kd.R_nil _ _ _ _ _ | exact Kd.N_nil _ _ _ _ _ | exact Kd.V_nil _ _ _ _ _ | exact Kd.Q_nil _ _ _ _ _ | exact Kd.S_nil _ _ _ _ _⟩, ⟨by repeat (first | (with_reducible first | exact HB.out | apply below_alloc | apply pw_below_drewN | apply below_drew1) | exact HB.out)⟩⟩
  case round =>
    clear H'
    obtain ⟨x3_1, x11_1, rfl, HA, HK1, HO_3, HB⟩ := hrel
    cases gk with
    | zero => exact absurd HA.out (by simp [courierlaw05_Theirs.l0])
    | succ k1 =>
      have H := HA.out
      clear HA
      simp only [courierlaw05_Theirs.l0] at H
      by_cases c2 : x11_1 < (l0.length : Int)
      · rw [if_pos c2] at H
        have c2b0 : decide (x11_1 < (l0.length : Int)) = true := decide_eq_true c2
        clear c2
        by_cases c3 : 0 ≤ x11_1
        · rw [if_pos c3] at H
          have c3b0 : decide (0 ≤ x11_1) = true := decide_eq_true c3
          clear c3
          by_cases c4 : x11_1 < (l0.length : Int)
          · rw [if_pos c4] at H
            have c4b0 : decide (x11_1 < (l0.length : Int)) = true := decide_eq_true c4
            clear c4
            replace H := Option.bind_eq_some_iff.mp H
            obtain ⟨t167, A50, H⟩ := H
            replace H : (courierlaw05_Theirs.l1 k1 l0 x3_1 x11_1 (l0.length : Int) x11_1 (((rd_T60 l0 x11_1).f3).length : Int) 0 ((rd_T60 l0 x11_1).f0) ((rd_T60 l0 x11_1).f1) ((rd_T60 l0 x11_1).f2.f0) ((rd_T60 l0 x11_1).f2.f1) ([] : List (S62)) t167) = some r := H
            have A5 := Aside0.mk A50
            clear A50
            have H' := Aside0.mk H
            clear H
            try go_wp2
            have n0_ := Aside0.mk (Kd.R_drew HO_3.out)
            have n1_ := Aside0.mk (below_drew1 HB.out)
            clear HO_3
            clear HB
            have HO_3 := n0_
            have HB := n1_
            clear n0_ n1_
            have p163 : 0 ≤ (x11_1 : Int) := of_decide_eq_true (by first | (with_reducible assumption) | assumption)
            have q163 : x11_1 < (l0.length : Int) := of_decide_eq_true (by first | (with_reducible assumption) | assumption)
            obtain ⟨ad163, A163_4, c163_4, A163_5, c163_5, A163_6, c163_6, A163_7, c163_7, e163, hx163_0, hx163_1, hx163_2, hx163_3, hx163_4, hx163_5, hx163_6, hx163_7, hl163_4, hi163_4, hl163_5, hi163_5, hl163_6, hi163_6, hl163_7, hi163_7⟩ := at_T60 HR0.out x11_1 p163 q163
            have hw163_7 := hx163_7
            have hw163_6 := hx163_6
            have hw163_5 := hx163_5
            have hw163_4 := hx163_4
            have hw163_3 := hx163_3
            have hw163_2 := hx163_2
            have hw163_1 := hx163_1
            have hw163_0 := hx163_0
            cases e163
            replace hx163_0 := (HB.out.cell (World.block_lt_of_cell? w _ hx163_0)).trans hx163_0
            replace hx163_1 := (HB.out.cell (World.block_lt_of_cell? w _ hx163_1)).trans hx163_1
            replace hx163_2 := (HB.out.cell (World.block_lt_of_cell? w _ hx163_2)).trans hx163_2
            replace hx163_3 := (HB.out.cell (World.block_lt_of_cell? w _ hx163_3)).trans hx163_3
            replace hx163_4 := (HB.out.cell (World.block_lt_of_cell? w _ hx163_4)).trans hx163_4
            replace hx163_5 := (HB.out.cell (World.block_lt_of_cell? w _ hx163_5)).trans hx163_5
            replace hx163_6 := (HB.out.cell (World.block_lt_of_cell? w _ hx163_6)).trans hx163_6
            replace hx163_7 := (HB.out.cell (World.block_lt_of_cell? w _ hx163_7)).trans hx163_7
            have HR163_4 := Aside0.mk hi163_4
            have HC163_4 := Aside0.mk hl163_4
            clear hi163_4 hl163_4
            have HR163_5 := Aside0.mk hi163_5
            have HC163_5 := Aside0.mk hl163_5
            clear hi163_5 hl163_5
            have HR163_6 := Aside0.mk hi163_6
            have HC163_6 := Aside0.mk hl163_6
            clear hi163_6 hl163_6
            have HR163_7 := Aside0.mk hi163_7
            have HC163_7 := Aside0.mk hl163_7
            clear hi163_7 hl163_7
            replace p163 := eq_true p163
            replace q163 := eq_true q163
            have p164 : 0 ≤ (x11_1 : Int) := of_decide_eq_true (by first | (with_reducible assumption) | assumption)
            have q164 : x11_1 < (l0.length : Int) := of_decide_eq_true (by first | (with_reducible assumption) | assumption)
            obtain ⟨ad164, A164_4, c164_4, A164_5, c164_5, A164_6, c164_6, A164_7, c164_7, e164, hx164_0, hx164_1, hx164_2, hx164_3, hx164_4, hx164_5, hx164_6, hx164_7, hl164_4, hi164_4, hl164_5, hi164_5, hl164_6, hi164_6, hl164_7, hi164_7⟩ := at_T60 HR0.out x11_1 p164 q164
            have hw164_7 := hx164_7
            have hw164_6 := hx164_6
            have hw164_5 := hx164_5
            have hw164_4 := hx164_4
            have hw164_3 := hx164_3
            have hw164_2 := hx164_2
            have hw164_1 := hx164_1
            have hw164_0 := hx164_0
            obtain rfl : ad163 = ad164 := (by injection e164)
            replace hx164_0 := (HB.out.cell (World.block_lt_of_cell? w _ hx164_0)).trans hx164_0
            replace hx164_1 := (HB.out.cell (World.block_lt_of_cell? w _ hx164_1)).trans hx164_1
            replace hx164_2 := (HB.out.cell (World.block_lt_of_cell? w _ hx164_2)).trans hx164_2
            replace hx164_3 := (HB.out.cell (World.block_lt_of_cell? w _ hx164_3)).trans hx164_3
            replace hx164_4 := (HB.out.cell (World.block_lt_of_cell? w _ hx164_4)).trans hx164_4
            replace hx164_5 := (HB.out.cell (World.block_lt_of_cell? w _ hx164_5)).trans hx164_5
            replace hx164_6 := (HB.out.cell (World.block_lt_of_cell? w _ hx164_6)).trans hx164_6
            replace hx164_7 := (HB.out.cell (World.block_lt_of_cell? w _ hx164_7)).trans hx164_7
            have HR164_4 := Aside0.mk hi164_4
            have HC164_4 := Aside0.mk hl164_4
            clear hi164_4 hl164_4
            have HR164_5 := Aside0.mk hi164_5
            have HC164_5 := Aside0.mk hl164_5
            clear hi164_5 hl164_5
            have HR164_6 := Aside0.mk hi164_6
            have HC164_6 := Aside0.mk hl164_6
            clear hi164_6 hl164_6
            have HR164_7 := Aside0.mk hi164_7
            have HC164_7 := Aside0.mk hl164_7
            clear hi164_7 hl164_7
            replace p164 := eq_true p164
            replace q164 := eq_true q164
            have ea_ := Option.some.inj (hx163_4.symm.trans hx164_4)
            injection ea_ with ea_ en_ ec_
            subst ea_
            subst ec_
            clear en_
            have ea_ := Option.some.inj (hx163_5.symm.trans hx164_5)
            injection ea_ with ea_ en_ ec_
            subst ea_
            subst ec_
            clear en_
            have ea_ := Option.some.inj (hx163_6.symm.trans hx164_6)
            injection ea_ with ea_ en_ ec_
            subst ea_
            subst ec_
            clear en_
            have ea_ := Option.some.inj (hx163_7.symm.trans hx164_7)
            injection ea_ with ea_ en_ ec_
            subst ea_
            subst ec_
            clear en_
            have p165 : 0 ≤ (x11_1 : Int) := of_decide_eq_true (by first | (with_reducible assumption) | assumption)
            have q165 : x11_1 < (l0.length : Int) := of_decide_eq_true (by first | (with_reducible assumption) | assumption)
            obtain ⟨ad165, A165_4, c165_4, A165_5, c165_5, A165_6, c165_6, A165_7, c165_7, e165, hx165_0, hx165_1, hx165_2, hx165_3, hx165_4, hx165_5, hx165_6, hx165_7, hl165_4, hi165_4, hl165_5, hi165_5, hl165_6, hi165_6, hl165_7, hi165_7⟩ := at_T60 HR0.out x11_1 p165 q165
            have hw165_7 := hx165_7
            have hw165_6 := hx165_6
            have hw165_5 := hx165_5
            have hw165_4 := hx165_4
            have hw165_3 := hx165_3
            have hw165_2 := hx165_2
            have hw165_1 := hx165_1
            have hw165_0 := hx165_0
            obtain rfl : ad163 = ad165 := (by injection e165)
            replace hx165_0 := (HB.out.cell (World.block_lt_of_cell? w _ hx165_0)).trans hx165_0
            replace hx165_1 := (HB.out.cell (World.block_lt_of_cell? w _ hx165_1)).trans hx165_1
            replace hx165_2 := (HB.out.cell (World.block_lt_of_cell? w _ hx165_2)).trans hx165_2
            replace hx165_3 := (HB.out.cell (World.block_lt_of_cell? w _ hx165_3)).trans hx165_3
            replace hx165_4 := (HB.out.cell (World.block_lt_of_cell? w _ hx165_4)).trans hx165_4
            replace hx165_5 := (HB.out.cell (World.block_lt_of_cell? w _ hx165_5)).trans hx165_5
            replace hx165_6 := (HB.out.cell (World.block_lt_of_cell? w _ hx165_6)).trans hx165_6
            replace hx165_7 := (HB.out.cell (World.block_lt_of_cell? w _ hx165_7)).trans hx165_7
            have HR165_4 := Aside0.mk hi165_4
            have HC165_4 := Aside0.mk hl165_4
            clear hi165_4 hl165_4
            have HR165_5 := Aside0.mk hi165_5
            have HC165_5 := Aside0.mk hl165_5
            clear hi165_5 hl165_5
            have HR165_6 := Aside0.mk hi165_6
            have HC165_6 := Aside0.mk hl165_6
            clear hi165_6 hl165_6
            have HR165_7 := Aside0.mk hi165_7
            have HC165_7 := Aside0.mk hl165_7
            clear hi165_7 hl165_7
            replace p165 := eq_true p165
            replace q165 := eq_true q165
            have ea_ := Option.some.inj (hx163_4.symm.trans hx165_4)
            injection ea_ with ea_ en_ ec_
            subst ea_
            subst ec_
            clear en_
            have ea_ := Option.some.inj (hx163_5.symm.trans hx165_5)
            injection ea_ with ea_ en_ ec_
            subst ea_
            subst ec_
            clear en_
            have ea_ := Option.some.inj (hx163_6.symm.trans hx165_6)
            injection ea_ with ea_ en_ ec_
            subst ea_
            subst ec_
            clear en_
            have ea_ := Option.some.inj (hx163_7.symm.trans hx165_7)
            injection ea_ with ea_ en_ ec_
            subst ea_
            subst ec_
            clear en_
            have p166 : 0 ≤ (x11_1 : Int) := of_decide_eq_true (by first | (with_reducible assumption) | assumption)
            have q166 : x11_1 < (l0.length : Int) := of_decide_eq_true (by first | (with_reducible assumption) | assumption)
            obtain ⟨ad166, A166_4, c166_4, A166_5, c166_5, A166_6, c166_6, A166_7, c166_7, e166, hx166_0, hx166_1, hx166_2, hx166_3, hx166_4, hx166_5, hx166_6, hx166_7, hl166_4, hi166_4, hl166_5, hi166_5, hl166_6, hi166_6, hl166_7, hi166_7⟩ := at_T60 HR0.out x11_1 p166 q166
            have hw166_7 := hx166_7
            have hw166_6 := hx166_6
            have hw166_5 := hx166_5
            have hw166_4 := hx166_4
            have hw166_3 := hx166_3
            have hw166_2 := hx166_2
            have hw166_1 := hx166_1
            have hw166_0 := hx166_0
            obtain rfl : ad163 = ad166 := (by injection e166)
            replace hx166_0 := (HB.out.cell (World.block_lt_of_cell? w _ hx166_0)).trans hx166_0
            replace hx166_1 := (HB.out.cell (World.block_lt_of_cell? w _ hx166_1)).trans hx166_1
            replace hx166_2 := (HB.out.cell (World.block_lt_of_cell? w _ hx166_2)).trans hx166_2
            replace hx166_3 := (HB.out.cell (World.block_lt_of_cell? w _ hx166_3)).trans hx166_3
            replace hx166_4 := (HB.out.cell (World.block_lt_of_cell? w _ hx166_4)).trans hx166_4
            replace hx166_5 := (HB.out.cell (World.block_lt_of_cell? w _ hx166_5)).trans hx166_5
            replace hx166_6 := (HB.out.cell (World.block_lt_of_cell? w _ hx166_6)).trans hx166_6
            replace hx166_7 := (HB.out.cell (World.block_lt_of_cell? w _ hx166_7)).trans hx166_7
            have HR166_4 := Aside0.mk hi166_4
            have HC166_4 := Aside0.mk hl166_4
            clear hi166_4 hl166_4
            have HR166_5 := Aside0.mk hi166_5
            have HC166_5 := Aside0.mk hl166_5
            clear hi166_5 hl166_5
            have HR166_6 := Aside0.mk hi166_6
            have HC166_6 := Aside0.mk hl166_6
            clear hi166_6 hl166_6
            have HR166_7 := Aside0.mk hi166_7
            have HC166_7 := Aside0.mk hl166_7
            clear hi166_7 hl166_7
            replace p166 := eq_true p166
            replace q166 := eq_true q166
            have ea_ := Option.some.inj (hx163_4.symm.trans hx166_4)
            injection ea_ with ea_ en_ ec_
            subst ea_
            subst ec_
            clear en_
            have ea_ := Option.some.inj (hx163_5.symm.trans hx166_5)
            injection ea_ with ea_ en_ ec_
            subst ea_
            subst ec_
            clear en_
            have ea_ := Option.some.inj (hx163_6.symm.trans hx166_6)
            injection ea_ with ea_ en_ ec_
            subst ea_
            subst ec_
            clear en_
            have ea_ := Option.some.inj (hx163_7.symm.trans hx166_7)
            injection ea_ with ea_ en_ ec_
            subst ea_
            subst ec_
            clear en_
            refine start_ (n := 24) (S := fun w' => w'.cell? (ad163.add ((x11_1).toNat * 8)) = some (.int .i64 ((rd_T60 l0 x11_1).f0)) ∧ w'.cell? ⟨(ad163.add ((x11_1).toNat * 8)).block, (ad163.add ((x11_1).toNat * 8)).off + 1, none⟩ = some (.string ((rd_T60 l0 x11_1).f1)) ∧ w'.cell? ⟨(ad163.add ((x11_1).toNat * 8)).block, (ad163.add ((x11_1).toNat * 8)).off + 2, none⟩ = some (.int .i64 ((rd_T60 l0 x11_1).f2.f0)) ∧ w'.cell? ⟨(ad163.add ((x11_1).toNat * 8)).block, (ad163.add ((x11_1).toNat * 8)).off + 3, none⟩ = some (.int .i64 ((rd_T60 l0 x11_1).f2.f1)) ∧ w'.cell? ⟨(ad163.add ((x11_1).toNat * 8)).block, (ad163.add ((x11_1).toNat * 8)).off + 4, none⟩ = some (.slice A163_4 ((rd_T60 l0 x11_1).f3).length c163_4) ∧ w'.cell? ⟨(ad163.add ((x11_1).toNat * 8)).block, (ad163.add ((x11_1).toNat * 8)).off + 5, none⟩ = some (.slice A163_5 ((rd_T60 l0 x11_1).f4).length c163_5) ∧ w'.cell? ⟨(ad163.add ((x11_1).toNat * 8)).block, (ad163.add ((x11_1).toNat * 8)).off + 6, none⟩ = some (.slice A163_6 ((rd_T60 l0 x11_1).f5).length c163_6) ∧ w'.cell? ⟨(ad163.add ((x11_1).toNat * 8)).block, (ad163.add ((x11_1).toNat * 8)).off + 7, none⟩ = some (.slice A163_7 ((rd_T60 l0 x11_1).f6).length c163_7) ∧ w'.cell? (ad163.add ((x11_1).toNat * 8)) = some (.int .i64 ((rd_T60 l0 x11_1).f0)) ∧ w'.cell? ⟨(ad163.add ((x11_1).toNat * 8)).block, (ad163.add ((x11_1).toNat * 8)).off + 1, none⟩ = some (.string ((rd_T60 l0 x11_1).f1)) ∧ w'.cell? ⟨(ad163.add ((x11_1).toNat * 8)).block, (ad163.add ((x11_1).toNat * 8)).off + 2, none⟩ = some (.int .i64 ((rd_T60 l0 x11_1).f2.f0)) ∧ w'.cell? ⟨(ad163.add ((x11_1).toNat * 8)).block, (ad163.add ((x11_1).toNat * 8)).off + 3, none⟩ = some (.int .i64 ((rd_T60 l0 x11_1).f2.f1)) ∧ w'.cell? ⟨(ad163.add ((x11_1).toNat * 8)).block, (ad163.add ((x11_1).toNat * 8)).off + 4, none⟩ = some (.slice A163_4 ((rd_T60 l0 x11_1).f3).length c163_4) ∧ w'.cell? ⟨(ad163.add ((x11_1).toNat * 8)).block, (ad163.add ((x11_1).toNat * 8)).off + 5, none⟩ = some (.slice A163_5 ((rd_T60 l0 x11_1).f4).length c163_5) ∧ w'.cell? ⟨(ad163.add ((x11_1).toNat * 8)).block, (ad163.add ((x11_1).toNat * 8)).off + 6, none⟩ = some (.slice A163_6 ((rd_T60 l0 x11_1).f5).length c163_6) ∧ w'.cell? ⟨(ad163.add ((x11_1).toNat * 8)).block, (ad163.add ((x11_1).toNat * 8)).off + 7, none⟩ = some (.slice A163_7 ((rd_T60 l0 x11_1).f6).length c163_7) ∧ w'.cell? (ad163.add ((x11_1).toNat * 8)) = some (.int .i64 ((rd_T60 l0 x11_1).f0)) ∧ w'.cell? ⟨(ad163.add ((x11_1).toNat * 8)).block, (ad163.add ((x11_1).toNat * 8)).off + 1, none⟩ = some (.string ((rd_T60 l0 x11_1).f1)) ∧ w'.cell? ⟨(ad163.add ((x11_1).toNat * 8)).block, (ad163.add ((x11_1).toNat * 8)).off + 2, none⟩ = some (.int .i64 ((rd_T60 l0 x11_1).f2.f0)) ∧ w'.cell? ⟨(ad163.add ((x11_1).toNat * 8)).block, (ad163.add ((x11_1).toNat * 8)).off + 3, none⟩ = some (.int .i64 ((rd_T60 l0 x11_1).f2.f1)) ∧ w'.cell? ⟨(ad163.add ((x11_1).toNat * 8)).block, (ad163.add ((x11_1).toNat * 8)).off + 4, none⟩ = some (.slice A163_4 ((rd_T60 l0 x11_1).f3).length c163_4) ∧ w'.cell? ⟨(ad163.add ((x11_1).toNat * 8)).block, (ad163.add ((x11_1).toNat * 8)).off + 5, none⟩ = some (.slice A163_5 ((rd_T60 l0 x11_1).f4).length c163_5) ∧ w'.cell? ⟨(ad163.add ((x11_1).toNat * 8)).block, (ad163.add ((x11_1).toNat * 8)).off + 6, none⟩ = some (.slice A163_6 ((rd_T60 l0 x11_1).f5).length c163_6) ∧ w'.cell? ⟨(ad163.add ((x11_1).toNat * 8)).block, (ad163.add ((x11_1).toNat * 8)).off + 7, none⟩ = some (.slice A163_7 ((rd_T60 l0 x11_1).f6).length c163_7) ∧ w'.cell? (ad163.add ((x11_1).toNat * 8)) = some (.int .i64 ((rd_T60 l0 x11_1).f0)) ∧ w'.cell? ⟨(ad163.add ((x11_1).toNat * 8)).block, (ad163.add ((x11_1).toNat * 8)).off + 1, none⟩ = some (.string ((rd_T60 l0 x11_1).f1)) ∧ w'.cell? ⟨(ad163.add ((x11_1).toNat * 8)).block, (ad163.add ((x11_1).toNat * 8)).off + 2, none⟩ = some (.int .i64 ((rd_T60 l0 x11_1).f2.f0)) ∧ w'.cell? ⟨(ad163.add ((x11_1).toNat * 8)).block, (ad163.add ((x11_1).toNat * 8)).off + 3, none⟩ = some (.int .i64 ((rd_T60 l0 x11_1).f2.f1)) ∧ w'.cell? ⟨(ad163.add ((x11_1).toNat * 8)).block, (ad163.add ((x11_1).toNat * 8)).off + 4, none⟩ = some (.slice A163_4 ((rd_T60 l0 x11_1).f3).length c163_4) ∧ w'.cell? ⟨(ad163.add ((x11_1).toNat * 8)).block, (ad163.add ((x11_1).toNat * 8)).off + 5, none⟩ = some (.slice A163_5 ((rd_T60 l0 x11_1).f4).length c163_5) ∧ w'.cell? ⟨(ad163.add ((x11_1).toNat * 8)).block, (ad163.add ((x11_1).toNat * 8)).off + 6, none⟩ = some (.slice A163_6 ((rd_T60 l0 x11_1).f5).length c163_6) ∧ w'.cell? ⟨(ad163.add ((x11_1).toNat * 8)).block, (ad163.add ((x11_1).toNat * 8)).off + 7, none⟩ = some (.slice A163_7 ((rd_T60 l0 x11_1).f6).length c163_7)) (ds := []) #[false, false, false, false, false, false, false, false, false, false, false, false, false, false, false, false, false, false, false, false, false, false, false, false] (by kernel_rfl) rfl rfl ⟨((HB.out.cell (World.block_lt_of_cell? w _ hw163_0)).trans hw163_0), ((HB.out.cell (World.block_lt_of_cell? w _ hw163_1)).trans hw163_1), ((HB.out.cell (World.block_lt_of_cell? w _ hw163_2)).trans hw163_2), ((HB.out.cell (World.block_lt_of_cell? w _ hw163_3)).trans hw163_3), ((HB.out.cell (World.block_lt_of_cell? w _ hw163_4)).trans hw163_4), ((HB.out.cell (World.block_lt_of_cell? w _ hw163_5)).trans hw163_5), ((HB.out.cell (World.block_lt_of_cell? w _ hw163_6)).trans hw163_6), ((HB.out.cell (World.block_lt_of_cell? w _ hw163_7)).trans hw163_7), ((HB.out.cell (World.block_lt_of_cell? w _ hw164_0)).trans hw164_0), ((HB.out.cell (World.block_lt_of_cell? w _ hw164_1)).trans hw164_1), ((HB.out.cell (World.block_lt_of_cell? w _ hw164_2)).trans hw164_2), ((HB.out.cell (World.block_lt_of_cell? w _ hw164_3)).trans hw164_3), ((HB.out.cell (World.block_lt_of_cell? w _ hw164_4)).trans hw164_4), ((HB.out.cell (World.block_lt_of_cell? w _ hw164_5)).trans hw164_5), ((HB.out.cell (World.block_lt_of_cell? w _ hw164_6)).trans hw164_6), ((HB.out.cell (World.block_lt_of_cell? w _ hw164_7)).trans hw164_7), ((HB.out.cell (World.block_lt_of_cell? w _ hw165_0)).trans hw165_0), ((HB.out.cell (World.block_lt_of_cell? w _ hw165_1)).trans hw165_1), ((HB.out.cell (World.block_lt_of_cell? w _ hw165_2)).trans hw165_2), ((HB.out.cell (World.block_lt_of_cell? w _ hw165_3)).trans hw165_3), ((HB.out.cell (World.block_lt_of_cell? w _ hw165_4)).trans hw165_4), ((HB.out.cell (World.block_lt_of_cell? w _ hw165_5)).trans hw165_5), ((HB.out.cell (World.block_lt_of_cell? w _ hw165_6)).trans hw165_6), ((HB.out.cell (World.block_lt_of_cell? w _ hw165_7)).trans hw165_7), ((HB.out.cell (World.block_lt_of_cell? w _ hw166_0)).trans hw166_0), ((HB.out.cell (World.block_lt_of_cell? w _ hw166_1)).trans hw166_1), ((HB.out.cell (World.block_lt_of_cell? w _ hw166_2)).trans hw166_2), ((HB.out.cell (World.block_lt_of_cell? w _ hw166_3)).trans hw166_3), ((HB.out.cell (World.block_lt_of_cell? w _ hw166_4)).trans hw166_4), ((HB.out.cell (World.block_lt_of_cell? w _ hw166_5)).trans hw166_5), ((HB.out.cell (World.block_lt_of_cell? w _ hw166_6)).trans hw166_6), ((HB.out.cell (World.block_lt_of_cell? w _ hw166_7)).trans hw166_7)⟩ (fun hHeld => ?_); refine with_tabW courierlaw05_Theirs.tab5 courierlaw05_Theirs.bits5 (fun HT_ HW_ => ?_)
            generalize wr.drew = w6 at HO_3 HB HR163_4 HR163_5 HR163_6 HR163_7 HR164_4 HR164_5 HR164_6 HR164_7 HR165_4 HR165_5 HR165_6 HR165_7 HR166_4 HR166_5 HR166_6 HR166_7 hx163_0 hx163_1 hx163_2 hx163_3 hx163_4 hx163_5 hx163_6 hx163_7 hx164_0 hx164_1 hx164_2 hx164_3 hx164_4 hx164_5 hx164_6 hx164_7 hx165_0 hx165_1 hx165_2 hx165_3 hx165_4 hx165_5 hx165_6 hx165_7 hx166_0 hx166_1 hx166_2 hx166_3 hx166_4 hx166_5 hx166_6 hx166_7 hHeld ⊢
            refine pure_ (i := 0) (N := some 14) (v := ?_) (a' := ?_) #[true, false, false, false, false, false, false, false, false, false, false, false, false, false, false, false, false, false, false, false, false, false, false, false] rfl rfl (any_of HT_.out (by kernel_rfl)) (fun _ _ _ h => h) (Or.inl ⟨by rfl, ?_⟩) ?_ ?_
            rotate_left
            · intro w'
              go_simp
              with_reducible rfl
            rotate_left
            · simp only [Act.put, List.setIfInBounds_toArray, List.set_cons_zero, List.set_cons_succ, i64_w, i32_w]
              rfl
            refine pure_ (i := 1) (N := some 15) (v := ?_) (a' := ?_) #[true, true, false, false, false, false, false, false, false, false, false, false, false, false, false, false, false, false, false, false, false, false, false, false] rfl rfl (any_of HT_.out (by kernel_rfl)) (fun _ _ _ h => h) (Or.inl ⟨by rfl, ?_⟩) ?_ ?_
            rotate_left
            · intro w'
              go_simp
              with_reducible rfl
            rotate_left
            · simp only [Act.put, List.setIfInBounds_toArray, List.set_cons_zero, List.set_cons_succ, i64_w, i32_w]
              rfl
            refine pure_ (i := 2) (N := some 16) (v := ?_) (a' := ?_) #[true, true, true, false, false, false, false, false, false, false, false, false, false, false, false, false, false, false, false, false, false, false, false, false] rfl rfl (any_of HT_.out (by kernel_rfl)) (fun _ _ _ h => h) (Or.inl ⟨by rfl, ?_⟩) ?_ ?_
            rotate_left
            · intro w'
              go_simp
              with_reducible rfl
            rotate_left
            · simp only [Act.put, List.setIfInBounds_toArray, List.set_cons_zero, List.set_cons_succ, i64_w, i32_w]
              rfl
            refine pure_ (i := 3) (N := some 17) (v := ?_) (a' := ?_) #[true, true, true, true, false, false, false, false, false, false, false, false, false, false, false, false, false, false, false, false, false, false, false, false] rfl rfl (any_of HT_.out (by kernel_rfl)) (fun _ _ _ h => h) (Or.inl ⟨by rfl, ?_⟩) ?_ ?_
            rotate_left
            · intro w'
              go_simp
              with_reducible rfl
            rotate_left
            · simp only [Act.put, List.setIfInBounds_toArray, List.set_cons_zero, List.set_cons_succ, i64_w, i32_w]
              rfl
            refine pure_ (i := 5) (N := some 19) (v := ?_) (a' := ?_) #[true, true, true, true, false, true, false, false, false, false, false, false, false, false, false, false, false, false, false, false, false, false, false, false] rfl rfl (any_of HT_.out (by kernel_rfl)) (fun _ _ _ h => h) (Or.inl ⟨by rfl, ?_⟩) ?_ ?_
            rotate_left
            · intro w'
              go_simp
              with_reducible rfl
            rotate_left
            · simp only [Act.put, List.setIfInBounds_toArray, List.set_cons_zero, List.set_cons_succ, i64_w, i32_w]
              rfl
            refine pure_ (i := 6) (N := some 20) (v := ?_) (a' := ?_) #[true, true, true, true, false, true, true, false, false, false, false, false, false, false, false, false, false, false, false, false, false, false, false, false] rfl rfl (any_of HT_.out (by kernel_rfl)) (fun _ _ _ h => h) (Or.inl ⟨by rfl, ?_⟩) ?_ ?_
            rotate_left
            · intro w'
              go_simp
              with_reducible rfl
            rotate_left
            · simp only [Act.put, List.setIfInBounds_toArray, List.set_cons_zero, List.set_cons_succ, i64_w, i32_w]
              rfl
            refine pure_ (i := 7) (N := some 21) (v := ?_) (a' := ?_) #[true, true, true, true, false, true, true, true, false, false, false, false, false, false, false, false, false, false, false, false, false, false, false, false] rfl rfl (any_of HT_.out (by kernel_rfl)) (fun _ _ _ h => h) (Or.inl ⟨by rfl, ?_⟩) ?_ ?_
            rotate_left
            · intro w'
              go_simp
              with_reducible rfl
            rotate_left
            · simp only [Act.put, List.setIfInBounds_toArray, List.set_cons_zero, List.set_cons_succ, i64_w, i32_w]
              rfl
            refine pure_ (i := 8) (N := some 22) (v := ?_) (a' := ?_) #[true, true, true, true, false, true, true, true, true, false, false, false, false, false, false, false, false, false, false, false, false, false, false, false] rfl rfl (any_of HT_.out (by kernel_rfl)) (fun _ _ _ h => h) (Or.inl ⟨by rfl, ?_⟩) ?_ ?_
            rotate_left
            · intro w'
              go_simp
              with_reducible rfl
            rotate_left
            · simp only [Act.put, List.setIfInBounds_toArray, List.set_cons_zero, List.set_cons_succ, i64_w, i32_w]
              rfl
            refine pure_ (i := 10) (N := some 24) (v := ?_) (a' := ?_) #[true, true, true, true, false, true, true, true, true, false, true, false, false, false, false, false, false, false, false, false, false, false, false, false] rfl rfl (any_of HT_.out (by kernel_rfl)) (fun _ _ _ h => h) (Or.inl ⟨by rfl, ?_⟩) ?_ ?_
            rotate_left
            · intro w'
              go_simp
              with_reducible rfl
            rotate_left
            · simp only [Act.put, List.setIfInBounds_toArray, List.set_cons_zero, List.set_cons_succ, i64_w, i32_w]
              rfl
            refine pure_ (i := 11) (N := some 25) (v := ?_) (a' := ?_) #[true, true, true, true, false, true, true, true, true, false, true, true, false, false, false, false, false, false, false, false, false, false, false, false] rfl rfl (any_of HT_.out (by kernel_rfl)) (fun _ _ _ h => h) (Or.inl ⟨by rfl, ?_⟩) ?_ ?_
            rotate_left
            · intro w'
              go_simp
              with_reducible rfl
            rotate_left
            · simp only [Act.put, List.setIfInBounds_toArray, List.set_cons_zero, List.set_cons_succ, i64_w, i32_w]
              rfl
            refine pure_ (i := 12) (N := some 26) (v := ?_) (a' := ?_) #[true, true, true, true, false, true, true, true, true, false, true, true, true, false, false, false, false, false, false, false, false, false, false, false] rfl rfl (any_of HT_.out (by kernel_rfl)) (fun _ _ _ h => h) (Or.inl ⟨by rfl, ?_⟩) ?_ ?_
            rotate_left
            · intro w'
              go_simp
              with_reducible rfl
            rotate_left
            · simp only [Act.put, List.setIfInBounds_toArray, List.set_cons_zero, List.set_cons_succ, i64_w, i32_w]
              rfl
            refine pure_ (i := 13) (N := some 27) (v := ?_) (a' := ?_) #[true, true, true, true, false, true, true, true, true, false, true, true, true, true, false, false, false, false, false, false, false, false, false, false] rfl rfl (any_of HT_.out (by kernel_rfl)) (fun _ _ _ h => h) (Or.inl ⟨by rfl, ?_⟩) ?_ ?_
            rotate_left
            · intro w'
              go_simp
              with_reducible rfl
            rotate_left
            · simp only [Act.put, List.setIfInBounds_toArray, List.set_cons_zero, List.set_cons_succ, i64_w, i32_w]
              rfl
            refine pure_ (i := 15) (N := some 29) (v := ?_) (a' := ?_) #[true, true, true, true, false, true, true, true, true, false, true, true, true, true, false, true, false, false, false, false, false, false, false, false] rfl rfl (any_of HT_.out (by kernel_rfl)) (fun _ _ _ h => h) (Or.inl ⟨by rfl, ?_⟩) ?_ ?_
            rotate_left
            · intro w'
              go_simp
              with_reducible rfl
            rotate_left
            · simp only [Act.put, List.setIfInBounds_toArray, List.set_cons_zero, List.set_cons_succ, i64_w, i32_w]
              rfl
            refine pure_ (i := 16) (N := some 30) (v := ?_) (a' := ?_) #[true, true, true, true, false, true, true, true, true, false, true, true, true, true, false, true, true, false, false, false, false, false, false, false] rfl rfl (any_of HT_.out (by kernel_rfl)) (fun _ _ _ h => h) (Or.inl ⟨by rfl, ?_⟩) ?_ ?_
            rotate_left
            · intro w'
              go_simp
              with_reducible rfl
            rotate_left
            · simp only [Act.put, List.setIfInBounds_toArray, List.set_cons_zero, List.set_cons_succ, i64_w, i32_w]
              rfl
            refine pure_ (i := 17) (N := some 31) (v := ?_) (a' := ?_) #[true, true, true, true, false, true, true, true, true, false, true, true, true, true, false, true, true, true, false, false, false, false, false, false] rfl rfl (any_of HT_.out (by kernel_rfl)) (fun _ _ _ h => h) (Or.inl ⟨by rfl, ?_⟩) ?_ ?_
            rotate_left
            · intro w'
              go_simp
              with_reducible rfl
            rotate_left
            · simp only [Act.put, List.setIfInBounds_toArray, List.set_cons_zero, List.set_cons_succ, i64_w, i32_w]
              rfl
            refine pure_ (i := 18) (N := some 32) (v := ?_) (a' := ?_) #[true, true, true, true, false, true, true, true, true, false, true, true, true, true, false, true, true, true, true, false, false, false, false, false] rfl rfl (any_of HT_.out (by kernel_rfl)) (fun _ _ _ h => h) (Or.inl ⟨by rfl, ?_⟩) ?_ ?_
            rotate_left
            · intro w'
              go_simp
              with_reducible rfl
            rotate_left
            · simp only [Act.put, List.setIfInBounds_toArray, List.set_cons_zero, List.set_cons_succ, i64_w, i32_w]
              rfl
            refine take_ (i := 4) (N := some 18) (v := ?_) (a' := ?_) #[true, true, true, true, true, true, true, true, true, false, true, true, true, true, false, true, true, true, true, false, false, false, false, false] rfl rfl (take_ofW HT_.out HW_.out (by kernel_rfl)) (fun _ _ _ h => h) (Or.inl ⟨by rfl, ?_⟩) hHeld ?_ ?_
            rotate_left
            · rintro w' ⟨s0, s1, s2, s3, s4, s5, s6, s7, s8, s9, s10, s11, s12, s13, s14, s15, s16, s17, s18, s19, s20, s21, s22, s23, s24, s25, s26, s27, s28, s29, s30, s31⟩
              go_simp
              with_reducible rfl
            rotate_left
            · simp only [Act.put, List.setIfInBounds_toArray, List.set_cons_zero, List.set_cons_succ, i64_w, i32_w]
              rfl
            refine take_ (i := 9) (N := some 23) (v := ?_) (a' := ?_) #[true, true, true, true, true, true, true, true, true, true, true, true, true, true, false, true, true, true, true, false, false, false, false, false] rfl rfl (take_ofW HT_.out HW_.out (by kernel_rfl)) (fun _ _ _ h => h) (Or.inl ⟨by rfl, ?_⟩) hHeld ?_ ?_
            rotate_left
            · rintro w' ⟨s0, s1, s2, s3, s4, s5, s6, s7, s8, s9, s10, s11, s12, s13, s14, s15, s16, s17, s18, s19, s20, s21, s22, s23, s24, s25, s26, s27, s28, s29, s30, s31⟩
              go_simp
              with_reducible rfl
            rotate_left
            · simp only [Act.put, List.setIfInBounds_toArray, List.set_cons_zero, List.set_cons_succ, i64_w, i32_w]
              rfl
            refine take_ (i := 14) (N := some 28) (v := ?_) (a' := ?_) #[true, true, true, true, true, true, true, true, true, true, true, true, true, true, true, true, true, true, true, false, false, false, false, false] rfl rfl (take_ofW HT_.out HW_.out (by kernel_rfl)) (fun _ _ _ h => h) (Or.inl ⟨by rfl, ?_⟩) hHeld ?_ ?_
            rotate_left
            · rintro w' ⟨s0, s1, s2, s3, s4, s5, s6, s7, s8, s9, s10, s11, s12, s13, s14, s15, s16, s17, s18, s19, s20, s21, s22, s23, s24, s25, s26, s27, s28, s29, s30, s31⟩
              go_simp
              with_reducible rfl
            rotate_left
            · simp only [Act.put, List.setIfInBounds_toArray, List.set_cons_zero, List.set_cons_succ, i64_w, i32_w]
              rfl
            refine take_ (i := 19) (N := some 33) (v := ?_) (a' := ?_) #[true, true, true, true, true, true, true, true, true, true, true, true, true, true, true, true, true, true, true, true, false, false, false, false] rfl rfl (take_ofW HT_.out HW_.out (by kernel_rfl)) (fun _ _ _ h => h) (Or.inl ⟨by rfl, ?_⟩) hHeld ?_ ?_
            rotate_left
            · rintro w' ⟨s0, s1, s2, s3, s4, s5, s6, s7, s8, s9, s10, s11, s12, s13, s14, s15, s16, s17, s18, s19, s20, s21, s22, s23, s24, s25, s26, s27, s28, s29, s30, s31⟩
              go_simp
              with_reducible rfl
            rotate_left
            · simp only [Act.put, List.setIfInBounds_toArray, List.set_cons_zero, List.set_cons_succ, i64_w, i32_w]
              rfl
            refine join_ (σ := Value × Nat) 1 #[true, true, true, true, true, true, true, true, true, true, true, true, true, true, true, true, true, true, true, true, true, true, true, false] (fun s_ => [(34, s_.1), (5, .pointer (some ⟨s_.2, 0, none⟩)), (35, .agg #[.int .i64 ((rd_T60 l0 x11_1).f0), .string ((rd_T60 l0 x11_1).f1), .int .i64 ((rd_T60 l0 x11_1).f2.f0), .int .i64 ((rd_T60 l0 x11_1).f2.f1), .slice none 0 0, .slice none 0 0, .slice none 0 0, s_.1])]) (fun s_ w' => (w'.cell? (ad163.add ((x11_1).toNat * 8)) = some (.int .i64 ((rd_T60 l0 x11_1).f0)) ∧ w'.cell? ⟨(ad163.add ((x11_1).toNat * 8)).block, (ad163.add ((x11_1).toNat * 8)).off + 1, none⟩ = some (.string ((rd_T60 l0 x11_1).f1)) ∧ w'.cell? ⟨(ad163.add ((x11_1).toNat * 8)).block, (ad163.add ((x11_1).toNat * 8)).off + 2, none⟩ = some (.int .i64 ((rd_T60 l0 x11_1).f2.f0)) ∧ w'.cell? ⟨(ad163.add ((x11_1).toNat * 8)).block, (ad163.add ((x11_1).toNat * 8)).off + 3, none⟩ = some (.int .i64 ((rd_T60 l0 x11_1).f2.f1)) ∧ w'.cell? ⟨(ad163.add ((x11_1).toNat * 8)).block, (ad163.add ((x11_1).toNat * 8)).off + 4, none⟩ = some (.slice A163_4 ((rd_T60 l0 x11_1).f3).length c163_4) ∧ w'.cell? ⟨(ad163.add ((x11_1).toNat * 8)).block, (ad163.add ((x11_1).toNat * 8)).off + 5, none⟩ = some (.slice A163_5 ((rd_T60 l0 x11_1).f4).length c163_5) ∧ w'.cell? ⟨(ad163.add ((x11_1).toNat * 8)).block, (ad163.add ((x11_1).toNat * 8)).off + 6, none⟩ = some (.slice A163_6 ((rd_T60 l0 x11_1).f5).length c163_6) ∧ w'.cell? ⟨(ad163.add ((x11_1).toNat * 8)).block, (ad163.add ((x11_1).toNat * 8)).off + 7, none⟩ = some (.slice A163_7 ((rd_T60 l0 x11_1).f6).length c163_7) ∧ w'.cell? (ad163.add ((x11_1).toNat * 8)) = some (.int .i64 ((rd_T60 l0 x11_1).f0)) ∧ w'.cell? ⟨(ad163.add ((x11_1).toNat * 8)).block, (ad163.add ((x11_1).toNat * 8)).off + 1, none⟩ = some (.string ((rd_T60 l0 x11_1).f1)) ∧ w'.cell? ⟨(ad163.add ((x11_1).toNat * 8)).block, (ad163.add ((x11_1).toNat * 8)).off + 2, none⟩ = some (.int .i64 ((rd_T60 l0 x11_1).f2.f0)) ∧ w'.cell? ⟨(ad163.add ((x11_1).toNat * 8)).block, (ad163.add ((x11_1).toNat * 8)).off + 3, none⟩ = some (.int .i64 ((rd_T60 l0 x11_1).f2.f1)) ∧ w'.cell? ⟨(ad163.add ((x11_1).toNat * 8)).block, (ad163.add ((x11_1).toNat * 8)).off + 4, none⟩ = some (.slice A163_4 ((rd_T60 l0 x11_1).f3).length c163_4) ∧ w'.cell? ⟨(ad163.add ((x11_1).toNat * 8)).block, (ad163.add ((x11_1).toNat * 8)).off + 5, none⟩ = some (.slice A163_5 ((rd_T60 l0 x11_1).f4).length c163_5) ∧ w'.cell? ⟨(ad163.add ((x11_1).toNat * 8)).block, (ad163.add ((x11_1).toNat * 8)).off + 6, none⟩ = some (.slice A163_6 ((rd_T60 l0 x11_1).f5).length c163_6) ∧ w'.cell? ⟨(ad163.add ((x11_1).toNat * 8)).block, (ad163.add ((x11_1).toNat * 8)).off + 7, none⟩ = some (.slice A163_7 ((rd_T60 l0 x11_1).f6).length c163_7) ∧ w'.cell? (ad163.add ((x11_1).toNat * 8)) = some (.int .i64 ((rd_T60 l0 x11_1).f0)) ∧ w'.cell? ⟨(ad163.add ((x11_1).toNat * 8)).block, (ad163.add ((x11_1).toNat * 8)).off + 1, none⟩ = some (.string ((rd_T60 l0 x11_1).f1)) ∧ w'.cell? ⟨(ad163.add ((x11_1).toNat * 8)).block, (ad163.add ((x11_1).toNat * 8)).off + 2, none⟩ = some (.int .i64 ((rd_T60 l0 x11_1).f2.f0)) ∧ w'.cell? ⟨(ad163.add ((x11_1).toNat * 8)).block, (ad163.add ((x11_1).toNat * 8)).off + 3, none⟩ = some (.int .i64 ((rd_T60 l0 x11_1).f2.f1)) ∧ w'.cell? ⟨(ad163.add ((x11_1).toNat * 8)).block, (ad163.add ((x11_1).toNat * 8)).off + 4, none⟩ = some (.slice A163_4 ((rd_T60 l0 x11_1).f3).length c163_4) ∧ w'.cell? ⟨(ad163.add ((x11_1).toNat * 8)).block, (ad163.add ((x11_1).toNat * 8)).off + 5, none⟩ = some (.slice A163_5 ((rd_T60 l0 x11_1).f4).length c163_5) ∧ w'.cell? ⟨(ad163.add ((x11_1).toNat * 8)).block, (ad163.add ((x11_1).toNat * 8)).off + 6, none⟩ = some (.slice A163_6 ((rd_T60 l0 x11_1).f5).length c163_6) ∧ w'.cell? ⟨(ad163.add ((x11_1).toNat * 8)).block, (ad163.add ((x11_1).toNat * 8)).off + 7, none⟩ = some (.slice A163_7 ((rd_T60 l0 x11_1).f6).length c163_7) ∧ w'.cell? (ad163.add ((x11_1).toNat * 8)) = some (.int .i64 ((rd_T60 l0 x11_1).f0)) ∧ w'.cell? ⟨(ad163.add ((x11_1).toNat * 8)).block, (ad163.add ((x11_1).toNat * 8)).off + 1, none⟩ = some (.string ((rd_T60 l0 x11_1).f1)) ∧ w'.cell? ⟨(ad163.add ((x11_1).toNat * 8)).block, (ad163.add ((x11_1).toNat * 8)).off + 2, none⟩ = some (.int .i64 ((rd_T60 l0 x11_1).f2.f0)) ∧ w'.cell? ⟨(ad163.add ((x11_1).toNat * 8)).block, (ad163.add ((x11_1).toNat * 8)).off + 3, none⟩ = some (.int .i64 ((rd_T60 l0 x11_1).f2.f1)) ∧ w'.cell? ⟨(ad163.add ((x11_1).toNat * 8)).block, (ad163.add ((x11_1).toNat * 8)).off + 4, none⟩ = some (.slice A163_4 ((rd_T60 l0 x11_1).f3).length c163_4) ∧ w'.cell? ⟨(ad163.add ((x11_1).toNat * 8)).block, (ad163.add ((x11_1).toNat * 8)).off + 5, none⟩ = some (.slice A163_5 ((rd_T60 l0 x11_1).f4).length c163_5) ∧ w'.cell? ⟨(ad163.add ((x11_1).toNat * 8)).block, (ad163.add ((x11_1).toNat * 8)).off + 6, none⟩ = some (.slice A163_6 ((rd_T60 l0 x11_1).f5).length c163_6) ∧ w'.cell? ⟨(ad163.add ((x11_1).toNat * 8)).block, (ad163.add ((x11_1).toNat * 8)).off + 7, none⟩ = some (.slice A163_7 ((rd_T60 l0 x11_1).f6).length c163_7)) ∧ (Kd.R k41 41 w' w.heap.size (fun k_ => some k_ ≠ (u3 : Value).ownBlock ∧ k_ ≠ s_.2) s_.1 t167) ∧ (Kd.R k41 41 w' w.heap.size (fun k_ => some k_ ≠ (s_.1 : Value).ownBlock ∧ k_ ≠ s_.2) u3 x3_1) ∧ (w'.heap[s_.2]? = some (.cells #[.int .i64 0, .string (⟨#[]⟩ : ByteArray), .int .i64 0, .int .i64 0, .slice none 0 0, .slice none 0 0, .slice none 0 0, .slice none 0 0] 41 (0, 0))) ∧ (w.heap.size ≤ s_.2) ∧ (w.heap.size ≤ s_.2) ∧ (Below w.heap.size w w')) ?_ ?_
            rotate_left
            · intro hCont
              refine two_ (i := 20) (j := 22) (Ni := some 34) (Nj := some 5) #[true, true, true, true, true, true, true, true, true, true, true, true, true, true, true, true, true, true, true, true, true, false, false, false] #[true, true, true, true, true, true, true, true, true, true, true, true, true, true, true, true, true, true, true, true, false, false, true, false] rfl rfl rfl rfl (two_of HT_.out (by kernel_rfl)) (by decide) (by decide) (fun K hK => ?_) (fun K hK => ?_)
              · skip
                refine goes_ Tryz.func8 (by kernel_rfl) rfl #[.slice A163_7 ((rd_T60 l0 x11_1).f6).length c163_7] (by rfl) rfl rfl (by (try simp only [List.map_toArray, List.map_cons, List.map_nil]); first | done | rfl | (simp only [List.length_drop, List.length_take]; rfl)) ?_
                with_reducible refine (ih k1 (by have := HK1.out; omega) _ _ ((rd_T60 l0 x11_1).f6) t167 _ ?side1 ?side2 A5.out).mono ?_
                (case side1 => repeat (first | exact (Kd.C_below HR166_7.out HB.out) | (with_reducible refine Kd.C_alloc ?_ _) | (with_reducible refine Kd.C_drewN ?_ _) | (with_reducible refine Kd.C_drew ?_)))
                (case side2 => exact HC166_7.out)
                rintro e w7 ⟨v168, rfl, ho0, hb⟩
                (try (have nt_ := Aside0.mk (Kd.C_below HR163_4.out hb); clear HR163_4; have HR163_4 := nt_; clear nt_))
                (try (have nt_ := Aside0.mk (Kd.C_below HR163_5.out hb); clear HR163_5; have HR163_5 := nt_; clear nt_))
                (try (have nt_ := Aside0.mk (Kd.C_below HR163_6.out hb); clear HR163_6; have HR163_6 := nt_; clear nt_))
                (try (have nt_ := Aside0.mk (Kd.C_below HR163_7.out hb); clear HR163_7; have HR163_7 := nt_; clear nt_))
                (try (have nt_ := Aside0.mk (Kd.C_below HR164_4.out hb); clear HR164_4; have HR164_4 := nt_; clear nt_))
                (try (have nt_ := Aside0.mk (Kd.C_below HR164_5.out hb); clear HR164_5; have HR164_5 := nt_; clear nt_))
                (try (have nt_ := Aside0.mk (Kd.C_below HR164_6.out hb); clear HR164_6; have HR164_6 := nt_; clear nt_))
                (try (have nt_ := Aside0.mk (Kd.C_below HR164_7.out hb); clear HR164_7; have HR164_7 := nt_; clear nt_))
                (try (have nt_ := Aside0.mk (Kd.C_below HR165_4.out hb); clear HR165_4; have HR165_4 := nt_; clear nt_))
                (try (have nt_ := Aside0.mk (Kd.C_below HR165_5.out hb); clear HR165_5; have HR165_5 := nt_; clear nt_))
                (try (have nt_ := Aside0.mk (Kd.C_below HR165_6.out hb); clear HR165_6; have HR165_6 := nt_; clear nt_))
                (try (have nt_ := Aside0.mk (Kd.C_below HR165_7.out hb); clear HR165_7; have HR165_7 := nt_; clear nt_))
                (try (have nt_ := Aside0.mk (Kd.C_below HR166_4.out hb); clear HR166_4; have HR166_4 := nt_; clear nt_))
                (try (have nt_ := Aside0.mk (Kd.C_below HR166_5.out hb); clear HR166_5; have HR166_5 := nt_; clear nt_))
                (try (have nt_ := Aside0.mk (Kd.C_below HR166_6.out hb); clear HR166_6; have HR166_6 := nt_; clear nt_))
                (try (have nt_ := Aside0.mk (Kd.C_below HR166_7.out hb); clear HR166_7; have HR166_7 := nt_; clear nt_))
                refine ⟨_, rfl, ?_⟩
                have n0_ := Aside0.mk (Kd.R_elder' (by (with_reducible repeat (first | apply Kd.R_alloc | apply Kd.R_drewN | apply Kd.R_drew)); exact HO_3.out) (Kd.R_base ho0) hb)
                have n1_ := Aside0.mk (Kd.R_lower (Kd.R_new' ho0 (Kd.R_lt (by (with_reducible repeat (first | apply Kd.R_alloc | apply Kd.R_drewN | apply Kd.R_drew)); exact HO_3.out))) (below_size (by repeat (first | (with_reducible first | exact HB.out | apply below_alloc | apply pw_below_drewN | apply below_drew1) | exact HB.out))))
                have n2_ := Aside0.mk (below_step (by repeat (first | (with_reducible first | exact HB.out | apply below_alloc | apply pw_below_drewN | apply below_drew1) | exact HB.out)) hb)
                clear HO_3
                clear HB
                have HO_3 := n0_
                have HO169 := n1_
                have HB := n2_
                clear n0_ n1_ n2_
                (try clear hb)
                (try clear hb2)
                (try clear hk)
                (try clear hi)
                (try clear ho0)
                obtain ⟨Ao8, co8, eo8⟩ := Kd.R_slice HO169.out
                (first | subst eo8 | (injection eo8 with f1_ f2_ f3_; have f4_ := f1_.symm; have f5_ := f3_.symm; clear f1_ f2_ f3_; subst f4_; subst f5_))
                refine hK.out _ _ ⟨((HB.out.cell (World.block_lt_of_cell? w _ hw163_0)).trans hw163_0), ((HB.out.cell (World.block_lt_of_cell? w _ hw163_1)).trans hw163_1), ((HB.out.cell (World.block_lt_of_cell? w _ hw163_2)).trans hw163_2), ((HB.out.cell (World.block_lt_of_cell? w _ hw163_3)).trans hw163_3), ((HB.out.cell (World.block_lt_of_cell? w _ hw163_4)).trans hw163_4), ((HB.out.cell (World.block_lt_of_cell? w _ hw163_5)).trans hw163_5), ((HB.out.cell (World.block_lt_of_cell? w _ hw163_6)).trans hw163_6), ((HB.out.cell (World.block_lt_of_cell? w _ hw163_7)).trans hw163_7), ((HB.out.cell (World.block_lt_of_cell? w _ hw164_0)).trans hw164_0), ((HB.out.cell (World.block_lt_of_cell? w _ hw164_1)).trans hw164_1), ((HB.out.cell (World.block_lt_of_cell? w _ hw164_2)).trans hw164_2), ((HB.out.cell (World.block_lt_of_cell? w _ hw164_3)).trans hw164_3), ((HB.out.cell (World.block_lt_of_cell? w _ hw164_4)).trans hw164_4), ((HB.out.cell (World.block_lt_of_cell? w _ hw164_5)).trans hw164_5), ((HB.out.cell (World.block_lt_of_cell? w _ hw164_6)).trans hw164_6), ((HB.out.cell (World.block_lt_of_cell? w _ hw164_7)).trans hw164_7), ((HB.out.cell (World.block_lt_of_cell? w _ hw165_0)).trans hw165_0), ((HB.out.cell (World.block_lt_of_cell? w _ hw165_1)).trans hw165_1), ((HB.out.cell (World.block_lt_of_cell? w _ hw165_2)).trans hw165_2), ((HB.out.cell (World.block_lt_of_cell? w _ hw165_3)).trans hw165_3), ((HB.out.cell (World.block_lt_of_cell? w _ hw165_4)).trans hw165_4), ((HB.out.cell (World.block_lt_of_cell? w _ hw165_5)).trans hw165_5), ((HB.out.cell (World.block_lt_of_cell? w _ hw165_6)).trans hw165_6), ((HB.out.cell (World.block_lt_of_cell? w _ hw165_7)).trans hw165_7), ((HB.out.cell (World.block_lt_of_cell? w _ hw166_0)).trans hw166_0), ((HB.out.cell (World.block_lt_of_cell? w _ hw166_1)).trans hw166_1), ((HB.out.cell (World.block_lt_of_cell? w _ hw166_2)).trans hw166_2), ((HB.out.cell (World.block_lt_of_cell? w _ hw166_3)).trans hw166_3), ((HB.out.cell (World.block_lt_of_cell? w _ hw166_4)).trans hw166_4), ((HB.out.cell (World.block_lt_of_cell? w _ hw166_5)).trans hw166_5), ((HB.out.cell (World.block_lt_of_cell? w _ hw166_6)).trans hw166_6), ((HB.out.cell (World.block_lt_of_cell? w _ hw166_7)).trans hw166_7)⟩ (fun hHeld => ?_)
                clear hK K
                refine norm_ (a' := ?_) ?_ ?_
                rotate_left
                · show Act.put _ (some 34) _ = _
                  simp only [Act.put, List.setIfInBounds_toArray, List.set_cons_zero, List.set_cons_succ, i64_w, i32_w]
                  rfl
                refine pure_ (i := 21) (N := some 35) (v := ?_) (a' := ?_) #[true, true, true, true, true, true, true, true, true, true, true, true, true, true, true, true, true, true, true, true, true, true, false, false] rfl rfl (any_of HT_.out (by kernel_rfl)) (fun _ _ _ h => h) (Or.inl ⟨by rfl, ?_⟩) ?_ ?_
                rotate_left
                · intro w'
                  go_simp
                  with_reducible rfl
                rotate_left
                · simp only [Act.put, List.setIfInBounds_toArray, List.set_cons_zero, List.set_cons_succ, i64_w, i32_w]
                  rfl
                refine one_ (i := 22) (N := some 5) #[true, true, true, true, true, true, true, true, true, true, true, true, true, true, true, true, true, true, true, true, true, true, true, false] rfl rfl (one_of HT_.out (by kernel_rfl)) (by decide) (fun K hK => ?_)
                refine box_step ?hg (N := 5) ?hd (cs := #[.int .i64 0, .string (⟨#[]⟩ : ByteArray), .int .i64 0, .int .i64 0, .slice none 0 0, .slice none 0 0, .slice none 0 0, .slice none 0 0]) (t := 41) ?hr ?_; (case hd => rfl); (case hg => rfl); (case hr => first | (go_simp; done) | (go_simp; rfl))
                intro gb170 hg w9 hbox hb
                have n0_ := Aside0.mk (Kd.R_below (Kd.R_elderB (by (with_reducible repeat (first | apply Kd.R_alloc | apply Kd.R_drewN | apply Kd.R_drew)); exact HO_3.out) gb170 (Nat.le_of_eq hg.symm)) hb)
                have n1_ := Aside0.mk (Kd.R_below (Kd.R_elderB (by (with_reducible repeat (first | apply Kd.R_alloc | apply Kd.R_drewN | apply Kd.R_drew)); exact HO169.out) gb170 (Nat.le_of_eq hg.symm)) hb)
                have n2_ := Aside0.mk (below_step (by repeat (first | (with_reducible first | exact HB.out | apply below_alloc | apply pw_below_drewN | apply below_drew1) | exact HB.out)) hb)
                have n3_ := Aside0.mk (hbox)
                have n4_ := Aside0.mk ((by rw [hg]; exact (below_size (by repeat (first | (with_reducible first | exact HB.out | apply below_alloc | apply pw_below_drewN | apply below_drew1) | exact HB.out))) : w.heap.size ≤ gb170))
                have n5_ := Aside0.mk ((by rw [hg]; exact (below_size (by repeat (first | (with_reducible first | exact HB.out | apply below_alloc | apply pw_below_drewN | apply below_drew1) | exact HB.out))) : w.heap.size ≤ gb170))
                clear HO_3
                clear HO169
                clear HB
                have HO_3 := n0_
                have HO169 := n1_
                have HB := n2_
                have BK170 := n3_
                have GW170 := n4_
                have GE170 := n5_
                clear n0_ n1_ n2_ n3_ n4_ n5_
                clear hb hbox hg
                refine hK.out _ _ ⟨((HB.out.cell (World.block_lt_of_cell? w _ hw163_0)).trans hw163_0), ((HB.out.cell (World.block_lt_of_cell? w _ hw163_1)).trans hw163_1), ((HB.out.cell (World.block_lt_of_cell? w _ hw163_2)).trans hw163_2), ((HB.out.cell (World.block_lt_of_cell? w _ hw163_3)).trans hw163_3), ((HB.out.cell (World.block_lt_of_cell? w _ hw163_4)).trans hw163_4), ((HB.out.cell (World.block_lt_of_cell? w _ hw163_5)).trans hw163_5), ((HB.out.cell (World.block_lt_of_cell? w _ hw163_6)).trans hw163_6), ((HB.out.cell (World.block_lt_of_cell? w _ hw163_7)).trans hw163_7), ((HB.out.cell (World.block_lt_of_cell? w _ hw164_0)).trans hw164_0), ((HB.out.cell (World.block_lt_of_cell? w _ hw164_1)).trans hw164_1), ((HB.out.cell (World.block_lt_of_cell? w _ hw164_2)).trans hw164_2), ((HB.out.cell (World.block_lt_of_cell? w _ hw164_3)).trans hw164_3), ((HB.out.cell (World.block_lt_of_cell? w _ hw164_4)).trans hw164_4), ((HB.out.cell (World.block_lt_of_cell? w _ hw164_5)).trans hw164_5), ((HB.out.cell (World.block_lt_of_cell? w _ hw164_6)).trans hw164_6), ((HB.out.cell (World.block_lt_of_cell? w _ hw164_7)).trans hw164_7), ((HB.out.cell (World.block_lt_of_cell? w _ hw165_0)).trans hw165_0), ((HB.out.cell (World.block_lt_of_cell? w _ hw165_1)).trans hw165_1), ((HB.out.cell (World.block_lt_of_cell? w _ hw165_2)).trans hw165_2), ((HB.out.cell (World.block_lt_of_cell? w _ hw165_3)).trans hw165_3), ((HB.out.cell (World.block_lt_of_cell? w _ hw165_4)).trans hw165_4), ((HB.out.cell (World.block_lt_of_cell? w _ hw165_5)).trans hw165_5), ((HB.out.cell (World.block_lt_of_cell? w _ hw165_6)).trans hw165_6), ((HB.out.cell (World.block_lt_of_cell? w _ hw165_7)).trans hw165_7), ((HB.out.cell (World.block_lt_of_cell? w _ hw166_0)).trans hw166_0), ((HB.out.cell (World.block_lt_of_cell? w _ hw166_1)).trans hw166_1), ((HB.out.cell (World.block_lt_of_cell? w _ hw166_2)).trans hw166_2), ((HB.out.cell (World.block_lt_of_cell? w _ hw166_3)).trans hw166_3), ((HB.out.cell (World.block_lt_of_cell? w _ hw166_4)).trans hw166_4), ((HB.out.cell (World.block_lt_of_cell? w _ hw166_5)).trans hw166_5), ((HB.out.cell (World.block_lt_of_cell? w _ hw166_6)).trans hw166_6), ((HB.out.cell (World.block_lt_of_cell? w _ hw166_7)).trans hw166_7)⟩ (fun hHeld => ?_)
                clear hK K
                refine norm_ (a' := ?_) ?_ ?_
                rotate_left
                · show Act.put _ (some 5) _ = _
                  simp only [Act.put, List.setIfInBounds_toArray, List.set_cons_zero, List.set_cons_succ, i64_w, i32_w]
                  rfl
                exact norm_ (by simp only [putAll, Act.put, List.setIfInBounds_toArray, List.set_cons_zero, List.set_cons_succ]) (hCont (.slice Ao8 t167.length co8, gb170) _ ⟨hHeld, (by (with_reducible repeat (first | apply Kd.R_alloc | apply Kd.R_drewN | apply Kd.R_drew)); exact Kd.R_mono HO169.out (fun _ hk => ⟨hk.1.2, hk.2⟩)), (by (with_reducible repeat (first | apply Kd.R_alloc | apply Kd.R_drewN | apply Kd.R_drew)); exact Kd.R_mono HO_3.out (fun _ hk => ⟨hk.1.2, hk.2⟩)), (by (with_reducible repeat (first | refine blk_drewN ?_ _ | refine blk_drew ?_ | refine blk_alloc ?_ _)); exact BK170.out), GW170.out, GE170.out, (by repeat (first | (with_reducible first | exact HB.out | apply below_alloc | apply pw_below_drewN | apply below_drew1 | refine below_set ?_ GE170.out) | exact HB.out))⟩)
              · skip
                refine box_step ?hg (N := 5) ?hd (cs := #[.int .i64 0, .string (⟨#[]⟩ : ByteArray), .int .i64 0, .int .i64 0, .slice none 0 0, .slice none 0 0, .slice none 0 0, .slice none 0 0]) (t := 41) ?hr ?_; (case hd => rfl); (case hg => rfl); (case hr => first | (go_simp; done) | (go_simp; rfl))
                intro gb170 hg w7 hbox hb
                have n0_ := Aside0.mk (Kd.R_below (Kd.R_elderB (by (with_reducible repeat (first | apply Kd.R_alloc | apply Kd.R_drewN | apply Kd.R_drew)); exact HO_3.out) gb170 (Nat.le_of_eq hg.symm)) hb)
                have n1_ := Aside0.mk (below_step (by repeat (first | (with_reducible first | exact HB.out | apply below_alloc | apply pw_below_drewN | apply below_drew1) | exact HB.out)) hb)
                have n2_ := Aside0.mk (hbox)
                have n3_ := Aside0.mk ((by rw [hg]; exact (below_size (by repeat (first | (with_reducible first | exact HB.out | apply below_alloc | apply pw_below_drewN | apply below_drew1) | exact HB.out))) : w.heap.size ≤ gb170))
                have n4_ := Aside0.mk ((by rw [hg]; exact (below_size (by repeat (first | (with_reducible first | exact HB.out | apply below_alloc | apply pw_below_drewN | apply below_drew1) | exact HB.out))) : w.heap.size ≤ gb170))
                clear HO_3
                clear HB
                have HO_3 := n0_
                have HB := n1_
                have BK170 := n2_
                have GW170 := n3_
                have GE170 := n4_
                clear n0_ n1_ n2_ n3_ n4_
                clear hb hbox hg
                refine hK.out _ _ ⟨((HB.out.cell (World.block_lt_of_cell? w _ hw163_0)).trans hw163_0), ((HB.out.cell (World.block_lt_of_cell? w _ hw163_1)).trans hw163_1), ((HB.out.cell (World.block_lt_of_cell? w _ hw163_2)).trans hw163_2), ((HB.out.cell (World.block_lt_of_cell? w _ hw163_3)).trans hw163_3), ((HB.out.cell (World.block_lt_of_cell? w _ hw163_4)).trans hw163_4), ((HB.out.cell (World.block_lt_of_cell? w _ hw163_5)).trans hw163_5), ((HB.out.cell (World.block_lt_of_cell? w _ hw163_6)).trans hw163_6), ((HB.out.cell (World.block_lt_of_cell? w _ hw163_7)).trans hw163_7), ((HB.out.cell (World.block_lt_of_cell? w _ hw164_0)).trans hw164_0), ((HB.out.cell (World.block_lt_of_cell? w _ hw164_1)).trans hw164_1), ((HB.out.cell (World.block_lt_of_cell? w _ hw164_2)).trans hw164_2), ((HB.out.cell (World.block_lt_of_cell? w _ hw164_3)).trans hw164_3), ((HB.out.cell (World.block_lt_of_cell? w _ hw164_4)).trans hw164_4), ((HB.out.cell (World.block_lt_of_cell? w _ hw164_5)).trans hw164_5), ((HB.out.cell (World.block_lt_of_cell? w _ hw164_6)).trans hw164_6), ((HB.out.cell (World.block_lt_of_cell? w _ hw164_7)).trans hw164_7), ((HB.out.cell (World.block_lt_of_cell? w _ hw165_0)).trans hw165_0), ((HB.out.cell (World.block_lt_of_cell? w _ hw165_1)).trans hw165_1), ((HB.out.cell (World.block_lt_of_cell? w _ hw165_2)).trans hw165_2), ((HB.out.cell (World.block_lt_of_cell? w _ hw165_3)).trans hw165_3), ((HB.out.cell (World.block_lt_of_cell? w _ hw165_4)).trans hw165_4), ((HB.out.cell (World.block_lt_of_cell? w _ hw165_5)).trans hw165_5), ((HB.out.cell (World.block_lt_of_cell? w _ hw165_6)).trans hw165_6), ((HB.out.cell (World.block_lt_of_cell? w _ hw165_7)).trans hw165_7), ((HB.out.cell (World.block_lt_of_cell? w _ hw166_0)).trans hw166_0), ((HB.out.cell (World.block_lt_of_cell? w _ hw166_1)).trans hw166_1), ((HB.out.cell (World.block_lt_of_cell? w _ hw166_2)).trans hw166_2), ((HB.out.cell (World.block_lt_of_cell? w _ hw166_3)).trans hw166_3), ((HB.out.cell (World.block_lt_of_cell? w _ hw166_4)).trans hw166_4), ((HB.out.cell (World.block_lt_of_cell? w _ hw166_5)).trans hw166_5), ((HB.out.cell (World.block_lt_of_cell? w _ hw166_6)).trans hw166_6), ((HB.out.cell (World.block_lt_of_cell? w _ hw166_7)).trans hw166_7)⟩ (fun hHeld => ?_)
                clear hK K
                refine norm_ (a' := ?_) ?_ ?_
                rotate_left
                · show Act.put _ (some 5) _ = _
                  simp only [Act.put, List.setIfInBounds_toArray, List.set_cons_zero, List.set_cons_succ, i64_w, i32_w]
                  rfl
                refine one_ (i := 20) (N := some 34) #[true, true, true, true, true, true, true, true, true, true, true, true, true, true, true, true, true, true, true, true, true, false, true, false] rfl rfl (one_of HT_.out (by kernel_rfl)) (by decide) (fun K hK => ?_)
                refine goes_ Tryz.func8 (by kernel_rfl) rfl #[.slice A163_7 ((rd_T60 l0 x11_1).f6).length c163_7] (by rfl) rfl rfl (by (try simp only [List.map_toArray, List.map_cons, List.map_nil]); first | done | rfl | (simp only [List.length_drop, List.length_take]; rfl)) ?_
                with_reducible refine (ih k1 (by have := HK1.out; omega) _ _ ((rd_T60 l0 x11_1).f6) t167 _ ?side1 ?side2 A5.out).mono ?_
                (case side1 => repeat (first | exact (Kd.C_below HR166_7.out HB.out) | (with_reducible refine Kd.C_alloc ?_ _) | (with_reducible refine Kd.C_drewN ?_ _) | (with_reducible refine Kd.C_drew ?_)))
                (case side2 => exact HC166_7.out)
                rintro e w8 ⟨v168, rfl, ho0, hb⟩
                (try (have nt_ := Aside0.mk (Kd.C_below HR163_4.out hb); clear HR163_4; have HR163_4 := nt_; clear nt_))
                (try (have nt_ := Aside0.mk (Kd.C_below HR163_5.out hb); clear HR163_5; have HR163_5 := nt_; clear nt_))
                (try (have nt_ := Aside0.mk (Kd.C_below HR163_6.out hb); clear HR163_6; have HR163_6 := nt_; clear nt_))
                (try (have nt_ := Aside0.mk (Kd.C_below HR163_7.out hb); clear HR163_7; have HR163_7 := nt_; clear nt_))
                (try (have nt_ := Aside0.mk (Kd.C_below HR164_4.out hb); clear HR164_4; have HR164_4 := nt_; clear nt_))
                (try (have nt_ := Aside0.mk (Kd.C_below HR164_5.out hb); clear HR164_5; have HR164_5 := nt_; clear nt_))
                (try (have nt_ := Aside0.mk (Kd.C_below HR164_6.out hb); clear HR164_6; have HR164_6 := nt_; clear nt_))
                (try (have nt_ := Aside0.mk (Kd.C_below HR164_7.out hb); clear HR164_7; have HR164_7 := nt_; clear nt_))
                (try (have nt_ := Aside0.mk (Kd.C_below HR165_4.out hb); clear HR165_4; have HR165_4 := nt_; clear nt_))
                (try (have nt_ := Aside0.mk (Kd.C_below HR165_5.out hb); clear HR165_5; have HR165_5 := nt_; clear nt_))
                (try (have nt_ := Aside0.mk (Kd.C_below HR165_6.out hb); clear HR165_6; have HR165_6 := nt_; clear nt_))
                (try (have nt_ := Aside0.mk (Kd.C_below HR165_7.out hb); clear HR165_7; have HR165_7 := nt_; clear nt_))
                (try (have nt_ := Aside0.mk (Kd.C_below HR166_4.out hb); clear HR166_4; have HR166_4 := nt_; clear nt_))
                (try (have nt_ := Aside0.mk (Kd.C_below HR166_5.out hb); clear HR166_5; have HR166_5 := nt_; clear nt_))
                (try (have nt_ := Aside0.mk (Kd.C_below HR166_6.out hb); clear HR166_6; have HR166_6 := nt_; clear nt_))
                (try (have nt_ := Aside0.mk (Kd.C_below HR166_7.out hb); clear HR166_7; have HR166_7 := nt_; clear nt_))
                refine ⟨_, rfl, ?_⟩
                have n0_ := Aside0.mk (Kd.R_elder' (by (with_reducible repeat (first | apply Kd.R_alloc | apply Kd.R_drewN | apply Kd.R_drew)); exact HO_3.out) (Kd.R_base ho0) hb)
                have n1_ := Aside0.mk (Kd.R_lower (Kd.R_newB (Kd.R_new' ho0 (Kd.R_lt (by (with_reducible repeat (first | apply Kd.R_alloc | apply Kd.R_drewN | apply Kd.R_drew)); exact HO_3.out))) (g := gb170) (o := .cells #[.int .i64 0, .string (⟨#[]⟩ : ByteArray), .int .i64 0, .int .i64 0, .slice none 0 0, .slice none 0 0, .slice none 0 0, .slice none 0 0] 41 (0, 0)) (by (with_reducible repeat (first | refine blk_drewN ?_ _ | refine blk_drew ?_ | refine blk_alloc ?_ _)); exact BK170.out)) (below_size (by repeat (first | (with_reducible first | exact HB.out | apply below_alloc | apply pw_below_drewN | apply below_drew1 | refine below_set ?_ GE170.out) | exact HB.out))))
                have n2_ := Aside0.mk (blk_below (g := gb170) (o := .cells #[.int .i64 0, .string (⟨#[]⟩ : ByteArray), .int .i64 0, .int .i64 0, .slice none 0 0, .slice none 0 0, .slice none 0 0, .slice none 0 0] 41 (0, 0)) (by (with_reducible repeat (first | refine blk_drewN ?_ _ | refine blk_drew ?_ | refine blk_alloc ?_ _)); exact BK170.out) hb)
                have n3_ := Aside0.mk (below_step (by repeat (first | (with_reducible first | exact HB.out | apply below_alloc | apply pw_below_drewN | apply below_drew1 | refine below_set ?_ GE170.out) | exact HB.out)) hb)
                clear HO_3
                clear BK170
                clear HB
                have HO_3 := n0_
                have HO169 := n1_
                have BK170 := n2_
                have HB := n3_
                clear n0_ n1_ n2_ n3_
                (try clear hb)
                (try clear hb2)
                (try clear hk)
                (try clear hi)
                (try clear ho0)
                obtain ⟨Ao9, co9, eo9⟩ := Kd.R_slice HO169.out
                (first | subst eo9 | (injection eo9 with f1_ f2_ f3_; have f4_ := f1_.symm; have f5_ := f3_.symm; clear f1_ f2_ f3_; subst f4_; subst f5_))
                refine hK.out _ _ ⟨((HB.out.cell (World.block_lt_of_cell? w _ hw163_0)).trans hw163_0), ((HB.out.cell (World.block_lt_of_cell? w _ hw163_1)).trans hw163_1), ((HB.out.cell (World.block_lt_of_cell? w _ hw163_2)).trans hw163_2), ((HB.out.cell (World.block_lt_of_cell? w _ hw163_3)).trans hw163_3), ((HB.out.cell (World.block_lt_of_cell? w _ hw163_4)).trans hw163_4), ((HB.out.cell (World.block_lt_of_cell? w _ hw163_5)).trans hw163_5), ((HB.out.cell (World.block_lt_of_cell? w _ hw163_6)).trans hw163_6), ((HB.out.cell (World.block_lt_of_cell? w _ hw163_7)).trans hw163_7), ((HB.out.cell (World.block_lt_of_cell? w _ hw164_0)).trans hw164_0), ((HB.out.cell (World.block_lt_of_cell? w _ hw164_1)).trans hw164_1), ((HB.out.cell (World.block_lt_of_cell? w _ hw164_2)).trans hw164_2), ((HB.out.cell (World.block_lt_of_cell? w _ hw164_3)).trans hw164_3), ((HB.out.cell (World.block_lt_of_cell? w _ hw164_4)).trans hw164_4), ((HB.out.cell (World.block_lt_of_cell? w _ hw164_5)).trans hw164_5), ((HB.out.cell (World.block_lt_of_cell? w _ hw164_6)).trans hw164_6), ((HB.out.cell (World.block_lt_of_cell? w _ hw164_7)).trans hw164_7), ((HB.out.cell (World.block_lt_of_cell? w _ hw165_0)).trans hw165_0), ((HB.out.cell (World.block_lt_of_cell? w _ hw165_1)).trans hw165_1), ((HB.out.cell (World.block_lt_of_cell? w _ hw165_2)).trans hw165_2), ((HB.out.cell (World.block_lt_of_cell? w _ hw165_3)).trans hw165_3), ((HB.out.cell (World.block_lt_of_cell? w _ hw165_4)).trans hw165_4), ((HB.out.cell (World.block_lt_of_cell? w _ hw165_5)).trans hw165_5), ((HB.out.cell (World.block_lt_of_cell? w _ hw165_6)).trans hw165_6), ((HB.out.cell (World.block_lt_of_cell? w _ hw165_7)).trans hw165_7), ((HB.out.cell (World.block_lt_of_cell? w _ hw166_0)).trans hw166_0), ((HB.out.cell (World.block_lt_of_cell? w _ hw166_1)).trans hw166_1), ((HB.out.cell (World.block_lt_of_cell? w _ hw166_2)).trans hw166_2), ((HB.out.cell (World.block_lt_of_cell? w _ hw166_3)).trans hw166_3), ((HB.out.cell (World.block_lt_of_cell? w _ hw166_4)).trans hw166_4), ((HB.out.cell (World.block_lt_of_cell? w _ hw166_5)).trans hw166_5), ((HB.out.cell (World.block_lt_of_cell? w _ hw166_6)).trans hw166_6), ((HB.out.cell (World.block_lt_of_cell? w _ hw166_7)).trans hw166_7)⟩ (fun hHeld => ?_)
                clear hK K
                refine norm_ (a' := ?_) ?_ ?_
                rotate_left
                · show Act.put _ (some 34) _ = _
                  simp only [Act.put, List.setIfInBounds_toArray, List.set_cons_zero, List.set_cons_succ, i64_w, i32_w]
                  rfl
                refine pure_ (i := 21) (N := some 35) (v := ?_) (a' := ?_) #[true, true, true, true, true, true, true, true, true, true, true, true, true, true, true, true, true, true, true, true, true, true, true, false] rfl rfl (any_of HT_.out (by kernel_rfl)) (fun _ _ _ h => h) (Or.inl ⟨by rfl, ?_⟩) ?_ ?_
                rotate_left
                · intro w'
                  go_simp
                  with_reducible rfl
                rotate_left
                · simp only [Act.put, List.setIfInBounds_toArray, List.set_cons_zero, List.set_cons_succ, i64_w, i32_w]
                  rfl
                exact norm_ (by simp only [putAll, Act.put, List.setIfInBounds_toArray, List.set_cons_zero, List.set_cons_succ]) (hCont (.slice Ao9 t167.length co9, gb170) _ ⟨hHeld, (by (with_reducible repeat (first | apply Kd.R_alloc | apply Kd.R_drewN | apply Kd.R_drew)); exact Kd.R_mono HO169.out (fun _ hk => ⟨hk.1.2, hk.2⟩)), (by (with_reducible repeat (first | apply Kd.R_alloc | apply Kd.R_drewN | apply Kd.R_drew)); exact Kd.R_mono HO_3.out (fun _ hk => ⟨hk.2, hk.1.2⟩)), (by (with_reducible repeat (first | refine blk_drewN ?_ _ | refine blk_drew ?_ | refine blk_alloc ?_ _)); exact BK170.out), GW170.out, GE170.out, (by repeat (first | (with_reducible first | exact HB.out | apply below_alloc | apply pw_below_drewN | apply below_drew1 | refine below_set ?_ GE170.out) | exact HB.out))⟩)
            rintro ⟨v168, gb170⟩ w10 ⟨hS_, h0_, h1_, h2_, h3_, h4_, h5_⟩
            have n0_ : Aside0 (Kd.R k41 41 w10 w.heap.size (fun k_ => some k_ ≠ (u3 : Value).ownBlock ∧ k_ ≠ gb170) v168 t167) := ⟨h0_⟩
            have n1_ : Aside0 (Kd.R k41 41 w10 w.heap.size (fun k_ => some k_ ≠ (v168 : Value).ownBlock ∧ k_ ≠ gb170) u3 x3_1) := ⟨h1_⟩
            have n2_ : Aside0 (w10.heap[gb170]? = some (.cells #[.int .i64 0, .string (⟨#[]⟩ : ByteArray), .int .i64 0, .int .i64 0, .slice none 0 0, .slice none 0 0, .slice none 0 0, .slice none 0 0] 41 (0, 0))) := ⟨h2_⟩
            have n3_ : Aside0 (w.heap.size ≤ gb170) := ⟨h3_⟩
            have n4_ : Aside0 (w.heap.size ≤ gb170) := ⟨h4_⟩
            have n5_ : Aside0 (Below w.heap.size w w10) := ⟨h5_⟩
            clear HO_3
            clear HB
            clear h0_ h1_ h2_ h3_ h4_ h5_
            have HO169 := n0_
            have HO_3 := n1_
            have BK170 := n2_
            have GW170 := n3_
            have GE170 := n4_
            have HB := n5_
            clear n0_ n1_ n2_ n3_ n4_ n5_
            have hHeld : w10.cell? (ad163.add ((x11_1).toNat * 8)) = some (.int .i64 ((rd_T60 l0 x11_1).f0)) ∧ w10.cell? ⟨(ad163.add ((x11_1).toNat * 8)).block, (ad163.add ((x11_1).toNat * 8)).off + 1, none⟩ = some (.string ((rd_T60 l0 x11_1).f1)) ∧ w10.cell? ⟨(ad163.add ((x11_1).toNat * 8)).block, (ad163.add ((x11_1).toNat * 8)).off + 2, none⟩ = some (.int .i64 ((rd_T60 l0 x11_1).f2.f0)) ∧ w10.cell? ⟨(ad163.add ((x11_1).toNat * 8)).block, (ad163.add ((x11_1).toNat * 8)).off + 3, none⟩ = some (.int .i64 ((rd_T60 l0 x11_1).f2.f1)) ∧ w10.cell? ⟨(ad163.add ((x11_1).toNat * 8)).block, (ad163.add ((x11_1).toNat * 8)).off + 4, none⟩ = some (.slice A163_4 ((rd_T60 l0 x11_1).f3).length c163_4) ∧ w10.cell? ⟨(ad163.add ((x11_1).toNat * 8)).block, (ad163.add ((x11_1).toNat * 8)).off + 5, none⟩ = some (.slice A163_5 ((rd_T60 l0 x11_1).f4).length c163_5) ∧ w10.cell? ⟨(ad163.add ((x11_1).toNat * 8)).block, (ad163.add ((x11_1).toNat * 8)).off + 6, none⟩ = some (.slice A163_6 ((rd_T60 l0 x11_1).f5).length c163_6) ∧ w10.cell? ⟨(ad163.add ((x11_1).toNat * 8)).block, (ad163.add ((x11_1).toNat * 8)).off + 7, none⟩ = some (.slice A163_7 ((rd_T60 l0 x11_1).f6).length c163_7) ∧ w10.cell? (ad163.add ((x11_1).toNat * 8)) = some (.int .i64 ((rd_T60 l0 x11_1).f0)) ∧ w10.cell? ⟨(ad163.add ((x11_1).toNat * 8)).block, (ad163.add ((x11_1).toNat * 8)).off + 1, none⟩ = some (.string ((rd_T60 l0 x11_1).f1)) ∧ w10.cell? ⟨(ad163.add ((x11_1).toNat * 8)).block, (ad163.add ((x11_1).toNat * 8)).off + 2, none⟩ = some (.int .i64 ((rd_T60 l0 x11_1).f2.f0)) ∧ w10.cell? ⟨(ad163.add ((x11_1).toNat * 8)).block, (ad163.add ((x11_1).toNat * 8)).off + 3, none⟩ = some (.int .i64 ((rd_T60 l0 x11_1).f2.f1)) ∧ w10.cell? ⟨(ad163.add ((x11_1).toNat * 8)).block, (ad163.add ((x11_1).toNat * 8)).off + 4, none⟩ = some (.slice A163_4 ((rd_T60 l0 x11_1).f3).length c163_4) ∧ w10.cell? ⟨(ad163.add ((x11_1).toNat * 8)).block, (ad163.add ((x11_1).toNat * 8)).off + 5, none⟩ = some (.slice A163_5 ((rd_T60 l0 x11_1).f4).length c163_5) ∧ w10.cell? ⟨(ad163.add ((x11_1).toNat * 8)).block, (ad163.add ((x11_1).toNat * 8)).off + 6, none⟩ = some (.slice A163_6 ((rd_T60 l0 x11_1).f5).length c163_6) ∧ w10.cell? ⟨(ad163.add ((x11_1).toNat * 8)).block, (ad163.add ((x11_1).toNat * 8)).off + 7, none⟩ = some (.slice A163_7 ((rd_T60 l0 x11_1).f6).length c163_7) ∧ w10.cell? (ad163.add ((x11_1).toNat * 8)) = some (.int .i64 ((rd_T60 l0 x11_1).f0)) ∧ w10.cell? ⟨(ad163.add ((x11_1).toNat * 8)).block, (ad163.add ((x11_1).toNat * 8)).off + 1, none⟩ = some (.string ((rd_T60 l0 x11_1).f1)) ∧ w10.cell? ⟨(ad163.add ((x11_1).toNat * 8)).block, (ad163.add ((x11_1).toNat * 8)).off + 2, none⟩ = some (.int .i64 ((rd_T60 l0 x11_1).f2.f0)) ∧ w10.cell? ⟨(ad163.add ((x11_1).toNat * 8)).block, (ad163.add ((x11_1).toNat * 8)).off + 3, none⟩ = some (.int .i64 ((rd_T60 l0 x11_1).f2.f1)) ∧ w10.cell? ⟨(ad163.add ((x11_1).toNat * 8)).block, (ad163.add ((x11_1).toNat * 8)).off + 4, none⟩ = some (.slice A163_4 ((rd_T60 l0 x11_1).f3).length c163_4) ∧ w10.cell? ⟨(ad163.add ((x11_1).toNat * 8)).block, (ad163.add ((x11_1).toNat * 8)).off + 5, none⟩ = some (.slice A163_5 ((rd_T60 l0 x11_1).f4).length c163_5) ∧ w10.cell? ⟨(ad163.add ((x11_1).toNat * 8)).block, (ad163.add ((x11_1).toNat * 8)).off + 6, none⟩ = some (.slice A163_6 ((rd_T60 l0 x11_1).f5).length c163_6) ∧ w10.cell? ⟨(ad163.add ((x11_1).toNat * 8)).block, (ad163.add ((x11_1).toNat * 8)).off + 7, none⟩ = some (.slice A163_7 ((rd_T60 l0 x11_1).f6).length c163_7) ∧ w10.cell? (ad163.add ((x11_1).toNat * 8)) = some (.int .i64 ((rd_T60 l0 x11_1).f0)) ∧ w10.cell? ⟨(ad163.add ((x11_1).toNat * 8)).block, (ad163.add ((x11_1).toNat * 8)).off + 1, none⟩ = some (.string ((rd_T60 l0 x11_1).f1)) ∧ w10.cell? ⟨(ad163.add ((x11_1).toNat * 8)).block, (ad163.add ((x11_1).toNat * 8)).off + 2, none⟩ = some (.int .i64 ((rd_T60 l0 x11_1).f2.f0)) ∧ w10.cell? ⟨(ad163.add ((x11_1).toNat * 8)).block, (ad163.add ((x11_1).toNat * 8)).off + 3, none⟩ = some (.int .i64 ((rd_T60 l0 x11_1).f2.f1)) ∧ w10.cell? ⟨(ad163.add ((x11_1).toNat * 8)).block, (ad163.add ((x11_1).toNat * 8)).off + 4, none⟩ = some (.slice A163_4 ((rd_T60 l0 x11_1).f3).length c163_4) ∧ w10.cell? ⟨(ad163.add ((x11_1).toNat * 8)).block, (ad163.add ((x11_1).toNat * 8)).off + 5, none⟩ = some (.slice A163_5 ((rd_T60 l0 x11_1).f4).length c163_5) ∧ w10.cell? ⟨(ad163.add ((x11_1).toNat * 8)).block, (ad163.add ((x11_1).toNat * 8)).off + 6, none⟩ = some (.slice A163_6 ((rd_T60 l0 x11_1).f5).length c163_6) ∧ w10.cell? ⟨(ad163.add ((x11_1).toNat * 8)).block, (ad163.add ((x11_1).toNat * 8)).off + 7, none⟩ = some (.slice A163_7 ((rd_T60 l0 x11_1).f6).length c163_7) := hS_
            obtain ⟨Ao11, co11, eo11⟩ := Kd.R_slice HO169.out
            (first | subst eo11 | (injection eo11 with f1_ f2_ f3_; have f4_ := f1_.symm; have f5_ := f3_.symm; clear f1_ f2_ f3_; subst f4_; subst f5_))
            refine norm_ (a' := ?_) ?_ ?_
            rotate_left
            · simp only [putAll, Act.put, List.setIfInBounds_toArray, List.set_cons_zero, List.set_cons_succ]
              rfl
            refine one_ (i := 23) (N := none) #[true, true, true, true, true, true, true, true, true, true, true, true, true, true, true, true, true, true, true, true, true, true, true, true] rfl rfl (one_of HT_.out (by kernel_rfl)) (by decide) (fun K hK => ?_)
            have hs12 : w10.cell? ⟨gb170, 0, none⟩ = some (.int .i64 0) := (blk_cell BK170.out 0).trans rfl
            have hfs12 := blk_frozen BK170.out 0
            have hs13 : w10.cell? ⟨gb170, 1, none⟩ = some (.string (⟨#[]⟩ : ByteArray)) := (blk_cell BK170.out 1).trans rfl
            have hfs13 := blk_frozen BK170.out 1
            have hs14 : w10.cell? ⟨gb170, 2, none⟩ = some (.int .i64 0) := (blk_cell BK170.out 2).trans rfl
            have hfs14 := blk_frozen BK170.out 2
            have hs15 : w10.cell? ⟨gb170, 3, none⟩ = some (.int .i64 0) := (blk_cell BK170.out 3).trans rfl
            have hfs15 := blk_frozen BK170.out 3
            have hs16 : w10.cell? ⟨gb170, 4, none⟩ = some (.slice none 0 0) := (blk_cell BK170.out 4).trans rfl
            have hfs16 := blk_frozen BK170.out 4
            have hs17 : w10.cell? ⟨gb170, 5, none⟩ = some (.slice none 0 0) := (blk_cell BK170.out 5).trans rfl
            have hfs17 := blk_frozen BK170.out 5
            have hs18 : w10.cell? ⟨gb170, 6, none⟩ = some (.slice none 0 0) := (blk_cell BK170.out 6).trans rfl
            have hfs18 := blk_frozen BK170.out 6
            have hs19 : w10.cell? ⟨gb170, 7, none⟩ = some (.slice none 0 0) := (blk_cell BK170.out 7).trans rfl
            have hfs19 := blk_frozen BK170.out 7
            refine skip_ (w1 := ?_) (by rfl) rfl ?_ ?_
            rotate_left
            · go_simp
              rfl
            refine hK.out _ _ ⟨((cell_far (p := ⟨gb170, _, none⟩) (Go.Proofs.YtknbhbppofphpaaGreatDoor.MyWords.far_ne hw163_0 GW170.out) _).trans (((cell_far (p := ⟨gb170, _, none⟩) (Go.Proofs.YtknbhbppofphpaaGreatDoor.MyWords.far_ne hw163_0 GW170.out) _).trans (((cell_far (p := ⟨gb170, _, none⟩) (Go.Proofs.YtknbhbppofphpaaGreatDoor.MyWords.far_ne hw163_0 GW170.out) _).trans (((cell_far (p := ⟨gb170, _, none⟩) (Go.Proofs.YtknbhbppofphpaaGreatDoor.MyWords.far_ne hw163_0 GW170.out) _).trans (((cell_far (p := ⟨gb170, _, none⟩) (Go.Proofs.YtknbhbppofphpaaGreatDoor.MyWords.far_ne hw163_0 GW170.out) _).trans (((cell_far (p := ⟨gb170, _, none⟩) (Go.Proofs.YtknbhbppofphpaaGreatDoor.MyWords.far_ne hw163_0 GW170.out) _).trans (((cell_far (p := ⟨gb170, _, none⟩) (Go.Proofs.YtknbhbppofphpaaGreatDoor.MyWords.far_ne hw163_0 GW170.out) _).trans (((cell_far (p := ⟨gb170, _, none⟩) (Go.Proofs.YtknbhbppofphpaaGreatDoor.MyWords.far_ne hw163_0 GW170.out) _).trans (hHeld.1)))))))))))))))), ((cell_far (p := ⟨gb170, _, none⟩) (Go.Proofs.YtknbhbppofphpaaGreatDoor.MyWords.far_ne hw163_1 GW170.out) _).trans (((cell_far (p := ⟨gb170, _, none⟩) (Go.Proofs.YtknbhbppofphpaaGreatDoor.MyWords.far_ne hw163_1 GW170.out) _).trans (((cell_far (p := ⟨gb170, _, none⟩) (Go.Proofs.YtknbhbppofphpaaGreatDoor.MyWords.far_ne hw163_1 GW170.out) _).trans (((cell_far (p := ⟨gb170, _, none⟩) (Go.Proofs.YtknbhbppofphpaaGreatDoor.MyWords.far_ne hw163_1 GW170.out) _).trans (((cell_far (p := ⟨gb170, _, none⟩) (Go.Proofs.YtknbhbppofphpaaGreatDoor.MyWords.far_ne hw163_1 GW170.out) _).trans (((cell_far (p := ⟨gb170, _, none⟩) (Go.Proofs.YtknbhbppofphpaaGreatDoor.MyWords.far_ne hw163_1 GW170.out) _).trans (((cell_far (p := ⟨gb170, _, none⟩) (Go.Proofs.YtknbhbppofphpaaGreatDoor.MyWords.far_ne hw163_1 GW170.out) _).trans (((cell_far (p := ⟨gb170, _, none⟩) (Go.Proofs.YtknbhbppofphpaaGreatDoor.MyWords.far_ne hw163_1 GW170.out) _).trans (hHeld.2.1)))))))))))))))), ((cell_far (p := ⟨gb170, _, none⟩) (Go.Proofs.YtknbhbppofphpaaGreatDoor.MyWords.far_ne hw163_2 GW170.out) _).trans (((cell_far (p := ⟨gb170, _, none⟩) (Go.Proofs.YtknbhbppofphpaaGreatDoor.MyWords.far_ne hw163_2 GW170.out) _).trans (((cell_far (p := ⟨gb170, _, none⟩) (Go.Proofs.YtknbhbppofphpaaGreatDoor.MyWords.far_ne hw163_2 GW170.out) _).trans (((cell_far (p := ⟨gb170, _, none⟩) (Go.Proofs.YtknbhbppofphpaaGreatDoor.MyWords.far_ne hw163_2 GW170.out) _).trans (((cell_far (p := ⟨gb170, _, none⟩) (Go.Proofs.YtknbhbppofphpaaGreatDoor.MyWords.far_ne hw163_2 GW170.out) _).trans (((cell_far (p := ⟨gb170, _, none⟩) (Go.Proofs.YtknbhbppofphpaaGreatDoor.MyWords.far_ne hw163_2 GW170.out) _).trans (((cell_far (p := ⟨gb170, _, none⟩) (Go.Proofs.YtknbhbppofphpaaGreatDoor.MyWords.far_ne hw163_2 GW170.out) _).trans (((cell_far (p := ⟨gb170, _, none⟩) (Go.Proofs.YtknbhbppofphpaaGreatDoor.MyWords.far_ne hw163_2 GW170.out) _).trans (hHeld.2.2.1)))))))))))))))), ((cell_far (p := ⟨gb170, _, none⟩) (Go.Proofs.YtknbhbppofphpaaGreatDoor.MyWords.far_ne hw163_3 GW170.out) _).trans (((cell_far (p := ⟨gb170, _, none⟩) (Go.Proofs.YtknbhbppofphpaaGreatDoor.MyWords.far_ne hw163_3 GW170.out) _).trans (((cell_far (p := ⟨gb170, _, none⟩) (Go.Proofs.YtknbhbppofphpaaGreatDoor.MyWords.far_ne hw163_3 GW170.out) _).trans (((cell_far (p := ⟨gb170, _, none⟩) (Go.Proofs.YtknbhbppofphpaaGreatDoor.MyWords.far_ne hw163_3 GW170.out) _).trans (((cell_far (p := ⟨gb170, _, none⟩) (Go.Proofs.YtknbhbppofphpaaGreatDoor.MyWords.far_ne hw163_3 GW170.out) _).trans (((cell_far (p := ⟨gb170, _, none⟩) (Go.Proofs.YtknbhbppofphpaaGreatDoor.MyWords.far_ne hw163_3 GW170.out) _).trans (((cell_far (p := ⟨gb170, _, none⟩) (Go.Proofs.YtknbhbppofphpaaGreatDoor.MyWords.far_ne hw163_3 GW170.out) _).trans (((cell_far (p := ⟨gb170, _, none⟩) (Go.Proofs.YtknbhbppofphpaaGreatDoor.MyWords.far_ne hw163_3 GW170.out) _).trans (hHeld.2.2.2.1)))))))))))))))), ((cell_far (p := ⟨gb170, _, none⟩) (Go.Proofs.YtknbhbppofphpaaGreatDoor.MyWords.far_ne hw163_4 GW170.out) _).trans (((cell_far (p := ⟨gb170, _, none⟩) (Go.Proofs.YtknbhbppofphpaaGreatDoor.MyWords.far_ne hw163_4 GW170.out) _).trans (((cell_far (p := ⟨gb170, _, none⟩) (Go.Proofs.YtknbhbppofphpaaGreatDoor.MyWords.far_ne hw163_4 GW170.out) _).trans (((cell_far (p := ⟨gb170, _, none⟩) (Go.Proofs.YtknbhbppofphpaaGreatDoor.MyWords.far_ne hw163_4 GW170.out) _).trans (((cell_far (p := ⟨gb170, _, none⟩) (Go.Proofs.YtknbhbppofphpaaGreatDoor.MyWords.far_ne hw163_4 GW170.out) _).trans (((cell_far (p := ⟨gb170, _, none⟩) (Go.Proofs.YtknbhbppofphpaaGreatDoor.MyWords.far_ne hw163_4 GW170.out) _).trans (((cell_far (p := ⟨gb170, _, none⟩) (Go.Proofs.YtknbhbppofphpaaGreatDoor.MyWords.far_ne hw163_4 GW170.out) _).trans (((cell_far (p := ⟨gb170, _, none⟩) (Go.Proofs.YtknbhbppofphpaaGreatDoor.MyWords.far_ne hw163_4 GW170.out) _).trans (hHeld.2.2.2.2.1)))))))))))))))), ((cell_far (p := ⟨gb170, _, none⟩) (Go.Proofs.YtknbhbppofphpaaGreatDoor.MyWords.far_ne hw163_5 GW170.out) _).trans (((cell_far (p := ⟨gb170, _, none⟩) (Go.Proofs.YtknbhbppofphpaaGreatDoor.MyWords.far_ne hw163_5 GW170.out) _).trans (((cell_far (p := ⟨gb170, _, none⟩) (Go.Proofs.YtknbhbppofphpaaGreatDoor.MyWords.far_ne hw163_5 GW170.out) _).trans (((cell_far (p := ⟨gb170, _, none⟩) (Go.Proofs.YtknbhbppofphpaaGreatDoor.MyWords.far_ne hw163_5 GW170.out) _).trans (((cell_far (p := ⟨gb170, _, none⟩) (Go.Proofs.YtknbhbppofphpaaGreatDoor.MyWords.far_ne hw163_5 GW170.out) _).trans (((cell_far (p := ⟨gb170, _, none⟩) (Go.Proofs.YtknbhbppofphpaaGreatDoor.MyWords.far_ne hw163_5 GW170.out) _).trans (((cell_far (p := ⟨gb170, _, none⟩) (Go.Proofs.YtknbhbppofphpaaGreatDoor.MyWords.far_ne hw163_5 GW170.out) _).trans (((cell_far (p := ⟨gb170, _, none⟩) (Go.Proofs.YtknbhbppofphpaaGreatDoor.MyWords.far_ne hw163_5 GW170.out) _).trans (hHeld.2.2.2.2.2.1)))))))))))))))), ((cell_far (p := ⟨gb170, _, none⟩) (Go.Proofs.YtknbhbppofphpaaGreatDoor.MyWords.far_ne hw163_6 GW170.out) _).trans (((cell_far (p := ⟨gb170, _, none⟩) (Go.Proofs.YtknbhbppofphpaaGreatDoor.MyWords.far_ne hw163_6 GW170.out) _).trans (((cell_far (p := ⟨gb170, _, none⟩) (Go.Proofs.YtknbhbppofphpaaGreatDoor.MyWords.far_ne hw163_6 GW170.out) _).trans (((cell_far (p := ⟨gb170, _, none⟩) (Go.Proofs.YtknbhbppofphpaaGreatDoor.MyWords.far_ne hw163_6 GW170.out) _).trans (((cell_far (p := ⟨gb170, _, none⟩) (Go.Proofs.YtknbhbppofphpaaGreatDoor.MyWords.far_ne hw163_6 GW170.out) _).trans (((cell_far (p := ⟨gb170, _, none⟩) (Go.Proofs.YtknbhbppofphpaaGreatDoor.MyWords.far_ne hw163_6 GW170.out) _).trans (((cell_far (p := ⟨gb170, _, none⟩) (Go.Proofs.YtknbhbppofphpaaGreatDoor.MyWords.far_ne hw163_6 GW170.out) _).trans (((cell_far (p := ⟨gb170, _, none⟩) (Go.Proofs.YtknbhbppofphpaaGreatDoor.MyWords.far_ne hw163_6 GW170.out) _).trans (hHeld.2.2.2.2.2.2.1)))))))))))))))), ((cell_far (p := ⟨gb170, _, none⟩) (Go.Proofs.YtknbhbppofphpaaGreatDoor.MyWords.far_ne hw163_7 GW170.out) _).trans (((cell_far (p := ⟨gb170, _, none⟩) (Go.Proofs.YtknbhbppofphpaaGreatDoor.MyWords.far_ne hw163_7 GW170.out) _).trans (((cell_far (p := ⟨gb170, _, none⟩) (Go.Proofs.YtknbhbppofphpaaGreatDoor.MyWords.far_ne hw163_7 GW170.out) _).trans (((cell_far (p := ⟨gb170, _, none⟩) (Go.Proofs.YtknbhbppofphpaaGreatDoor.MyWords.far_ne hw163_7 GW170.out) _).trans (((cell_far (p := ⟨gb170, _, none⟩) (Go.Proofs.YtknbhbppofphpaaGreatDoor.MyWords.far_ne hw163_7 GW170.out) _).trans (((cell_far (p := ⟨gb170, _, none⟩) (Go.Proofs.YtknbhbppofphpaaGreatDoor.MyWords.far_ne hw163_7 GW170.out) _).trans (((cell_far (p := ⟨gb170, _, none⟩) (Go.Proofs.YtknbhbppofphpaaGreatDoor.MyWords.far_ne hw163_7 GW170.out) _).trans (((cell_far (p := ⟨gb170, _, none⟩) (Go.Proofs.YtknbhbppofphpaaGreatDoor.MyWords.far_ne hw163_7 GW170.out) _).trans (hHeld.2.2.2.2.2.2.2.1)))))))))))))))), ((cell_far (p := ⟨gb170, _, none⟩) (Go.Proofs.YtknbhbppofphpaaGreatDoor.MyWords.far_ne hw164_0 GW170.out) _).trans (((cell_far (p := ⟨gb170, _, none⟩) (Go.Proofs.YtknbhbppofphpaaGreatDoor.MyWords.far_ne hw164_0 GW170.out) _).trans (((cell_far (p := ⟨gb170, _, none⟩) (Go.Proofs.YtknbhbppofphpaaGreatDoor.MyWords.far_ne hw164_0 GW170.out) _).trans (((cell_far (p := ⟨gb170, _, none⟩) (Go.Proofs.YtknbhbppofphpaaGreatDoor.MyWords.far_ne hw164_0 GW170.out) _).trans (((cell_far (p := ⟨gb170, _, none⟩) (Go.Proofs.YtknbhbppofphpaaGreatDoor.MyWords.far_ne hw164_0 GW170.out) _).trans (((cell_far (p := ⟨gb170, _, none⟩) (Go.Proofs.YtknbhbppofphpaaGreatDoor.MyWords.far_ne hw164_0 GW170.out) _).trans (((cell_far (p := ⟨gb170, _, none⟩) (Go.Proofs.YtknbhbppofphpaaGreatDoor.MyWords.far_ne hw164_0 GW170.out) _).trans (((cell_far (p := ⟨gb170, _, none⟩) (Go.Proofs.YtknbhbppofphpaaGreatDoor.MyWords.far_ne hw164_0 GW170.out) _).trans (hHeld.2.2.2.2.2.2.2.2.1)))))))))))))))), ((cell_far (p := ⟨gb170, _, none⟩) (Go.Proofs.YtknbhbppofphpaaGreatDoor.MyWords.far_ne hw164_1 GW170.out) _).trans (((cell_far (p := ⟨gb170, _, none⟩) (Go.Proofs.YtknbhbppofphpaaGreatDoor.MyWords.far_ne hw164_1 GW170.out) _).trans (((cell_far (p := ⟨gb170, _, none⟩) (Go.Proofs.YtknbhbppofphpaaGreatDoor.MyWords.far_ne hw164_1 GW170.out) _).trans (((cell_far (p := ⟨gb170, _, none⟩) (Go.Proofs.YtknbhbppofphpaaGreatDoor.MyWords.far_ne hw164_1 GW170.out) _).trans (((cell_far (p := ⟨gb170, _, none⟩) (Go.Proofs.YtknbhbppofphpaaGreatDoor.MyWords.far_ne hw164_1 GW170.out) _).trans (((cell_far (p := ⟨gb170, _, none⟩) (Go.Proofs.YtknbhbppofphpaaGreatDoor.MyWords.far_ne hw164_1 GW170.out) _).trans (((cell_far (p := ⟨gb170, _, none⟩) (Go.Proofs.YtknbhbppofphpaaGreatDoor.MyWords.far_ne hw164_1 GW170.out) _).trans (((cell_far (p := ⟨gb170, _, none⟩) (Go.Proofs.YtknbhbppofphpaaGreatDoor.MyWords.far_ne hw164_1 GW170.out) _).trans (hHeld.2.2.2.2.2.2.2.2.2.1)))))))))))))))), ((cell_far (p := ⟨gb170, _, none⟩) (Go.Proofs.YtknbhbppofphpaaGreatDoor.MyWords.far_ne hw164_2 GW170.out) _).trans (((cell_far (p := ⟨gb170, _, none⟩) (Go.Proofs.YtknbhbppofphpaaGreatDoor.MyWords.far_ne hw164_2 GW170.out) _).trans (((cell_far (p := ⟨gb170, _, none⟩) (Go.Proofs.YtknbhbppofphpaaGreatDoor.MyWords.far_ne hw164_2 GW170.out) _).trans (((cell_far (p := ⟨gb170, _, none⟩) (Go.Proofs.YtknbhbppofphpaaGreatDoor.MyWords.far_ne hw164_2 GW170.out) _).trans (((cell_far (p := ⟨gb170, _, none⟩) (Go.Proofs.YtknbhbppofphpaaGreatDoor.MyWords.far_ne hw164_2 GW170.out) _).trans (((cell_far (p := ⟨gb170, _, none⟩) (Go.Proofs.YtknbhbppofphpaaGreatDoor.MyWords.far_ne hw164_2 GW170.out) _).trans (((cell_far (p := ⟨gb170, _, none⟩) (Go.Proofs.YtknbhbppofphpaaGreatDoor.MyWords.far_ne hw164_2 GW170.out) _).trans (((cell_far (p := ⟨gb170, _, none⟩) (Go.Proofs.YtknbhbppofphpaaGreatDoor.MyWords.far_ne hw164_2 GW170.out) _).trans (hHeld.2.2.2.2.2.2.2.2.2.2.1)))))))))))))))), ((cell_far (p := ⟨gb170, _, none⟩) (Go.Proofs.YtknbhbppofphpaaGreatDoor.MyWords.far_ne hw164_3 GW170.out) _).trans (((cell_far (p := ⟨gb170, _, none⟩) (Go.Proofs.YtknbhbppofphpaaGreatDoor.MyWords.far_ne hw164_3 GW170.out) _).trans (((cell_far (p := ⟨gb170, _, none⟩) (Go.Proofs.YtknbhbppofphpaaGreatDoor.MyWords.far_ne hw164_3 GW170.out) _).trans (((cell_far (p := ⟨gb170, _, none⟩) (Go.Proofs.YtknbhbppofphpaaGreatDoor.MyWords.far_ne hw164_3 GW170.out) _).trans (((cell_far (p := ⟨gb170, _, none⟩) (Go.Proofs.YtknbhbppofphpaaGreatDoor.MyWords.far_ne hw164_3 GW170.out) _).trans (((cell_far (p := ⟨gb170, _, none⟩) (Go.Proofs.YtknbhbppofphpaaGreatDoor.MyWords.far_ne hw164_3 GW170.out) _).trans (((cell_far (p := ⟨gb170, _, none⟩) (Go.Proofs.YtknbhbppofphpaaGreatDoor.MyWords.far_ne hw164_3 GW170.out) _).trans (((cell_far (p := ⟨gb170, _, none⟩) (Go.Proofs.YtknbhbppofphpaaGreatDoor.MyWords.far_ne hw164_3 GW170.out) _).trans (hHeld.2.2.2.2.2.2.2.2.2.2.2.1)))))))))))))))), ((cell_far (p := ⟨gb170, _, none⟩) (Go.Proofs.YtknbhbppofphpaaGreatDoor.MyWords.far_ne hw164_4 GW170.out) _).trans (((cell_far (p := ⟨gb170, _, none⟩) (Go.Proofs.YtknbhbppofphpaaGreatDoor.MyWords.far_ne hw164_4 GW170.out) _).trans (((cell_far (p := ⟨gb170, _, none⟩) (Go.Proofs.YtknbhbppofphpaaGreatDoor.MyWords.far_ne hw164_4 GW170.out) _).trans (((cell_far (p := ⟨gb170, _, none⟩) (Go.Proofs.YtknbhbppofphpaaGreatDoor.MyWords.far_ne hw164_4 GW170.out) _).trans (((cell_far (p := ⟨gb170, _, none⟩) (Go.Proofs.YtknbhbppofphpaaGreatDoor.MyWords.far_ne hw164_4 GW170.out) _).trans (((cell_far (p := ⟨gb170, _, none⟩) (Go.Proofs.YtknbhbppofphpaaGreatDoor.MyWords.far_ne hw164_4 GW170.out) _).trans (((cell_far (p := ⟨gb170, _, none⟩) (Go.Proofs.YtknbhbppofphpaaGreatDoor.MyWords.far_ne hw164_4 GW170.out) _).trans (((cell_far (p := ⟨gb170, _, none⟩) (Go.Proofs.YtknbhbppofphpaaGreatDoor.MyWords.far_ne hw164_4 GW170.out) _).trans (hHeld.2.2.2.2.2.2.2.2.2.2.2.2.1)))))))))))))))), ((cell_far (p := ⟨gb170, _, none⟩) (Go.Proofs.YtknbhbppofphpaaGreatDoor.MyWords.far_ne hw164_5 GW170.out) _).trans (((cell_far (p := ⟨gb170, _, none⟩) (Go.Proofs.YtknbhbppofphpaaGreatDoor.MyWords.far_ne hw164_5 GW170.out) _).trans (((cell_far (p := ⟨gb170, _, none⟩) (Go.Proofs.YtknbhbppofphpaaGreatDoor.MyWords.far_ne hw164_5 GW170.out) _).trans (((cell_far (p := ⟨gb170, _, none⟩) (Go.Proofs.YtknbhbppofphpaaGreatDoor.MyWords.far_ne hw164_5 GW170.out) _).trans (((cell_far (p := ⟨gb170, _, none⟩) (Go.Proofs.YtknbhbppofphpaaGreatDoor.MyWords.far_ne hw164_5 GW170.out) _).trans (((cell_far (p := ⟨gb170, _, none⟩) (Go.Proofs.YtknbhbppofphpaaGreatDoor.MyWords.far_ne hw164_5 GW170.out) _).trans (((cell_far (p := ⟨gb170, _, none⟩) (Go.Proofs.YtknbhbppofphpaaGreatDoor.MyWords.far_ne hw164_5 GW170.out) _).trans (((cell_far (p := ⟨gb170, _, none⟩) (Go.Proofs.YtknbhbppofphpaaGreatDoor.MyWords.far_ne hw164_5 GW170.out) _).trans (hHeld.2.2.2.2.2.2.2.2.2.2.2.2.2.1)))))))))))))))), ((cell_far (p := ⟨gb170, _, none⟩) (Go.Proofs.YtknbhbppofphpaaGreatDoor.MyWords.far_ne hw164_6 GW170.out) _).trans (((cell_far (p := ⟨gb170, _, none⟩) (Go.Proofs.YtknbhbppofphpaaGreatDoor.MyWords.far_ne hw164_6 GW170.out) _).trans (((cell_far (p := ⟨gb170, _, none⟩) (Go.Proofs.YtknbhbppofphpaaGreatDoor.MyWords.far_ne hw164_6 GW170.out) _).trans (((cell_far (p := ⟨gb170, _, none⟩) (Go.Proofs.YtknbhbppofphpaaGreatDoor.MyWords.far_ne hw164_6 GW170.out) _).trans (((cell_far (p := ⟨gb170, _, none⟩) (Go.Proofs.YtknbhbppofphpaaGreatDoor.MyWords.far_ne hw164_6 GW170.out) _).trans (((cell_far (p := ⟨gb170, _, none⟩) (Go.Proofs.YtknbhbppofphpaaGreatDoor.MyWords.far_ne hw164_6 GW170.out) _).trans (((cell_far (p := ⟨gb170, _, none⟩) (Go.Proofs.YtknbhbppofphpaaGreatDoor.MyWords.far_ne hw164_6 GW170.out) _).trans (((cell_far (p := ⟨gb170, _, none⟩) (Go.Proofs.YtknbhbppofphpaaGreatDoor.MyWords.far_ne hw164_6 GW170.out) _).trans (hHeld.2.2.2.2.2.2.2.2.2.2.2.2.2.2.1)))))))))))))))), ((cell_far (p := ⟨gb170, _, none⟩) (Go.Proofs.YtknbhbppofphpaaGreatDoor.MyWords.far_ne hw164_7 GW170.out) _).trans (((cell_far (p := ⟨gb170, _, none⟩) (Go.Proofs.YtknbhbppofphpaaGreatDoor.MyWords.far_ne hw164_7 GW170.out) _).trans (((cell_far (p := ⟨gb170, _, none⟩) (Go.Proofs.YtknbhbppofphpaaGreatDoor.MyWords.far_ne hw164_7 GW170.out) _).trans (((cell_far (p := ⟨gb170, _, none⟩) (Go.Proofs.YtknbhbppofphpaaGreatDoor.MyWords.far_ne hw164_7 GW170.out) _).trans (((cell_far (p := ⟨gb170, _, none⟩) (Go.Proofs.YtknbhbppofphpaaGreatDoor.MyWords.far_ne hw164_7 GW170.out) _).trans (((cell_far (p := ⟨gb170, _, none⟩) (Go.Proofs.YtknbhbppofphpaaGreatDoor.MyWords.far_ne hw164_7 GW170.out) _).trans (((cell_far (p := ⟨gb170, _, none⟩) (Go.Proofs.YtknbhbppofphpaaGreatDoor.MyWords.far_ne hw164_7 GW170.out) _).trans (((cell_far (p := ⟨gb170, _, none⟩) (Go.Proofs.YtknbhbppofphpaaGreatDoor.MyWords.far_ne hw164_7 GW170.out) _).trans (hHeld.2.2.2.2.2.2.2.2.2.2.2.2.2.2.2.1)))))))))))))))), ((cell_far (p := ⟨gb170, _, none⟩) (Go.Proofs.YtknbhbppofphpaaGreatDoor.MyWords.far_ne hw165_0 GW170.out) _).trans (((cell_far (p := ⟨gb170, _, none⟩) (Go.Proofs.YtknbhbppofphpaaGreatDoor.MyWords.far_ne hw165_0 GW170.out) _).trans (((cell_far (p := ⟨gb170, _, none⟩) (Go.Proofs.YtknbhbppofphpaaGreatDoor.MyWords.far_ne hw165_0 GW170.out) _).trans (((cell_far (p := ⟨gb170, _, none⟩) (Go.Proofs.YtknbhbppofphpaaGreatDoor.MyWords.far_ne hw165_0 GW170.out) _).trans (((cell_far (p := ⟨gb170, _, none⟩) (Go.Proofs.YtknbhbppofphpaaGreatDoor.MyWords.far_ne hw165_0 GW170.out) _).trans (((cell_far (p := ⟨gb170, _, none⟩) (Go.Proofs.YtknbhbppofphpaaGreatDoor.MyWords.far_ne hw165_0 GW170.out) _).trans (((cell_far (p := ⟨gb170, _, none⟩) (Go.Proofs.YtknbhbppofphpaaGreatDoor.MyWords.far_ne hw165_0 GW170.out) _).trans (((cell_far (p := ⟨gb170, _, none⟩) (Go.Proofs.YtknbhbppofphpaaGreatDoor.MyWords.far_ne hw165_0 GW170.out) _).trans (hHeld.2.2.2.2.2.2.2.2.2.2.2.2.2.2.2.2.1)))))))))))))))), ((cell_far (p := ⟨gb170, _, none⟩) (Go.Proofs.YtknbhbppofphpaaGreatDoor.MyWords.far_ne hw165_1 GW170.out) _).trans (((cell_far (p := ⟨gb170, _, none⟩) (Go.Proofs.YtknbhbppofphpaaGreatDoor.MyWords.far_ne hw165_1 GW170.out) _).trans (((cell_far (p := ⟨gb170, _, none⟩) (Go.Proofs.YtknbhbppofphpaaGreatDoor.MyWords.far_ne hw165_1 GW170.out) _).trans (((cell_far (p := ⟨gb170, _, none⟩) (Go.Proofs.YtknbhbppofphpaaGreatDoor.MyWords.far_ne hw165_1 GW170.out) _).trans (((cell_far (p := ⟨gb170, _, none⟩) (Go.Proofs.YtknbhbppofphpaaGreatDoor.MyWords.far_ne hw165_1 GW170.out) _).trans (((cell_far (p := ⟨gb170, _, none⟩) (Go.Proofs.YtknbhbppofphpaaGreatDoor.MyWords.far_ne hw165_1 GW170.out) _).trans (((cell_far (p := ⟨gb170, _, none⟩) (Go.Proofs.YtknbhbppofphpaaGreatDoor.MyWords.far_ne hw165_1 GW170.out) _).trans (((cell_far (p := ⟨gb170, _, none⟩) (Go.Proofs.YtknbhbppofphpaaGreatDoor.MyWords.far_ne hw165_1 GW170.out) _).trans (hHeld.2.2.2.2.2.2.2.2.2.2.2.2.2.2.2.2.2.1)))))))))))))))), ((cell_far (p := ⟨gb170, _, none⟩) (Go.Proofs.YtknbhbppofphpaaGreatDoor.MyWords.far_ne hw165_2 GW170.out) _).trans (((cell_far (p := ⟨gb170, _, none⟩) (Go.Proofs.YtknbhbppofphpaaGreatDoor.MyWords.far_ne hw165_2 GW170.out) _).trans (((cell_far (p := ⟨gb170, _, none⟩) (Go.Proofs.YtknbhbppofphpaaGreatDoor.MyWords.far_ne hw165_2 GW170.out) _).trans (((cell_far (p := ⟨gb170, _, none⟩) (Go.Proofs.YtknbhbppofphpaaGreatDoor.MyWords.far_ne hw165_2 GW170.out) _).trans (((cell_far (p := ⟨gb170, _, none⟩) (Go.Proofs.YtknbhbppofphpaaGreatDoor.MyWords.far_ne hw165_2 GW170.out) _).trans (((cell_far (p := ⟨gb170, _, none⟩) (Go.Proofs.YtknbhbppofphpaaGreatDoor.MyWords.far_ne hw165_2 GW170.out) _).trans (((cell_far (p := ⟨gb170, _, none⟩) (Go.Proofs.YtknbhbppofphpaaGreatDoor.MyWords.far_ne hw165_2 GW170.out) _).trans (((cell_far (p := ⟨gb170, _, none⟩) (Go.Proofs.YtknbhbppofphpaaGreatDoor.MyWords.far_ne hw165_2 GW170.out) _).trans (hHeld.2.2.2.2.2.2.2.2.2.2.2.2.2.2.2.2.2.2.1)))))))))))))))), ((cell_far (p := ⟨gb170, _, none⟩) (Go.Proofs.YtknbhbppofphpaaGreatDoor.MyWords.far_ne hw165_3 GW170.out) _).trans (((cell_far (p := ⟨gb170, _, none⟩) (Go.Proofs.YtknbhbppofphpaaGreatDoor.MyWords.far_ne hw165_3 GW170.out) _).trans (((cell_far (p := ⟨gb170, _, none⟩) (Go.Proofs.YtknbhbppofphpaaGreatDoor.MyWords.far_ne hw165_3 GW170.out) _).trans (((cell_far (p := ⟨gb170, _, none⟩) (Go.Proofs.YtknbhbppofphpaaGreatDoor.MyWords.far_ne hw165_3 GW170.out) _).trans (((cell_far (p := ⟨gb170, _, none⟩) (Go.Proofs.YtknbhbppofphpaaGreatDoor.MyWords.far_ne hw165_3 GW170.out) _).trans (((cell_far (p := ⟨gb170, _, none⟩) (Go.Proofs.YtknbhbppofphpaaGreatDoor.MyWords.far_ne hw165_3 GW170.out) _).trans (((cell_far (p := ⟨gb170, _, none⟩) (Go.Proofs.YtknbhbppofphpaaGreatDoor.MyWords.far_ne hw165_3 GW170.out) _).trans (((cell_far (p := ⟨gb170, _, none⟩) (Go.Proofs.YtknbhbppofphpaaGreatDoor.MyWords.far_ne hw165_3 GW170.out) _).trans (hHeld.2.2.2.2.2.2.2.2.2.2.2.2.2.2.2.2.2.2.2.1)))))))))))))))), ((cell_far (p := ⟨gb170, _, none⟩) (Go.Proofs.YtknbhbppofphpaaGreatDoor.MyWords.far_ne hw165_4 GW170.out) _).trans (((cell_far (p := ⟨gb170, _, none⟩) (Go.Proofs.YtknbhbppofphpaaGreatDoor.MyWords.far_ne hw165_4 GW170.out) _).trans (((cell_far (p := ⟨gb170, _, none⟩) (Go.Proofs.YtknbhbppofphpaaGreatDoor.MyWords.far_ne hw165_4 GW170.out) _).trans (((cell_far (p := ⟨gb170, _, none⟩) (Go.Proofs.YtknbhbppofphpaaGreatDoor.MyWords.far_ne hw165_4 GW170.out) _).trans (((cell_far (p := ⟨gb170, _, none⟩) (Go.Proofs.YtknbhbppofphpaaGreatDoor.MyWords.far_ne hw165_4 GW170.out) _).trans (((cell_far (p := ⟨gb170, _, none⟩) (Go.Proofs.YtknbhbppofphpaaGreatDoor.MyWords.far_ne hw165_4 GW170.out) _).trans (((cell_far (p := ⟨gb170, _, none⟩) (Go.Proofs.YtknbhbppofphpaaGreatDoor.MyWords.far_ne hw165_4 GW170.out) _).trans (((cell_far (p := ⟨gb170, _, none⟩) (Go.Proofs.YtknbhbppofphpaaGreatDoor.MyWords.far_ne hw165_4 GW170.out) _).trans (hHeld.2.2.2.2.2.2.2.2.2.2.2.2.2.2.2.2.2.2.2.2.1)))))))))))))))), ((cell_far (p := ⟨gb170, _, none⟩) (Go.Proofs.YtknbhbppofphpaaGreatDoor.MyWords.far_ne hw165_5 GW170.out) _).trans (((cell_far (p := ⟨gb170, _, none⟩) (Go.Proofs.YtknbhbppofphpaaGreatDoor.MyWords.far_ne hw165_5 GW170.out) _).trans (((cell_far (p := ⟨gb170, _, none⟩) (Go.Proofs.YtknbhbppofphpaaGreatDoor.MyWords.far_ne hw165_5 GW170.out) _).trans (((cell_far (p := ⟨gb170, _, none⟩) (Go.Proofs.YtknbhbppofphpaaGreatDoor.MyWords.far_ne hw165_5 GW170.out) _).trans (((cell_far (p := ⟨gb170, _, none⟩) (Go.Proofs.YtknbhbppofphpaaGreatDoor.MyWords.far_ne hw165_5 GW170.out) _).trans (((cell_far (p := ⟨gb170, _, none⟩) (Go.Proofs.YtknbhbppofphpaaGreatDoor.MyWords.far_ne hw165_5 GW170.out) _).trans (((cell_far (p := ⟨gb170, _, none⟩) (Go.Proofs.YtknbhbppofphpaaGreatDoor.MyWords.far_ne hw165_5 GW170.out) _).trans (((cell_far (p := ⟨gb170, _, none⟩) (Go.Proofs.YtknbhbppofphpaaGreatDoor.MyWords.far_ne hw165_5 GW170.out) _).trans (hHeld.2.2.2.2.2.2.2.2.2.2.2.2.2.2.2.2.2.2.2.2.2.1)))))))))))))))), ((cell_far (p := ⟨gb170, _, none⟩) (Go.Proofs.YtknbhbppofphpaaGreatDoor.MyWords.far_ne hw165_6 GW170.out) _).trans (((cell_far (p := ⟨gb170, _, none⟩) (Go.Proofs.YtknbhbppofphpaaGreatDoor.MyWords.far_ne hw165_6 GW170.out) _).trans (((cell_far (p := ⟨gb170, _, none⟩) (Go.Proofs.YtknbhbppofphpaaGreatDoor.MyWords.far_ne hw165_6 GW170.out) _).trans (((cell_far (p := ⟨gb170, _, none⟩) (Go.Proofs.YtknbhbppofphpaaGreatDoor.MyWords.far_ne hw165_6 GW170.out) _).trans (((cell_far (p := ⟨gb170, _, none⟩) (Go.Proofs.YtknbhbppofphpaaGreatDoor.MyWords.far_ne hw165_6 GW170.out) _).trans (((cell_far (p := ⟨gb170, _, none⟩) (Go.Proofs.YtknbhbppofphpaaGreatDoor.MyWords.far_ne hw165_6 GW170.out) _).trans (((cell_far (p := ⟨gb170, _, none⟩) (Go.Proofs.YtknbhbppofphpaaGreatDoor.MyWords.far_ne hw165_6 GW170.out) _).trans (((cell_far (p := ⟨gb170, _, none⟩) (Go.Proofs.YtknbhbppofphpaaGreatDoor.MyWords.far_ne hw165_6 GW170.out) _).trans (hHeld.2.2.2.2.2.2.2.2.2.2.2.2.2.2.2.2.2.2.2.2.2.2.1)))))))))))))))), ((cell_far (p := ⟨gb170, _, none⟩) (Go.Proofs.YtknbhbppofphpaaGreatDoor.MyWords.far_ne hw165_7 GW170.out) _).trans (((cell_far (p := ⟨gb170, _, none⟩) (Go.Proofs.YtknbhbppofphpaaGreatDoor.MyWords.far_ne hw165_7 GW170.out) _).trans (((cell_far (p := ⟨gb170, _, none⟩) (Go.Proofs.YtknbhbppofphpaaGreatDoor.MyWords.far_ne hw165_7 GW170.out) _).trans (((cell_far (p := ⟨gb170, _, none⟩) (Go.Proofs.YtknbhbppofphpaaGreatDoor.MyWords.far_ne hw165_7 GW170.out) _).trans (((cell_far (p := ⟨gb170, _, none⟩) (Go.Proofs.YtknbhbppofphpaaGreatDoor.MyWords.far_ne hw165_7 GW170.out) _).trans (((cell_far (p := ⟨gb170, _, none⟩) (Go.Proofs.YtknbhbppofphpaaGreatDoor.MyWords.far_ne hw165_7 GW170.out) _).trans (((cell_far (p := ⟨gb170, _, none⟩) (Go.Proofs.YtknbhbppofphpaaGreatDoor.MyWords.far_ne hw165_7 GW170.out) _).trans (((cell_far (p := ⟨gb170, _, none⟩) (Go.Proofs.YtknbhbppofphpaaGreatDoor.MyWords.far_ne hw165_7 GW170.out) _).trans (hHeld.2.2.2.2.2.2.2.2.2.2.2.2.2.2.2.2.2.2.2.2.2.2.2.1)))))))))))))))), ((cell_far (p := ⟨gb170, _, none⟩) (Go.Proofs.YtknbhbppofphpaaGreatDoor.MyWords.far_ne hw166_0 GW170.out) _).trans (((cell_far (p := ⟨gb170, _, none⟩) (Go.Proofs.YtknbhbppofphpaaGreatDoor.MyWords.far_ne hw166_0 GW170.out) _).trans (((cell_far (p := ⟨gb170, _, none⟩) (Go.Proofs.YtknbhbppofphpaaGreatDoor.MyWords.far_ne hw166_0 GW170.out) _).trans (((cell_far (p := ⟨gb170, _, none⟩) (Go.Proofs.YtknbhbppofphpaaGreatDoor.MyWords.far_ne hw166_0 GW170.out) _).trans (((cell_far (p := ⟨gb170, _, none⟩) (Go.Proofs.YtknbhbppofphpaaGreatDoor.MyWords.far_ne hw166_0 GW170.out) _).trans (((cell_far (p := ⟨gb170, _, none⟩) (Go.Proofs.YtknbhbppofphpaaGreatDoor.MyWords.far_ne hw166_0 GW170.out) _).trans (((cell_far (p := ⟨gb170, _, none⟩) (Go.Proofs.YtknbhbppofphpaaGreatDoor.MyWords.far_ne hw166_0 GW170.out) _).trans (((cell_far (p := ⟨gb170, _, none⟩) (Go.Proofs.YtknbhbppofphpaaGreatDoor.MyWords.far_ne hw166_0 GW170.out) _).trans (hHeld.2.2.2.2.2.2.2.2.2.2.2.2.2.2.2.2.2.2.2.2.2.2.2.2.1)))))))))))))))), ((cell_far (p := ⟨gb170, _, none⟩) (Go.Proofs.YtknbhbppofphpaaGreatDoor.MyWords.far_ne hw166_1 GW170.out) _).trans (((cell_far (p := ⟨gb170, _, none⟩) (Go.Proofs.YtknbhbppofphpaaGreatDoor.MyWords.far_ne hw166_1 GW170.out) _).trans (((cell_far (p := ⟨gb170, _, none⟩) (Go.Proofs.YtknbhbppofphpaaGreatDoor.MyWords.far_ne hw166_1 GW170.out) _).trans (((cell_far (p := ⟨gb170, _, none⟩) (Go.Proofs.YtknbhbppofphpaaGreatDoor.MyWords.far_ne hw166_1 GW170.out) _).trans (((cell_far (p := ⟨gb170, _, none⟩) (Go.Proofs.YtknbhbppofphpaaGreatDoor.MyWords.far_ne hw166_1 GW170.out) _).trans (((cell_far (p := ⟨gb170, _, none⟩) (Go.Proofs.YtknbhbppofphpaaGreatDoor.MyWords.far_ne hw166_1 GW170.out) _).trans (((cell_far (p := ⟨gb170, _, none⟩) (Go.Proofs.YtknbhbppofphpaaGreatDoor.MyWords.far_ne hw166_1 GW170.out) _).trans (((cell_far (p := ⟨gb170, _, none⟩) (Go.Proofs.YtknbhbppofphpaaGreatDoor.MyWords.far_ne hw166_1 GW170.out) _).trans (hHeld.2.2.2.2.2.2.2.2.2.2.2.2.2.2.2.2.2.2.2.2.2.2.2.2.2.1)))))))))))))))), ((cell_far (p := ⟨gb170, _, none⟩) (Go.Proofs.YtknbhbppofphpaaGreatDoor.MyWords.far_ne hw166_2 GW170.out) _).trans (((cell_far (p := ⟨gb170, _, none⟩) (Go.Proofs.YtknbhbppofphpaaGreatDoor.MyWords.far_ne hw166_2 GW170.out) _).trans (((cell_far (p := ⟨gb170, _, none⟩) (Go.Proofs.YtknbhbppofphpaaGreatDoor.MyWords.far_ne hw166_2 GW170.out) _).trans (((cell_far (p := ⟨gb170, _, none⟩) (Go.Proofs.YtknbhbppofphpaaGreatDoor.MyWords.far_ne hw166_2 GW170.out) _).trans (((cell_far (p := ⟨gb170, _, none⟩) (Go.Proofs.YtknbhbppofphpaaGreatDoor.MyWords.far_ne hw166_2 GW170.out) _).trans (((cell_far (p := ⟨gb170, _, none⟩) (Go.Proofs.YtknbhbppofphpaaGreatDoor.MyWords.far_ne hw166_2 GW170.out) _).trans (((cell_far (p := ⟨gb170, _, none⟩) (Go.Proofs.YtknbhbppofphpaaGreatDoor.MyWords.far_ne hw166_2 GW170.out) _).trans (((cell_far (p := ⟨gb170, _, none⟩) (Go.Proofs.YtknbhbppofphpaaGreatDoor.MyWords.far_ne hw166_2 GW170.out) _).trans (hHeld.2.2.2.2.2.2.2.2.2.2.2.2.2.2.2.2.2.2.2.2.2.2.2.2.2.2.1)))))))))))))))), ((cell_far (p := ⟨gb170, _, none⟩) (Go.Proofs.YtknbhbppofphpaaGreatDoor.MyWords.far_ne hw166_3 GW170.out) _).trans (((cell_far (p := ⟨gb170, _, none⟩) (Go.Proofs.YtknbhbppofphpaaGreatDoor.MyWords.far_ne hw166_3 GW170.out) _).trans (((cell_far (p := ⟨gb170, _, none⟩) (Go.Proofs.YtknbhbppofphpaaGreatDoor.MyWords.far_ne hw166_3 GW170.out) _).trans (((cell_far (p := ⟨gb170, _, none⟩) (Go.Proofs.YtknbhbppofphpaaGreatDoor.MyWords.far_ne hw166_3 GW170.out) _).trans (((cell_far (p := ⟨gb170, _, none⟩) (Go.Proofs.YtknbhbppofphpaaGreatDoor.MyWords.far_ne hw166_3 GW170.out) _).trans (((cell_far (p := ⟨gb170, _, none⟩) (Go.Proofs.YtknbhbppofphpaaGreatDoor.MyWords.far_ne hw166_3 GW170.out) _).trans (((cell_far (p := ⟨gb170, _, none⟩) (Go.Proofs.YtknbhbppofphpaaGreatDoor.MyWords.far_ne hw166_3 GW170.out) _).trans (((cell_far (p := ⟨gb170, _, none⟩) (Go.Proofs.YtknbhbppofphpaaGreatDoor.MyWords.far_ne hw166_3 GW170.out) _).trans (hHeld.2.2.2.2.2.2.2.2.2.2.2.2.2.2.2.2.2.2.2.2.2.2.2.2.2.2.2.1)))))))))))))))), ((cell_far (p := ⟨gb170, _, none⟩) (Go.Proofs.YtknbhbppofphpaaGreatDoor.MyWords.far_ne hw166_4 GW170.out) _).trans (((cell_far (p := ⟨gb170, _, none⟩) (Go.Proofs.YtknbhbppofphpaaGreatDoor.MyWords.far_ne hw166_4 GW170.out) _).trans (((cell_far (p := ⟨gb170, _, none⟩) (Go.Proofs.YtknbhbppofphpaaGreatDoor.MyWords.far_ne hw166_4 GW170.out) _).trans (((cell_far (p := ⟨gb170, _, none⟩) (Go.Proofs.YtknbhbppofphpaaGreatDoor.MyWords.far_ne hw166_4 GW170.out) _).trans (((cell_far (p := ⟨gb170, _, none⟩) (Go.Proofs.YtknbhbppofphpaaGreatDoor.MyWords.far_ne hw166_4 GW170.out) _).trans (((cell_far (p := ⟨gb170, _, none⟩) (Go.Proofs.YtknbhbppofphpaaGreatDoor.MyWords.far_ne hw166_4 GW170.out) _).trans (((cell_far (p := ⟨gb170, _, none⟩) (Go.Proofs.YtknbhbppofphpaaGreatDoor.MyWords.far_ne hw166_4 GW170.out) _).trans (((cell_far (p := ⟨gb170, _, none⟩) (Go.Proofs.YtknbhbppofphpaaGreatDoor.MyWords.far_ne hw166_4 GW170.out) _).trans (hHeld.2.2.2.2.2.2.2.2.2.2.2.2.2.2.2.2.2.2.2.2.2.2.2.2.2.2.2.2.1)))))))))))))))), ((cell_far (p := ⟨gb170, _, none⟩) (Go.Proofs.YtknbhbppofphpaaGreatDoor.MyWords.far_ne hw166_5 GW170.out) _).trans (((cell_far (p := ⟨gb170, _, none⟩) (Go.Proofs.YtknbhbppofphpaaGreatDoor.MyWords.far_ne hw166_5 GW170.out) _).trans (((cell_far (p := ⟨gb170, _, none⟩) (Go.Proofs.YtknbhbppofphpaaGreatDoor.MyWords.far_ne hw166_5 GW170.out) _).trans (((cell_far (p := ⟨gb170, _, none⟩) (Go.Proofs.YtknbhbppofphpaaGreatDoor.MyWords.far_ne hw166_5 GW170.out) _).trans (((cell_far (p := ⟨gb170, _, none⟩) (Go.Proofs.YtknbhbppofphpaaGreatDoor.MyWords.far_ne hw166_5 GW170.out) _).trans (((cell_far (p := ⟨gb170, _, none⟩) (Go.Proofs.YtknbhbppofphpaaGreatDoor.MyWords.far_ne hw166_5 GW170.out) _).trans (((cell_far (p := ⟨gb170, _, none⟩) (Go.Proofs.YtknbhbppofphpaaGreatDoor.MyWords.far_ne hw166_5 GW170.out) _).trans (((cell_far (p := ⟨gb170, _, none⟩) (Go.Proofs.YtknbhbppofphpaaGreatDoor.MyWords.far_ne hw166_5 GW170.out) _).trans (hHeld.2.2.2.2.2.2.2.2.2.2.2.2.2.2.2.2.2.2.2.2.2.2.2.2.2.2.2.2.2.1)))))))))))))))), ((cell_far (p := ⟨gb170, _, none⟩) (Go.Proofs.YtknbhbppofphpaaGreatDoor.MyWords.far_ne hw166_6 GW170.out) _).trans (((cell_far (p := ⟨gb170, _, none⟩) (Go.Proofs.YtknbhbppofphpaaGreatDoor.MyWords.far_ne hw166_6 GW170.out) _).trans (((cell_far (p := ⟨gb170, _, none⟩) (Go.Proofs.YtknbhbppofphpaaGreatDoor.MyWords.far_ne hw166_6 GW170.out) _).trans (((cell_far (p := ⟨gb170, _, none⟩) (Go.Proofs.YtknbhbppofphpaaGreatDoor.MyWords.far_ne hw166_6 GW170.out) _).trans (((cell_far (p := ⟨gb170, _, none⟩) (Go.Proofs.YtknbhbppofphpaaGreatDoor.MyWords.far_ne hw166_6 GW170.out) _).trans (((cell_far (p := ⟨gb170, _, none⟩) (Go.Proofs.YtknbhbppofphpaaGreatDoor.MyWords.far_ne hw166_6 GW170.out) _).trans (((cell_far (p := ⟨gb170, _, none⟩) (Go.Proofs.YtknbhbppofphpaaGreatDoor.MyWords.far_ne hw166_6 GW170.out) _).trans (((cell_far (p := ⟨gb170, _, none⟩) (Go.Proofs.YtknbhbppofphpaaGreatDoor.MyWords.far_ne hw166_6 GW170.out) _).trans (hHeld.2.2.2.2.2.2.2.2.2.2.2.2.2.2.2.2.2.2.2.2.2.2.2.2.2.2.2.2.2.2.1)))))))))))))))), ((cell_far (p := ⟨gb170, _, none⟩) (Go.Proofs.YtknbhbppofphpaaGreatDoor.MyWords.far_ne hw166_7 GW170.out) _).trans (((cell_far (p := ⟨gb170, _, none⟩) (Go.Proofs.YtknbhbppofphpaaGreatDoor.MyWords.far_ne hw166_7 GW170.out) _).trans (((cell_far (p := ⟨gb170, _, none⟩) (Go.Proofs.YtknbhbppofphpaaGreatDoor.MyWords.far_ne hw166_7 GW170.out) _).trans (((cell_far (p := ⟨gb170, _, none⟩) (Go.Proofs.YtknbhbppofphpaaGreatDoor.MyWords.far_ne hw166_7 GW170.out) _).trans (((cell_far (p := ⟨gb170, _, none⟩) (Go.Proofs.YtknbhbppofphpaaGreatDoor.MyWords.far_ne hw166_7 GW170.out) _).trans (((cell_far (p := ⟨gb170, _, none⟩) (Go.Proofs.YtknbhbppofphpaaGreatDoor.MyWords.far_ne hw166_7 GW170.out) _).trans (((cell_far (p := ⟨gb170, _, none⟩) (Go.Proofs.YtknbhbppofphpaaGreatDoor.MyWords.far_ne hw166_7 GW170.out) _).trans (((cell_far (p := ⟨gb170, _, none⟩) (Go.Proofs.YtknbhbppofphpaaGreatDoor.MyWords.far_ne hw166_7 GW170.out) _).trans (hHeld.2.2.2.2.2.2.2.2.2.2.2.2.2.2.2.2.2.2.2.2.2.2.2.2.2.2.2.2.2.2.2))))))))))))))))⟩ (fun hHeld => ?_)
            clear hK K
            refine done_ (done_of HT_.out (by kernel_rfl)) ?_
            have p171 : 0 ≤ (x11_1 : Int) := of_decide_eq_true (by first | (with_reducible assumption) | assumption)
            have q171 : x11_1 < (l0.length : Int) := of_decide_eq_true (by first | (with_reducible assumption) | assumption)
            obtain ⟨ad171, A171_4, c171_4, A171_5, c171_5, A171_6, c171_6, A171_7, c171_7, e171, hx171_0, hx171_1, hx171_2, hx171_3, hx171_4, hx171_5, hx171_6, hx171_7, hl171_4, hi171_4, hl171_5, hi171_5, hl171_6, hi171_6, hl171_7, hi171_7⟩ := at_T60 HR0.out x11_1 p171 q171
            obtain rfl : ad163 = ad171 := (by injection e171)
            have hn171_0 : ad163.block ≠ gb170 := Nat.ne_of_lt (Nat.lt_of_lt_of_le (by have := World.block_lt_of_cell? _ _ hx171_0; first | rwa [add_block] at this | exact this) GW170.out)
            have hn171_1 : ad163.block ≠ gb170 := Nat.ne_of_lt (Nat.lt_of_lt_of_le (by have := World.block_lt_of_cell? _ _ hx171_0; first | rwa [add_block] at this | exact this) GW170.out)
            have hn171_2 : ad163.block ≠ gb170 := Nat.ne_of_lt (Nat.lt_of_lt_of_le (by have := World.block_lt_of_cell? _ _ hx171_0; first | rwa [add_block] at this | exact this) GW170.out)
            have hn171_3 : ad163.block ≠ gb170 := Nat.ne_of_lt (Nat.lt_of_lt_of_le (by have := World.block_lt_of_cell? _ _ hx171_0; first | rwa [add_block] at this | exact this) GW170.out)
            have hn171_4 : ad163.block ≠ gb170 := Nat.ne_of_lt (Nat.lt_of_lt_of_le (by have := World.block_lt_of_cell? _ _ hx171_0; first | rwa [add_block] at this | exact this) GW170.out)
            have hn171_5 : ad163.block ≠ gb170 := Nat.ne_of_lt (Nat.lt_of_lt_of_le (by have := World.block_lt_of_cell? _ _ hx171_0; first | rwa [add_block] at this | exact this) GW170.out)
            have hn171_6 : ad163.block ≠ gb170 := Nat.ne_of_lt (Nat.lt_of_lt_of_le (by have := World.block_lt_of_cell? _ _ hx171_0; first | rwa [add_block] at this | exact this) GW170.out)
            have hn171_7 : ad163.block ≠ gb170 := Nat.ne_of_lt (Nat.lt_of_lt_of_le (by have := World.block_lt_of_cell? _ _ hx171_0; first | rwa [add_block] at this | exact this) GW170.out)
            replace hx171_0 := (HB.out.cell (World.block_lt_of_cell? w _ hx171_0)).trans hx171_0
            replace hx171_1 := (HB.out.cell (World.block_lt_of_cell? w _ hx171_1)).trans hx171_1
            replace hx171_2 := (HB.out.cell (World.block_lt_of_cell? w _ hx171_2)).trans hx171_2
            replace hx171_3 := (HB.out.cell (World.block_lt_of_cell? w _ hx171_3)).trans hx171_3
            replace hx171_4 := (HB.out.cell (World.block_lt_of_cell? w _ hx171_4)).trans hx171_4
            replace hx171_5 := (HB.out.cell (World.block_lt_of_cell? w _ hx171_5)).trans hx171_5
            replace hx171_6 := (HB.out.cell (World.block_lt_of_cell? w _ hx171_6)).trans hx171_6
            replace hx171_7 := (HB.out.cell (World.block_lt_of_cell? w _ hx171_7)).trans hx171_7
            have HR171_4 := Aside0.mk hi171_4
            have HC171_4 := Aside0.mk hl171_4
            clear hi171_4 hl171_4
            have HR171_5 := Aside0.mk hi171_5
            have HC171_5 := Aside0.mk hl171_5
            clear hi171_5 hl171_5
            have HR171_6 := Aside0.mk hi171_6
            have HC171_6 := Aside0.mk hl171_6
            clear hi171_6 hl171_6
            have HR171_7 := Aside0.mk hi171_7
            have HC171_7 := Aside0.mk hl171_7
            clear hi171_7 hl171_7
            replace hx171_0 := (cell_far (p := ⟨gb170, 0, none⟩) (by first | (rw [add_block]; exact hn171_0) | (show (Addr.add _ _).block ≠ _; rw [add_block]; exact hn171_0) | exact hn171_0) (.int .i64 ((rd_T60 l0 x11_1).f0))).trans hx171_0
            replace hx171_1 := (cell_far (p := ⟨gb170, 0, none⟩) (by first | (rw [add_block]; exact hn171_0) | (show (Addr.add _ _).block ≠ _; rw [add_block]; exact hn171_0) | exact hn171_0) (.int .i64 ((rd_T60 l0 x11_1).f0))).trans hx171_1
            replace hx171_2 := (cell_far (p := ⟨gb170, 0, none⟩) (by first | (rw [add_block]; exact hn171_0) | (show (Addr.add _ _).block ≠ _; rw [add_block]; exact hn171_0) | exact hn171_0) (.int .i64 ((rd_T60 l0 x11_1).f0))).trans hx171_2
            replace hx171_3 := (cell_far (p := ⟨gb170, 0, none⟩) (by first | (rw [add_block]; exact hn171_0) | (show (Addr.add _ _).block ≠ _; rw [add_block]; exact hn171_0) | exact hn171_0) (.int .i64 ((rd_T60 l0 x11_1).f0))).trans hx171_3
            replace hx171_4 := (cell_far (p := ⟨gb170, 0, none⟩) (by first | (rw [add_block]; exact hn171_0) | (show (Addr.add _ _).block ≠ _; rw [add_block]; exact hn171_0) | exact hn171_0) (.int .i64 ((rd_T60 l0 x11_1).f0))).trans hx171_4
            replace hx171_5 := (cell_far (p := ⟨gb170, 0, none⟩) (by first | (rw [add_block]; exact hn171_0) | (show (Addr.add _ _).block ≠ _; rw [add_block]; exact hn171_0) | exact hn171_0) (.int .i64 ((rd_T60 l0 x11_1).f0))).trans hx171_5
            replace hx171_6 := (cell_far (p := ⟨gb170, 0, none⟩) (by first | (rw [add_block]; exact hn171_0) | (show (Addr.add _ _).block ≠ _; rw [add_block]; exact hn171_0) | exact hn171_0) (.int .i64 ((rd_T60 l0 x11_1).f0))).trans hx171_6
            replace hx171_7 := (cell_far (p := ⟨gb170, 0, none⟩) (by first | (rw [add_block]; exact hn171_0) | (show (Addr.add _ _).block ≠ _; rw [add_block]; exact hn171_0) | exact hn171_0) (.int .i64 ((rd_T60 l0 x11_1).f0))).trans hx171_7
            replace hx171_0 := (cell_far (p := ⟨gb170, 1, none⟩) (by first | (rw [add_block]; exact hn171_1) | (show (Addr.add _ _).block ≠ _; rw [add_block]; exact hn171_1) | exact hn171_1) (.string ((rd_T60 l0 x11_1).f1))).trans hx171_0
            replace hx171_1 := (cell_far (p := ⟨gb170, 1, none⟩) (by first | (rw [add_block]; exact hn171_1) | (show (Addr.add _ _).block ≠ _; rw [add_block]; exact hn171_1) | exact hn171_1) (.string ((rd_T60 l0 x11_1).f1))).trans hx171_1
            replace hx171_2 := (cell_far (p := ⟨gb170, 1, none⟩) (by first | (rw [add_block]; exact hn171_1) | (show (Addr.add _ _).block ≠ _; rw [add_block]; exact hn171_1) | exact hn171_1) (.string ((rd_T60 l0 x11_1).f1))).trans hx171_2
            replace hx171_3 := (cell_far (p := ⟨gb170, 1, none⟩) (by first | (rw [add_block]; exact hn171_1) | (show (Addr.add _ _).block ≠ _; rw [add_block]; exact hn171_1) | exact hn171_1) (.string ((rd_T60 l0 x11_1).f1))).trans hx171_3
            replace hx171_4 := (cell_far (p := ⟨gb170, 1, none⟩) (by first | (rw [add_block]; exact hn171_1) | (show (Addr.add _ _).block ≠ _; rw [add_block]; exact hn171_1) | exact hn171_1) (.string ((rd_T60 l0 x11_1).f1))).trans hx171_4
            replace hx171_5 := (cell_far (p := ⟨gb170, 1, none⟩) (by first | (rw [add_block]; exact hn171_1) | (show (Addr.add _ _).block ≠ _; rw [add_block]; exact hn171_1) | exact hn171_1) (.string ((rd_T60 l0 x11_1).f1))).trans hx171_5
            replace hx171_6 := (cell_far (p := ⟨gb170, 1, none⟩) (by first | (rw [add_block]; exact hn171_1) | (show (Addr.add _ _).block ≠ _; rw [add_block]; exact hn171_1) | exact hn171_1) (.string ((rd_T60 l0 x11_1).f1))).trans hx171_6
            replace hx171_7 := (cell_far (p := ⟨gb170, 1, none⟩) (by first | (rw [add_block]; exact hn171_1) | (show (Addr.add _ _).block ≠ _; rw [add_block]; exact hn171_1) | exact hn171_1) (.string ((rd_T60 l0 x11_1).f1))).trans hx171_7
            replace hx171_0 := (cell_far (p := ⟨gb170, 2, none⟩) (by first | (rw [add_block]; exact hn171_2) | (show (Addr.add _ _).block ≠ _; rw [add_block]; exact hn171_2) | exact hn171_2) (.int .i64 ((rd_T60 l0 x11_1).f2.f0))).trans hx171_0
            replace hx171_1 := (cell_far (p := ⟨gb170, 2, none⟩) (by first | (rw [add_block]; exact hn171_2) | (show (Addr.add _ _).block ≠ _; rw [add_block]; exact hn171_2) | exact hn171_2) (.int .i64 ((rd_T60 l0 x11_1).f2.f0))).trans hx171_1
            replace hx171_2 := (cell_far (p := ⟨gb170, 2, none⟩) (by first | (rw [add_block]; exact hn171_2) | (show (Addr.add _ _).block ≠ _; rw [add_block]; exact hn171_2) | exact hn171_2) (.int .i64 ((rd_T60 l0 x11_1).f2.f0))).trans hx171_2
            replace hx171_3 := (cell_far (p := ⟨gb170, 2, none⟩) (by first | (rw [add_block]; exact hn171_2) | (show (Addr.add _ _).block ≠ _; rw [add_block]; exact hn171_2) | exact hn171_2) (.int .i64 ((rd_T60 l0 x11_1).f2.f0))).trans hx171_3
            replace hx171_4 := (cell_far (p := ⟨gb170, 2, none⟩) (by first | (rw [add_block]; exact hn171_2) | (show (Addr.add _ _).block ≠ _; rw [add_block]; exact hn171_2) | exact hn171_2) (.int .i64 ((rd_T60 l0 x11_1).f2.f0))).trans hx171_4
            replace hx171_5 := (cell_far (p := ⟨gb170, 2, none⟩) (by first | (rw [add_block]; exact hn171_2) | (show (Addr.add _ _).block ≠ _; rw [add_block]; exact hn171_2) | exact hn171_2) (.int .i64 ((rd_T60 l0 x11_1).f2.f0))).trans hx171_5
            replace hx171_6 := (cell_far (p := ⟨gb170, 2, none⟩) (by first | (rw [add_block]; exact hn171_2) | (show (Addr.add _ _).block ≠ _; rw [add_block]; exact hn171_2) | exact hn171_2) (.int .i64 ((rd_T60 l0 x11_1).f2.f0))).trans hx171_6
            replace hx171_7 := (cell_far (p := ⟨gb170, 2, none⟩) (by first | (rw [add_block]; exact hn171_2) | (show (Addr.add _ _).block ≠ _; rw [add_block]; exact hn171_2) | exact hn171_2) (.int .i64 ((rd_T60 l0 x11_1).f2.f0))).trans hx171_7
            replace hx171_0 := (cell_far (p := ⟨gb170, 3, none⟩) (by first | (rw [add_block]; exact hn171_3) | (show (Addr.add _ _).block ≠ _; rw [add_block]; exact hn171_3) | exact hn171_3) (.int .i64 ((rd_T60 l0 x11_1).f2.f1))).trans hx171_0
            replace hx171_1 := (cell_far (p := ⟨gb170, 3, none⟩) (by first | (rw [add_block]; exact hn171_3) | (show (Addr.add _ _).block ≠ _; rw [add_block]; exact hn171_3) | exact hn171_3) (.int .i64 ((rd_T60 l0 x11_1).f2.f1))).trans hx171_1
            replace hx171_2 := (cell_far (p := ⟨gb170, 3, none⟩) (by first | (rw [add_block]; exact hn171_3) | (show (Addr.add _ _).block ≠ _; rw [add_block]; exact hn171_3) | exact hn171_3) (.int .i64 ((rd_T60 l0 x11_1).f2.f1))).trans hx171_2
            replace hx171_3 := (cell_far (p := ⟨gb170, 3, none⟩) (by first | (rw [add_block]; exact hn171_3) | (show (Addr.add _ _).block ≠ _; rw [add_block]; exact hn171_3) | exact hn171_3) (.int .i64 ((rd_T60 l0 x11_1).f2.f1))).trans hx171_3
            replace hx171_4 := (cell_far (p := ⟨gb170, 3, none⟩) (by first | (rw [add_block]; exact hn171_3) | (show (Addr.add _ _).block ≠ _; rw [add_block]; exact hn171_3) | exact hn171_3) (.int .i64 ((rd_T60 l0 x11_1).f2.f1))).trans hx171_4
            replace hx171_5 := (cell_far (p := ⟨gb170, 3, none⟩) (by first | (rw [add_block]; exact hn171_3) | (show (Addr.add _ _).block ≠ _; rw [add_block]; exact hn171_3) | exact hn171_3) (.int .i64 ((rd_T60 l0 x11_1).f2.f1))).trans hx171_5
            replace hx171_6 := (cell_far (p := ⟨gb170, 3, none⟩) (by first | (rw [add_block]; exact hn171_3) | (show (Addr.add _ _).block ≠ _; rw [add_block]; exact hn171_3) | exact hn171_3) (.int .i64 ((rd_T60 l0 x11_1).f2.f1))).trans hx171_6
            replace hx171_7 := (cell_far (p := ⟨gb170, 3, none⟩) (by first | (rw [add_block]; exact hn171_3) | (show (Addr.add _ _).block ≠ _; rw [add_block]; exact hn171_3) | exact hn171_3) (.int .i64 ((rd_T60 l0 x11_1).f2.f1))).trans hx171_7
            replace hx171_0 := (cell_far (p := ⟨gb170, 4, none⟩) (by first | (rw [add_block]; exact hn171_4) | (show (Addr.add _ _).block ≠ _; rw [add_block]; exact hn171_4) | exact hn171_4) (.slice none 0 0)).trans hx171_0
            replace hx171_1 := (cell_far (p := ⟨gb170, 4, none⟩) (by first | (rw [add_block]; exact hn171_4) | (show (Addr.add _ _).block ≠ _; rw [add_block]; exact hn171_4) | exact hn171_4) (.slice none 0 0)).trans hx171_1
            replace hx171_2 := (cell_far (p := ⟨gb170, 4, none⟩) (by first | (rw [add_block]; exact hn171_4) | (show (Addr.add _ _).block ≠ _; rw [add_block]; exact hn171_4) | exact hn171_4) (.slice none 0 0)).trans hx171_2
            replace hx171_3 := (cell_far (p := ⟨gb170, 4, none⟩) (by first | (rw [add_block]; exact hn171_4) | (show (Addr.add _ _).block ≠ _; rw [add_block]; exact hn171_4) | exact hn171_4) (.slice none 0 0)).trans hx171_3
            replace hx171_4 := (cell_far (p := ⟨gb170, 4, none⟩) (by first | (rw [add_block]; exact hn171_4) | (show (Addr.add _ _).block ≠ _; rw [add_block]; exact hn171_4) | exact hn171_4) (.slice none 0 0)).trans hx171_4
            replace hx171_5 := (cell_far (p := ⟨gb170, 4, none⟩) (by first | (rw [add_block]; exact hn171_4) | (show (Addr.add _ _).block ≠ _; rw [add_block]; exact hn171_4) | exact hn171_4) (.slice none 0 0)).trans hx171_5
            replace hx171_6 := (cell_far (p := ⟨gb170, 4, none⟩) (by first | (rw [add_block]; exact hn171_4) | (show (Addr.add _ _).block ≠ _; rw [add_block]; exact hn171_4) | exact hn171_4) (.slice none 0 0)).trans hx171_6
            replace hx171_7 := (cell_far (p := ⟨gb170, 4, none⟩) (by first | (rw [add_block]; exact hn171_4) | (show (Addr.add _ _).block ≠ _; rw [add_block]; exact hn171_4) | exact hn171_4) (.slice none 0 0)).trans hx171_7
            replace hx171_0 := (cell_far (p := ⟨gb170, 5, none⟩) (by first | (rw [add_block]; exact hn171_5) | (show (Addr.add _ _).block ≠ _; rw [add_block]; exact hn171_5) | exact hn171_5) (.slice none 0 0)).trans hx171_0
            replace hx171_1 := (cell_far (p := ⟨gb170, 5, none⟩) (by first | (rw [add_block]; exact hn171_5) | (show (Addr.add _ _).block ≠ _; rw [add_block]; exact hn171_5) | exact hn171_5) (.slice none 0 0)).trans hx171_1
            replace hx171_2 := (cell_far (p := ⟨gb170, 5, none⟩) (by first | (rw [add_block]; exact hn171_5) | (show (Addr.add _ _).block ≠ _; rw [add_block]; exact hn171_5) | exact hn171_5) (.slice none 0 0)).trans hx171_2
            replace hx171_3 := (cell_far (p := ⟨gb170, 5, none⟩) (by first | (rw [add_block]; exact hn171_5) | (show (Addr.add _ _).block ≠ _; rw [add_block]; exact hn171_5) | exact hn171_5) (.slice none 0 0)).trans hx171_3
            replace hx171_4 := (cell_far (p := ⟨gb170, 5, none⟩) (by first | (rw [add_block]; exact hn171_5) | (show (Addr.add _ _).block ≠ _; rw [add_block]; exact hn171_5) | exact hn171_5) (.slice none 0 0)).trans hx171_4
            replace hx171_5 := (cell_far (p := ⟨gb170, 5, none⟩) (by first | (rw [add_block]; exact hn171_5) | (show (Addr.add _ _).block ≠ _; rw [add_block]; exact hn171_5) | exact hn171_5) (.slice none 0 0)).trans hx171_5
            replace hx171_6 := (cell_far (p := ⟨gb170, 5, none⟩) (by first | (rw [add_block]; exact hn171_5) | (show (Addr.add _ _).block ≠ _; rw [add_block]; exact hn171_5) | exact hn171_5) (.slice none 0 0)).trans hx171_6
            replace hx171_7 := (cell_far (p := ⟨gb170, 5, none⟩) (by first | (rw [add_block]; exact hn171_5) | (show (Addr.add _ _).block ≠ _; rw [add_block]; exact hn171_5) | exact hn171_5) (.slice none 0 0)).trans hx171_7
            replace hx171_0 := (cell_far (p := ⟨gb170, 6, none⟩) (by first | (rw [add_block]; exact hn171_6) | (show (Addr.add _ _).block ≠ _; rw [add_block]; exact hn171_6) | exact hn171_6) (.slice none 0 0)).trans hx171_0
            replace hx171_1 := (cell_far (p := ⟨gb170, 6, none⟩) (by first | (rw [add_block]; exact hn171_6) | (show (Addr.add _ _).block ≠ _; rw [add_block]; exact hn171_6) | exact hn171_6) (.slice none 0 0)).trans hx171_1
            replace hx171_2 := (cell_far (p := ⟨gb170, 6, none⟩) (by first | (rw [add_block]; exact hn171_6) | (show (Addr.add _ _).block ≠ _; rw [add_block]; exact hn171_6) | exact hn171_6) (.slice none 0 0)).trans hx171_2
            replace hx171_3 := (cell_far (p := ⟨gb170, 6, none⟩) (by first | (rw [add_block]; exact hn171_6) | (show (Addr.add _ _).block ≠ _; rw [add_block]; exact hn171_6) | exact hn171_6) (.slice none 0 0)).trans hx171_3
            replace hx171_4 := (cell_far (p := ⟨gb170, 6, none⟩) (by first | (rw [add_block]; exact hn171_6) | (show (Addr.add _ _).block ≠ _; rw [add_block]; exact hn171_6) | exact hn171_6) (.slice none 0 0)).trans hx171_4
            replace hx171_5 := (cell_far (p := ⟨gb170, 6, none⟩) (by first | (rw [add_block]; exact hn171_6) | (show (Addr.add _ _).block ≠ _; rw [add_block]; exact hn171_6) | exact hn171_6) (.slice none 0 0)).trans hx171_5
            replace hx171_6 := (cell_far (p := ⟨gb170, 6, none⟩) (by first | (rw [add_block]; exact hn171_6) | (show (Addr.add _ _).block ≠ _; rw [add_block]; exact hn171_6) | exact hn171_6) (.slice none 0 0)).trans hx171_6
            replace hx171_7 := (cell_far (p := ⟨gb170, 6, none⟩) (by first | (rw [add_block]; exact hn171_6) | (show (Addr.add _ _).block ≠ _; rw [add_block]; exact hn171_6) | exact hn171_6) (.slice none 0 0)).trans hx171_7
            replace hx171_0 := (cell_far (p := ⟨gb170, 7, none⟩) (by first | (rw [add_block]; exact hn171_7) | (show (Addr.add _ _).block ≠ _; rw [add_block]; exact hn171_7) | exact hn171_7) (.slice Ao11 t167.length co11)).trans hx171_0
            replace hx171_1 := (cell_far (p := ⟨gb170, 7, none⟩) (by first | (rw [add_block]; exact hn171_7) | (show (Addr.add _ _).block ≠ _; rw [add_block]; exact hn171_7) | exact hn171_7) (.slice Ao11 t167.length co11)).trans hx171_1
            replace hx171_2 := (cell_far (p := ⟨gb170, 7, none⟩) (by first | (rw [add_block]; exact hn171_7) | (show (Addr.add _ _).block ≠ _; rw [add_block]; exact hn171_7) | exact hn171_7) (.slice Ao11 t167.length co11)).trans hx171_2
            replace hx171_3 := (cell_far (p := ⟨gb170, 7, none⟩) (by first | (rw [add_block]; exact hn171_7) | (show (Addr.add _ _).block ≠ _; rw [add_block]; exact hn171_7) | exact hn171_7) (.slice Ao11 t167.length co11)).trans hx171_3
            replace hx171_4 := (cell_far (p := ⟨gb170, 7, none⟩) (by first | (rw [add_block]; exact hn171_7) | (show (Addr.add _ _).block ≠ _; rw [add_block]; exact hn171_7) | exact hn171_7) (.slice Ao11 t167.length co11)).trans hx171_4
            replace hx171_5 := (cell_far (p := ⟨gb170, 7, none⟩) (by first | (rw [add_block]; exact hn171_7) | (show (Addr.add _ _).block ≠ _; rw [add_block]; exact hn171_7) | exact hn171_7) (.slice Ao11 t167.length co11)).trans hx171_5
            replace hx171_6 := (cell_far (p := ⟨gb170, 7, none⟩) (by first | (rw [add_block]; exact hn171_7) | (show (Addr.add _ _).block ≠ _; rw [add_block]; exact hn171_7) | exact hn171_7) (.slice Ao11 t167.length co11)).trans hx171_6
            replace hx171_7 := (cell_far (p := ⟨gb170, 7, none⟩) (by first | (rw [add_block]; exact hn171_7) | (show (Addr.add _ _).block ≠ _; rw [add_block]; exact hn171_7) | exact hn171_7) (.slice Ao11 t167.length co11)).trans hx171_7
            clear hn171_0
            clear hn171_1
            clear hn171_2
            clear hn171_3
            clear hn171_4
            clear hn171_5
            clear hn171_6
            clear hn171_7
            replace p171 := eq_true p171
            replace q171 := eq_true q171
            try go_wp2
            go_loopg [42] k1 (fun kq v42 w' => ∃ (x42_2 : Int) (x171004_2 : List (S62)) (u171004 : Value), v42 = .int .i64 x42_2 ∧ Aside0 (courierlaw05_Theirs.l1 kq l0 x3_1 x11_1 (l0.length : Int) x11_1 (((rd_T60 l0 x11_1).f3).length : Int) x42_2 ((rd_T60 l0 x11_1).f0) ((rd_T60 l0 x11_1).f1) ((rd_T60 l0 x11_1).f2.f0) ((rd_T60 l0 x11_1).f2.f1) x171004_2 t167 = some r) ∧ Aside0 (kq ≤ k1) ∧ Aside0 (Kd.R k41 41 w' w.heap.size (fun k_ => some k_ ≠ (u171004 : Value).ownBlock ∧ some k_ ≠ ((.slice Ao11 t167.length co11) : Value).ownBlock ∧ k_ ≠ gb170) u3 x3_1) ∧ Aside0 (Kd.R k62 62 w' w.heap.size (fun _ => True) u171004 x171004_2) ∧ Aside0 (Kd.R k41 41 w' w.heap.size (fun k_ => some k_ ≠ (u3 : Value).ownBlock ∧ some k_ ≠ (u171004 : Value).ownBlock ∧ k_ ≠ gb170) (.slice Ao11 t167.length co11) t167) ∧ Aside0 (w'.heap[gb170]? = some (.cells #[.int .i64 ((rd_T60 l0 x11_1).f0), .string ((rd_T60 l0 x11_1).f1), .int .i64 ((rd_T60 l0 x11_1).f2.f0), .int .i64 ((rd_T60 l0 x11_1).f2.f1), u171004, (.slice none 0 0), (.slice none 0 0), (.slice Ao11 t167.length co11)] 41 (0, 0))) ∧ Aside0 (Below w.heap.size w w'))
            case atStart => exact ⟨(0), (([] : List (S62))), (.slice none 0 0), (by first | rfl | (simp; done) | (simp [*]; done)), H', ⟨Nat.le_refl _⟩, ⟨by (with_reducible repeat (first | apply Kd.R_alloc | apply Kd.R_drewN | apply Kd.R_drew)); exact Kd.R_mono (Kd.R_far (p := ⟨gb170, 7, none⟩) (Kd.R_far (p := ⟨gb170, 6, none⟩) (Kd.R_far (p := ⟨gb170, 5, none⟩) (Kd.R_far (p := ⟨gb170, 4, none⟩) (Kd.R_far (p := ⟨gb170, 3, none⟩) (Kd.R_far (p := ⟨gb170, 2, none⟩) (Kd.R_far (p := ⟨gb170, 1, none⟩) (Kd.R_far (p := ⟨gb170, 0, none⟩) (Kd.R_mono HO_3.out (fun k_ hk => (⟨hk, hk.2⟩ : _ ∧ k_ ≠ gb170))) (fun _ hk => hk.2) (.int .i64 ((rd_T60 l0 x11_1).f0))) (fun _ hk => hk.2) (.string ((rd_T60 l0 x11_1).f1))) (fun _ hk => hk.2) (.int .i64 ((rd_T60 l0 x11_1).f2.f0))) (fun _ hk => hk.2) (.int .i64 ((rd_T60 l0 x11_1).f2.f1))) (fun _ hk => hk.2) (.slice none 0 0)) (fun _ hk => hk.2) (.slice none 0 0)) (fun _ hk => hk.2) (.slice none 0 0)) (fun _ hk => hk.2) (.slice Ao11 t167.length co11)) (fun _ hk => ⟨(by simp [Value.ownBlock]), ⟨hk.1.1, hk.1.2⟩⟩)⟩, ⟨by first | exact Kd.R_nil _ _ _ _ _ | exact Kd.N_nil _ _ _ _ _ | exact Kd.V_nil _ _ _ _ _ | exact Kd.Q_nil _ _ _ _ _ | exact Kd.S_nil _ _ _ _ _⟩, ⟨by (with_reducible repeat (first | apply Kd.R_alloc | apply Kd.R_drewN | apply Kd.R_drew)); exact Kd.R_mono (Kd.R_far (p := ⟨gb170, 7, none⟩) (Kd.R_far (p := ⟨gb170, 6, none⟩) (Kd.R_far (p := ⟨gb170, 5, none⟩) (Kd.R_far (p := ⟨gb170, 4, none⟩) (Kd.R_far (p := ⟨gb170, 3, none⟩) (Kd.R_far (p := ⟨gb170, 2, none⟩) (Kd.R_far (p := ⟨gb170, 1, none⟩) (Kd.R_far (p := ⟨gb170, 0, none⟩) (Kd.R_mono HO169.out (fun k_ hk => (⟨hk, hk.2⟩ : _ ∧ k_ ≠ gb170))) (fun _ hk => hk.2) (.int .i64 ((rd_T60 l0 x11_1).f0))) (fun _ hk => hk.2) (.string ((rd_T60 l0 x11_1).f1))) (fun _ hk => hk.2) (.int .i64 ((rd_T60 l0 x11_1).f2.f0))) (fun _ hk => hk.2) (.int .i64 ((rd_T60 l0 x11_1).f2.f1))) (fun _ hk => hk.2) (.slice none 0 0)) (fun _ hk => hk.2) (.slice none 0 0)) (fun _ hk => hk.2) (.slice none 0 0)) (fun _ hk => hk.2) (.slice Ao11 t167.length co11)) (fun _ hk => ⟨hk.1.1, ⟨(by simp [Value.ownBlock]), hk.1.2⟩⟩)⟩, ⟨by (with_reducible repeat (first | refine blk_drewN ?_ _ | refine blk_drew ?_ | refine blk_alloc ?_ _)); refine blk_put (cs := #[.int .i64 ((rd_T60 l0 x11_1).f0), .string ((rd_T60 l0 x11_1).f1), .int .i64 ((rd_T60 l0 x11_1).f2.f0), .int .i64 ((rd_T60 l0 x11_1).f2.f1), .slice none 0 0, .slice none 0 0, .slice none 0 0, .slice none 0 0]) ?_ 7 _ rfl; (with_reducible repeat (first | refine blk_drewN ?_ _ | refine blk_drew ?_ | refine blk_alloc ?_ _)); refine blk_put (cs := #[.int .i64 ((rd_T60 l0 x11_1).f0), .string ((rd_T60 l0 x11_1).f1), .int .i64 ((rd_T60 l0 x11_1).f2.f0), .int .i64 ((rd_T60 l0 x11_1).f2.f1), .slice none 0 0, .slice none 0 0, .slice none 0 0, .slice none 0 0]) ?_ 6 _ rfl; (with_reducible repeat (first | refine blk_drewN ?_ _ | refine blk_drew ?_ | refine blk_alloc ?_ _)); refine blk_put (cs := #[.int .i64 ((rd_T60 l0 x11_1).f0), .string ((rd_T60 l0 x11_1).f1), .int .i64 ((rd_T60 l0 x11_1).f2.f0), .int .i64 ((rd_T60 l0 x11_1).f2.f1), .slice none 0 0, .slice none 0 0, .slice none 0 0, .slice none 0 0]) ?_ 5 _ rfl; (with_reducible repeat (first | refine blk_drewN ?_ _ | refine blk_drew ?_ | refine blk_alloc ?_ _)); refine blk_put (cs := #[.int .i64 ((rd_T60 l0 x11_1).f0), .string ((rd_T60 l0 x11_1).f1), .int .i64 ((rd_T60 l0 x11_1).f2.f0), .int .i64 ((rd_T60 l0 x11_1).f2.f1), .slice none 0 0, .slice none 0 0, .slice none 0 0, .slice none 0 0]) ?_ 4 _ rfl; (with_reducible repeat (first | refine blk_drewN ?_ _ | refine blk_drew ?_ | refine blk_alloc ?_ _)); refine blk_put (cs := #[.int .i64 ((rd_T60 l0 x11_1).f0), .string ((rd_T60 l0 x11_1).f1), .int .i64 ((rd_T60 l0 x11_1).f2.f0), .int .i64 0, .slice none 0 0, .slice none 0 0, .slice none 0 0, .slice none 0 0]) ?_ 3 _ rfl; (with_reducible repeat (first | refine blk_drewN ?_ _ | refine blk_drew ?_ | refine blk_alloc ?_ _)); refine blk_put (cs := #[.int .i64 ((rd_T60 l0 x11_1).f0), .string ((rd_T60 l0 x11_1).f1), .int .i64 0, .int .i64 0, .slice none 0 0, .slice none 0 0, .slice none 0 0, .slice none 0 0]) ?_ 2 _ rfl; (with_reducible repeat (first | refine blk_drewN ?_ _ | refine blk_drew ?_ | refine blk_alloc ?_ _)); refine blk_put (cs := #[.int .i64 ((rd_T60 l0 x11_1).f0), .string (⟨#[]⟩ : ByteArray), .int .i64 0, .int .i64 0, .slice none 0 0, .slice none 0 0, .slice none 0 0, .slice none 0 0]) ?_ 1 _ rfl; (with_reducible repeat (first | refine blk_drewN ?_ _ | refine blk_drew ?_ | refine blk_alloc ?_ _)); refine blk_put (cs := #[.int .i64 0, .string (⟨#[]⟩ : ByteArray), .int .i64 0, .int .i64 0, .slice none 0 0, .slice none 0 0, .slice none 0 0, .slice none 0 0]) ?_ 0 _ rfl; (with_reducible repeat (first | refine blk_drewN ?_ _ | refine blk_drew ?_ | refine blk_alloc ?_ _)); exact BK170.out⟩, ⟨by repeat (first | (with_reducible first | exact HB.out | apply below_alloc | apply pw_below_drewN | apply below_drew1 | refine below_set ?_ GE170.out) | exact HB.out)⟩⟩
            case round =>
              clear H'
              try clear c1
              try clear p1
              try clear q1
              try clear hx1
              try clear p2
              try clear c8
              try clear c16
              try clear p16
              try clear q16
              try clear hx16
              try clear c17
              try clear p17
              try clear q17
              try clear hx17
              try clear hx163_0
              try clear hx163_1
              try clear hx163_2
              try clear hx163_3
              try clear hx163_4
              try clear hx163_5
              try clear hx163_6
              try clear hx163_7
              try clear hx164_0
              try clear hx164_1
              try clear hx164_2
              try clear hx164_3
              try clear hx164_4
              try clear hx164_5
              try clear hx164_6
              try clear hx164_7
              try clear hx165_0
              try clear hx165_1
              try clear hx165_2
              try clear hx165_3
              try clear hx165_4
              try clear hx165_5
              try clear hx165_6
              try clear hx165_7
              try clear hx166_0
              try clear hx166_1
              try clear hx166_2
              try clear hx166_3
              try clear hx166_4
              try clear hx166_5
              try clear hx166_6
              try clear hx166_7
              try clear hx171_0
              try clear hx171_1
              try clear hx171_2
              try clear hx171_3
              try clear hx171_4
              try clear hx171_5
              try clear hx171_6
              try clear hx171_7
              try clear p164
              try clear p165
              try clear p166
              try clear p171
              try clear q164
              try clear q165
              try clear q166
              try clear q171
              obtain ⟨x42_2, x171004_2, u171004, rfl, HA, HK2, HO_3, HO_171004, HO_171007, BK170, HB⟩ := hrel
              cases gk with
              | zero => exact absurd HA.out (by simp [courierlaw05_Theirs.l1])
              | succ k2 =>
                have H := HA.out
                clear HA
                simp only [courierlaw05_Theirs.l1] at H
                by_cases c20 : x42_2 < (((rd_T60 l0 x11_1).f3).length : Int)
                · rw [if_pos c20] at H
                  have c20b0 : decide (x42_2 < (((rd_T60 l0 x11_1).f3).length : Int)) = true := decide_eq_true c20
                  clear c20
                  by_cases c21 : 0 ≤ x11_1
                  · rw [if_pos c21] at H
                    have c21b0 : decide (0 ≤ x11_1) = true := decide_eq_true c21
                    clear c21
                    by_cases c22 : x11_1 < (l0.length : Int)
                    · rw [if_pos c22] at H
                      have c22b0 : decide (x11_1 < (l0.length : Int)) = true := decide_eq_true c22
                      clear c22
                      by_cases c23 : 0 ≤ x42_2
                      · rw [if_pos c23] at H
                        have c23b0 : decide (0 ≤ x42_2) = true := decide_eq_true c23
                        clear c23
                        by_cases c24 : x42_2 < (((rd_T60 l0 x11_1).f3).length : Int)
                        · rw [if_pos c24] at H
                          have c24b0 : decide (x42_2 < (((rd_T60 l0 x11_1).f3).length : Int)) = true := decide_eq_true c24
                          clear c24
                          by_cases c25 : x171004_2.length < 2199023255552
                          · rw [if_pos c25] at H
                            have LMc25 := Aside0.mk c25
                            clear c25
                            obtain ⟨y174, hy174⟩ : ∃ y_ : List (S62), y_ = (x171004_2 ++ [(⟨(rd_T63 ((rd_T60 l0 x11_1).f3) x42_2).f0, (rd_T63 ((rd_T60 l0 x11_1).f3) x42_2).f1, (rd_T63 ((rd_T60 l0 x11_1).f3) x42_2).f2, (rd_T63 ((rd_T60 l0 x11_1).f3) x42_2).f3, (⟨(rd_T63 ((rd_T60 l0 x11_1).f3) x42_2).f4.f0, (rd_T63 ((rd_T60 l0 x11_1).f3) x42_2).f4.f1⟩ : S34)⟩ : S62)]) := ⟨_, rfl⟩
                            replace H : (courierlaw05_Theirs.l1 k2 l0 x3_1 x11_1 (l0.length : Int) x11_1 (((rd_T60 l0 x11_1).f3).length : Int) (wrap64 (x42_2 + 1)) ((rd_T60 l0 x11_1).f0) ((rd_T60 l0 x11_1).f1) ((rd_T60 l0 x11_1).f2.f0) ((rd_T60 l0 x11_1).f2.f1) y174 t167) = some r := by first | (rw [hy174]; with_reducible exact H) | (have H2_ := (Option.bind_some _ _).symm.trans H; rw [hy174]; with_reducible exact H2_) | (have H2_ := (Option.bind_some _ _).symm.trans H; with_reducible exact H2_) | with_reducible exact H | (rw [hy174]; exact H) | exact H
                            have Ny174 := Aside0.mk hy174
                            clear hy174
                            have H' := Aside0.mk H
                            clear H
                            try go_wp2
                            have n0_ := Aside0.mk (Kd.R_drew HO_3.out)
                            have n1_ := Aside0.mk (Kd.R_drew HO_171004.out)
                            have n2_ := Aside0.mk (Kd.R_drew HO_171007.out)
                            have n3_ := Aside0.mk (blk_drew BK170.out)
                            have n4_ := Aside0.mk (below_drew1 HB.out)
                            clear HO_3
                            clear HO_171004
                            clear HO_171007
                            clear BK170
                            clear HB
                            have HO_3 := n0_
                            have HO_171004 := n1_
                            have HO_171007 := n2_
                            have BK170 := n3_
                            have HB := n4_
                            clear n0_ n1_ n2_ n3_ n4_
                            have p172 : 0 ≤ (x11_1 : Int) := of_decide_eq_true (by first | (with_reducible assumption) | assumption)
                            have q172 : x11_1 < (l0.length : Int) := of_decide_eq_true (by first | (with_reducible assumption) | assumption)
                            obtain ⟨ad172, A172_4, c172_4, A172_5, c172_5, A172_6, c172_6, A172_7, c172_7, e172, hx172_0, hx172_1, hx172_2, hx172_3, hx172_4, hx172_5, hx172_6, hx172_7, hl172_4, hi172_4, hl172_5, hi172_5, hl172_6, hi172_6, hl172_7, hi172_7⟩ := at_T60 HR0.out x11_1 p172 q172
                            have hw172_7 := hx172_7
                            have hw172_6 := hx172_6
                            have hw172_5 := hx172_5
                            have hw172_4 := hx172_4
                            have hw172_3 := hx172_3
                            have hw172_2 := hx172_2
                            have hw172_1 := hx172_1
                            have hw172_0 := hx172_0
                            obtain rfl : ad163 = ad172 := (by injection e172)
                            replace hx172_0 := (HB.out.cell (World.block_lt_of_cell? w _ hx172_0)).trans hx172_0
                            replace hx172_1 := (HB.out.cell (World.block_lt_of_cell? w _ hx172_1)).trans hx172_1
                            replace hx172_2 := (HB.out.cell (World.block_lt_of_cell? w _ hx172_2)).trans hx172_2
                            replace hx172_3 := (HB.out.cell (World.block_lt_of_cell? w _ hx172_3)).trans hx172_3
                            replace hx172_4 := (HB.out.cell (World.block_lt_of_cell? w _ hx172_4)).trans hx172_4
                            replace hx172_5 := (HB.out.cell (World.block_lt_of_cell? w _ hx172_5)).trans hx172_5
                            replace hx172_6 := (HB.out.cell (World.block_lt_of_cell? w _ hx172_6)).trans hx172_6
                            replace hx172_7 := (HB.out.cell (World.block_lt_of_cell? w _ hx172_7)).trans hx172_7
                            have HR172_4 := Aside0.mk hi172_4
                            have HC172_4 := Aside0.mk hl172_4
                            clear hi172_4 hl172_4
                            have HR172_5 := Aside0.mk hi172_5
                            have HC172_5 := Aside0.mk hl172_5
                            clear hi172_5 hl172_5
                            have HR172_6 := Aside0.mk hi172_6
                            have HC172_6 := Aside0.mk hl172_6
                            clear hi172_6 hl172_6
                            have HR172_7 := Aside0.mk hi172_7
                            have HC172_7 := Aside0.mk hl172_7
                            clear hi172_7 hl172_7
                            replace p172 := eq_true p172
                            replace q172 := eq_true q172
                            have p173 : 0 ≤ (x42_2 : Int) := of_decide_eq_true (by first | (with_reducible assumption) | assumption)
                            have q173 : x42_2 < (((rd_T60 l0 x11_1).f3).length : Int) := of_decide_eq_true (by first | (with_reducible assumption) | assumption)
                            obtain ⟨ad173, e173, hx173_0, hx173_1, hx173_2, hx173_3, hx173_4, hx173_5⟩ := at_T63 HR172_4.out x42_2 p173 q173
                            have hw173_5 := hx173_5
                            have hw173_4 := hx173_4
                            have hw173_3 := hx173_3
                            have hw173_2 := hx173_2
                            have hw173_1 := hx173_1
                            have hw173_0 := hx173_0
                            cases e173
                            replace hx173_0 := (HB.out.cell (World.block_lt_of_cell? w _ hx173_0)).trans hx173_0
                            replace hx173_1 := (HB.out.cell (World.block_lt_of_cell? w _ hx173_1)).trans hx173_1
                            replace hx173_2 := (HB.out.cell (World.block_lt_of_cell? w _ hx173_2)).trans hx173_2
                            replace hx173_3 := (HB.out.cell (World.block_lt_of_cell? w _ hx173_3)).trans hx173_3
                            replace hx173_4 := (HB.out.cell (World.block_lt_of_cell? w _ hx173_4)).trans hx173_4
                            replace hx173_5 := (HB.out.cell (World.block_lt_of_cell? w _ hx173_5)).trans hx173_5
                            replace p173 := eq_true p173
                            replace q173 := eq_true q173
                            refine start_ (n := 14) (S := fun w' => w'.cell? ⟨gb170, 0, none⟩ = some (.int .i64 ((rd_T60 l0 x11_1).f0)) ∧ w'.cell? ⟨gb170, 1, none⟩ = some (.string ((rd_T60 l0 x11_1).f1)) ∧ w'.cell? ⟨gb170, 2, none⟩ = some (.int .i64 ((rd_T60 l0 x11_1).f2.f0)) ∧ w'.cell? ⟨gb170, 3, none⟩ = some (.int .i64 ((rd_T60 l0 x11_1).f2.f1)) ∧ w'.cell? ⟨gb170, 4, none⟩ = some (u171004) ∧ w'.cell? ⟨gb170, 5, none⟩ = some (.slice none 0 0) ∧ w'.cell? ⟨gb170, 6, none⟩ = some (.slice none 0 0) ∧ w'.cell? ⟨gb170, 7, none⟩ = some (.slice Ao11 t167.length co11) ∧ w'.cell? (ad163.add ((x11_1).toNat * 8)) = some (.int .i64 ((rd_T60 l0 x11_1).f0)) ∧ w'.cell? ⟨(ad163.add ((x11_1).toNat * 8)).block, (ad163.add ((x11_1).toNat * 8)).off + 1, none⟩ = some (.string ((rd_T60 l0 x11_1).f1)) ∧ w'.cell? ⟨(ad163.add ((x11_1).toNat * 8)).block, (ad163.add ((x11_1).toNat * 8)).off + 2, none⟩ = some (.int .i64 ((rd_T60 l0 x11_1).f2.f0)) ∧ w'.cell? ⟨(ad163.add ((x11_1).toNat * 8)).block, (ad163.add ((x11_1).toNat * 8)).off + 3, none⟩ = some (.int .i64 ((rd_T60 l0 x11_1).f2.f1)) ∧ w'.cell? ⟨(ad163.add ((x11_1).toNat * 8)).block, (ad163.add ((x11_1).toNat * 8)).off + 4, none⟩ = some (.slice (some ad173) ((rd_T60 l0 x11_1).f3).length c172_4) ∧ w'.cell? ⟨(ad163.add ((x11_1).toNat * 8)).block, (ad163.add ((x11_1).toNat * 8)).off + 5, none⟩ = some (.slice A172_5 ((rd_T60 l0 x11_1).f4).length c172_5) ∧ w'.cell? ⟨(ad163.add ((x11_1).toNat * 8)).block, (ad163.add ((x11_1).toNat * 8)).off + 6, none⟩ = some (.slice A172_6 ((rd_T60 l0 x11_1).f5).length c172_6) ∧ w'.cell? ⟨(ad163.add ((x11_1).toNat * 8)).block, (ad163.add ((x11_1).toNat * 8)).off + 7, none⟩ = some (.slice A172_7 ((rd_T60 l0 x11_1).f6).length c172_7) ∧ w'.cell? (ad173.add ((x42_2).toNat * 6)) = some (.bool ((rd_T63 ((rd_T60 l0 x11_1).f3) x42_2).f0)) ∧ w'.cell? ⟨(ad173.add ((x42_2).toNat * 6)).block, (ad173.add ((x42_2).toNat * 6)).off + 1, none⟩ = some (.string ((rd_T63 ((rd_T60 l0 x11_1).f3) x42_2).f1)) ∧ w'.cell? ⟨(ad173.add ((x42_2).toNat * 6)).block, (ad173.add ((x42_2).toNat * 6)).off + 2, none⟩ = some (.string ((rd_T63 ((rd_T60 l0 x11_1).f3) x42_2).f2)) ∧ w'.cell? ⟨(ad173.add ((x42_2).toNat * 6)).block, (ad173.add ((x42_2).toNat * 6)).off + 3, none⟩ = some (.int .i64 ((rd_T63 ((rd_T60 l0 x11_1).f3) x42_2).f3)) ∧ w'.cell? ⟨(ad173.add ((x42_2).toNat * 6)).block, (ad173.add ((x42_2).toNat * 6)).off + 4, none⟩ = some (.int .i64 ((rd_T63 ((rd_T60 l0 x11_1).f3) x42_2).f4.f0)) ∧ w'.cell? ⟨(ad173.add ((x42_2).toNat * 6)).block, (ad173.add ((x42_2).toNat * 6)).off + 5, none⟩ = some (.int .i64 ((rd_T63 ((rd_T60 l0 x11_1).f3) x42_2).f4.f1))) (ds := [13]) #[false, false, false, false, false, false, false, false, false, false, false, false, false, false] (by kernel_rfl) rfl rfl ⟨(blk_cell BK170.out 0).trans rfl, (blk_cell BK170.out 1).trans rfl, (blk_cell BK170.out 2).trans rfl, (blk_cell BK170.out 3).trans rfl, (blk_cell BK170.out 4).trans rfl, (blk_cell BK170.out 5).trans rfl, (blk_cell BK170.out 6).trans rfl, (blk_cell BK170.out 7).trans rfl, ((HB.out.cell (World.block_lt_of_cell? w _ hw172_0)).trans hw172_0), ((HB.out.cell (World.block_lt_of_cell? w _ hw172_1)).trans hw172_1), ((HB.out.cell (World.block_lt_of_cell? w _ hw172_2)).trans hw172_2), ((HB.out.cell (World.block_lt_of_cell? w _ hw172_3)).trans hw172_3), ((HB.out.cell (World.block_lt_of_cell? w _ hw172_4)).trans hw172_4), ((HB.out.cell (World.block_lt_of_cell? w _ hw172_5)).trans hw172_5), ((HB.out.cell (World.block_lt_of_cell? w _ hw172_6)).trans hw172_6), ((HB.out.cell (World.block_lt_of_cell? w _ hw172_7)).trans hw172_7), ((HB.out.cell (World.block_lt_of_cell? w _ hw173_0)).trans hw173_0), ((HB.out.cell (World.block_lt_of_cell? w _ hw173_1)).trans hw173_1), ((HB.out.cell (World.block_lt_of_cell? w _ hw173_2)).trans hw173_2), ((HB.out.cell (World.block_lt_of_cell? w _ hw173_3)).trans hw173_3), ((HB.out.cell (World.block_lt_of_cell? w _ hw173_4)).trans hw173_4), ((HB.out.cell (World.block_lt_of_cell? w _ hw173_5)).trans hw173_5)⟩ (fun hHeld => ?_); refine with_tabW courierlaw05_Theirs.tab9 courierlaw05_Theirs.bits9 (fun HT_ HW_ => ?_)
                            generalize wr.drew = w26 at HO_3 HO_171004 HO_171007 BK170 HB HR172_4 HR172_5 HR172_6 HR172_7 hx172_0 hx172_1 hx172_2 hx172_3 hx172_4 hx172_5 hx172_6 hx172_7 hx173_0 hx173_1 hx173_2 hx173_3 hx173_4 hx173_5 hHeld ⊢
                            refine pure_ (i := 0) (N := some 45) (v := ?_) (a' := ?_) #[true, false, false, false, false, false, false, false, false, false, false, false, false, false] rfl rfl (any_of HT_.out (by kernel_rfl)) (fun _ _ _ h => h) (Or.inl ⟨by rfl, ?_⟩) ?_ ?_
                            rotate_left
                            · intro w'
                              go_simp
                              with_reducible rfl
                            rotate_left
                            · simp only [Act.put, List.setIfInBounds_toArray, List.set_cons_zero, List.set_cons_succ, i64_w, i32_w]
                              rfl
                            refine pure_ (i := 2) (N := some 47) (v := ?_) (a' := ?_) #[true, false, true, false, false, false, false, false, false, false, false, false, false, false] rfl rfl (any_of HT_.out (by kernel_rfl)) (fun _ _ _ h => h) (Or.inl ⟨by rfl, ?_⟩) ?_ ?_
                            rotate_left
                            · intro w'
                              go_simp
                              with_reducible rfl
                            rotate_left
                            · simp only [Act.put, List.setIfInBounds_toArray, List.set_cons_zero, List.set_cons_succ, i64_w, i32_w]
                              rfl
                            refine pure_ (i := 3) (N := some 48) (v := ?_) (a' := ?_) #[true, false, true, true, false, false, false, false, false, false, false, false, false, false] rfl rfl (any_of HT_.out (by kernel_rfl)) (fun _ _ _ h => h) (Or.inl ⟨by rfl, ?_⟩) ?_ ?_
                            rotate_left
                            · intro w'
                              go_simp
                              with_reducible rfl
                            rotate_left
                            · simp only [Act.put, List.setIfInBounds_toArray, List.set_cons_zero, List.set_cons_succ, i64_w, i32_w]
                              rfl
                            refine pure_ (i := 4) (N := some 49) (v := ?_) (a' := ?_) #[true, false, true, true, true, false, false, false, false, false, false, false, false, false] rfl rfl (any_of HT_.out (by kernel_rfl)) (fun _ _ _ h => h) (Or.inl ⟨by rfl, ?_⟩) ?_ ?_
                            rotate_left
                            · intro w'
                              go_simp
                              with_reducible rfl
                            rotate_left
                            · simp only [Act.put, List.setIfInBounds_toArray, List.set_cons_zero, List.set_cons_succ, i64_w, i32_w]
                              rfl
                            refine pure_ (i := 5) (N := some 50) (v := ?_) (a' := ?_) #[true, false, true, true, true, true, false, false, false, false, false, false, false, false] rfl rfl (any_of HT_.out (by kernel_rfl)) (fun _ _ _ h => h) (Or.inl ⟨by rfl, ?_⟩) ?_ ?_
                            rotate_left
                            · intro w'
                              go_simp
                              with_reducible rfl
                            rotate_left
                            · simp only [Act.put, List.setIfInBounds_toArray, List.set_cons_zero, List.set_cons_succ, i64_w, i32_w]
                              rfl
                            refine pure_ (i := 7) (N := some 52) (v := ?_) (a' := ?_) #[true, false, true, true, true, true, false, true, false, false, false, false, false, false] rfl rfl (any_of HT_.out (by kernel_rfl)) (fun _ _ _ h => h) (Or.inl ⟨by rfl, ?_⟩) ?_ ?_
                            rotate_left
                            · intro w'
                              go_simp
                              with_reducible rfl
                            rotate_left
                            · simp only [Act.put, List.setIfInBounds_toArray, List.set_cons_zero, List.set_cons_succ, i64_w, i32_w]
                              rfl
                            refine take_ (i := 1) (N := some 46) (v := ?_) (a' := ?_) #[true, true, true, true, true, true, false, true, false, false, false, false, false, false] rfl rfl (take_ofW HT_.out HW_.out (by kernel_rfl)) (fun _ _ _ h => h) (Or.inl ⟨by rfl, ?_⟩) hHeld ?_ ?_
                            rotate_left
                            · rintro w' ⟨s0, s1, s2, s3, s4, s5, s6, s7, s8, s9, s10, s11, s12, s13, s14, s15, s16, s17, s18, s19, s20, s21⟩
                              go_simp
                              with_reducible rfl
                            rotate_left
                            · simp only [Act.put, List.setIfInBounds_toArray, List.set_cons_zero, List.set_cons_succ, i64_w, i32_w]
                              rfl
                            refine take_ (i := 6) (N := some 51) (v := ?_) (a' := ?_) #[true, true, true, true, true, true, true, true, false, false, false, false, false, false] rfl rfl (take_ofW HT_.out HW_.out (by kernel_rfl)) (fun _ _ _ h => h) (Or.inl ⟨by rfl, ?_⟩) hHeld ?_ ?_
                            rotate_left
                            · rintro w' ⟨s0, s1, s2, s3, s4, s5, s6, s7, s8, s9, s10, s11, s12, s13, s14, s15, s16, s17, s18, s19, s20, s21⟩
                              go_simp
                              with_reducible rfl
                            rotate_left
                            · simp only [Act.put, List.setIfInBounds_toArray, List.set_cons_zero, List.set_cons_succ, i64_w, i32_w]
                              rfl
                            refine pure_ (i := 8) (N := some 53) (v := ?_) (a' := ?_) #[true, true, true, true, true, true, true, true, true, false, false, false, false, false] rfl rfl (any_of HT_.out (by kernel_rfl)) (fun _ _ _ h => h) (Or.inl ⟨by rfl, ?_⟩) ?_ ?_
                            rotate_left
                            · intro w'
                              go_simp
                              with_reducible rfl
                            rotate_left
                            · simp only [Act.put, List.setIfInBounds_toArray, List.set_cons_zero, List.set_cons_succ, i64_w, i32_w]
                              rfl
                            refine take_ (i := 9) (N := some 54) (v := ?_) (a' := ?_) #[true, true, true, true, true, true, true, true, true, true, false, false, false, false] rfl rfl (take_ofW HT_.out HW_.out (by kernel_rfl)) (fun _ _ _ h => h) (Or.inl ⟨by rfl, ?_⟩) hHeld ?_ ?_
                            rotate_left
                            · rintro w' ⟨s0, s1, s2, s3, s4, s5, s6, s7, s8, s9, s10, s11, s12, s13, s14, s15, s16, s17, s18, s19, s20, s21⟩
                              go_simp
                              with_reducible rfl
                            rotate_left
                            · simp only [Act.put, List.setIfInBounds_toArray, List.set_cons_zero, List.set_cons_succ, i64_w, i32_w]
                              rfl
                            refine one_ (i := 10) (N := some 55) #[true, true, true, true, true, true, true, true, true, true, true, false, false, false] rfl rfl (one_of HT_.out (by kernel_rfl)) (by decide) (fun K hK => ?_)
                            refine value_ (w1 := ?_) (v := ?_) (by rfl) rfl ?_ ?_
                            rotate_left 2
                            · go_simp
                              constructor
                              · rfl
                              · rfl
                            refine hK.out _ _ ⟨(blk_cell (blk_alloc BK170.out _) 0).trans rfl, (blk_cell (blk_alloc BK170.out _) 1).trans rfl, (blk_cell (blk_alloc BK170.out _) 2).trans rfl, (blk_cell (blk_alloc BK170.out _) 3).trans rfl, (blk_cell (blk_alloc BK170.out _) 4).trans rfl, (blk_cell (blk_alloc BK170.out _) 5).trans rfl, (blk_cell (blk_alloc BK170.out _) 6).trans rfl, (blk_cell (blk_alloc BK170.out _) 7).trans rfl, (World.cell?_alloc_lt _ _ _ (World.block_lt_of_cell? _ _ (((HB.out.cell (World.block_lt_of_cell? w _ hw172_0)).trans hw172_0)))).trans (((HB.out.cell (World.block_lt_of_cell? w _ hw172_0)).trans hw172_0)), (World.cell?_alloc_lt _ _ _ (World.block_lt_of_cell? _ _ (((HB.out.cell (World.block_lt_of_cell? w _ hw172_1)).trans hw172_1)))).trans (((HB.out.cell (World.block_lt_of_cell? w _ hw172_1)).trans hw172_1)), (World.cell?_alloc_lt _ _ _ (World.block_lt_of_cell? _ _ (((HB.out.cell (World.block_lt_of_cell? w _ hw172_2)).trans hw172_2)))).trans (((HB.out.cell (World.block_lt_of_cell? w _ hw172_2)).trans hw172_2)), (World.cell?_alloc_lt _ _ _ (World.block_lt_of_cell? _ _ (((HB.out.cell (World.block_lt_of_cell? w _ hw172_3)).trans hw172_3)))).trans (((HB.out.cell (World.block_lt_of_cell? w _ hw172_3)).trans hw172_3)), (World.cell?_alloc_lt _ _ _ (World.block_lt_of_cell? _ _ (((HB.out.cell (World.block_lt_of_cell? w _ hw172_4)).trans hw172_4)))).trans (((HB.out.cell (World.block_lt_of_cell? w _ hw172_4)).trans hw172_4)), (World.cell?_alloc_lt _ _ _ (World.block_lt_of_cell? _ _ (((HB.out.cell (World.block_lt_of_cell? w _ hw172_5)).trans hw172_5)))).trans (((HB.out.cell (World.block_lt_of_cell? w _ hw172_5)).trans hw172_5)), (World.cell?_alloc_lt _ _ _ (World.block_lt_of_cell? _ _ (((HB.out.cell (World.block_lt_of_cell? w _ hw172_6)).trans hw172_6)))).trans (((HB.out.cell (World.block_lt_of_cell? w _ hw172_6)).trans hw172_6)), (World.cell?_alloc_lt _ _ _ (World.block_lt_of_cell? _ _ (((HB.out.cell (World.block_lt_of_cell? w _ hw172_7)).trans hw172_7)))).trans (((HB.out.cell (World.block_lt_of_cell? w _ hw172_7)).trans hw172_7)), (World.cell?_alloc_lt _ _ _ (World.block_lt_of_cell? _ _ (((HB.out.cell (World.block_lt_of_cell? w _ hw173_0)).trans hw173_0)))).trans (((HB.out.cell (World.block_lt_of_cell? w _ hw173_0)).trans hw173_0)), (World.cell?_alloc_lt _ _ _ (World.block_lt_of_cell? _ _ (((HB.out.cell (World.block_lt_of_cell? w _ hw173_1)).trans hw173_1)))).trans (((HB.out.cell (World.block_lt_of_cell? w _ hw173_1)).trans hw173_1)), (World.cell?_alloc_lt _ _ _ (World.block_lt_of_cell? _ _ (((HB.out.cell (World.block_lt_of_cell? w _ hw173_2)).trans hw173_2)))).trans (((HB.out.cell (World.block_lt_of_cell? w _ hw173_2)).trans hw173_2)), (World.cell?_alloc_lt _ _ _ (World.block_lt_of_cell? _ _ (((HB.out.cell (World.block_lt_of_cell? w _ hw173_3)).trans hw173_3)))).trans (((HB.out.cell (World.block_lt_of_cell? w _ hw173_3)).trans hw173_3)), (World.cell?_alloc_lt _ _ _ (World.block_lt_of_cell? _ _ (((HB.out.cell (World.block_lt_of_cell? w _ hw173_4)).trans hw173_4)))).trans (((HB.out.cell (World.block_lt_of_cell? w _ hw173_4)).trans hw173_4)), (World.cell?_alloc_lt _ _ _ (World.block_lt_of_cell? _ _ (((HB.out.cell (World.block_lt_of_cell? w _ hw173_5)).trans hw173_5)))).trans (((HB.out.cell (World.block_lt_of_cell? w _ hw173_5)).trans hw173_5))⟩ (fun hHeld => ?_)
                            clear hK K
                            refine norm_ (a' := ?_) ?_ ?_
                            rotate_left
                            · show Act.put _ (some 55) _ = _
                              simp only [Act.put, List.setIfInBounds_toArray, List.set_cons_zero, List.set_cons_succ, i64_w, i32_w]
                              rfl
                            refine one_ (i := 11) (N := some 56) #[true, true, true, true, true, true, true, true, true, true, true, true, false, false] rfl rfl (one_of HT_.out (by kernel_rfl)) (by decide) (fun K hK => ?_)
                            refine Kd.R_append_step k62 (w0 := w) w.heap.size (by rfl) (.tmp 46) (.tmp 55) 38 62 (.agg #[(.bool false), (.string ⟨#[]⟩), (.string ⟨#[]⟩), (.int .i64 0), (.int .i64 0), (.int .i64 0)]) 64 rfl Tryz.underlying38 info62 rfl (by decide) (by omega) u171004 x171004_2 (⟨(rd_T63 ((rd_T60 l0 x11_1).f3) x42_2).f0, (rd_T63 ((rd_T60 l0 x11_1).f3) x42_2).f1, (rd_T63 ((rd_T60 l0 x11_1).f3) x42_2).f2, (rd_T63 ((rd_T60 l0 x11_1).f3) x42_2).f3, (⟨(rd_T63 ((rd_T60 l0 x11_1).f3) x42_2).f4.f0, (rd_T63 ((rd_T60 l0 x11_1).f3) x42_2).f4.f1⟩ : S34)⟩ : S62) [.bool ((rd_T63 ((rd_T60 l0 x11_1).f3) x42_2).f0), .string ((rd_T63 ((rd_T60 l0 x11_1).f3) x42_2).f1), .string ((rd_T63 ((rd_T60 l0 x11_1).f3) x42_2).f2), .int .i64 ((rd_T63 ((rd_T60 l0 x11_1).f3) x42_2).f3), .int .i64 ((rd_T63 ((rd_T60 l0 x11_1).f3) x42_2).f4.f0), .int .i64 ((rd_T63 ((rd_T60 l0 x11_1).f3) x42_2).f4.f1)] (fun _ => True) (fun _ => False) rfl rfl ?aP (fun _ hk => hk.elim) ?aF ?aO ?aB ?aS ?aL ?_
                            (case aP => exact k62_mkM _ _ _ (⟨(rd_T63 ((rd_T60 l0 x11_1).f3) x42_2).f0, (rd_T63 ((rd_T60 l0 x11_1).f3) x42_2).f1, (rd_T63 ((rd_T60 l0 x11_1).f3) x42_2).f2, (rd_T63 ((rd_T60 l0 x11_1).f3) x42_2).f3, (⟨(rd_T63 ((rd_T60 l0 x11_1).f3) x42_2).f4.f0, (rd_T63 ((rd_T60 l0 x11_1).f3) x42_2).f4.f1⟩ : S34)⟩ : S62))
                            (case aB => exact (by repeat (first | (with_reducible first | exact HB.out | apply below_alloc | apply pw_below_drewN | apply below_drew1 | refine below_set ?_ GE170.out) | exact HB.out)))
                            (case aF => exact (fun _ _ => trivial))
                            (case aO => exact (by (with_reducible repeat (first | apply Kd.R_alloc | apply Kd.R_drewN | apply Kd.R_drew)); exact HO_171004.out))
                            (case aS => exact (below_size (by repeat (first | (with_reducible first | exact HB.out | apply below_alloc | apply pw_below_drewN | apply below_drew1 | refine below_set ?_ GE170.out) | exact HB.out))))
                            (case aL => have := LMc25.out; omega)
                            intro v175 w27 ho hb hg hat
                            rw [← Ny174.out] at ho
                            have n0_ := Aside0.mk (Kd.R_after (ok := (fun k_ => some k_ ≠ (.slice Ao11 t167.length co11 : Value).ownBlock ∧ k_ ≠ gb170)) (by (with_reducible repeat (first | apply Kd.R_alloc | apply Kd.R_drewN | apply Kd.R_drew)); exact Kd.R_mono HO_3.out (fun _ hk => ⟨⟨hk.2.1, hk.2.2⟩, hk.1⟩)) hg hat)
                            have n1_ := Aside0.mk (Kd.R_after (ok := (fun k_ => some k_ ≠ (u3 : Value).ownBlock ∧ k_ ≠ gb170)) (by (with_reducible repeat (first | apply Kd.R_alloc | apply Kd.R_drewN | apply Kd.R_drew)); exact Kd.R_mono HO_171007.out (fun _ hk => ⟨⟨hk.1, hk.2.2⟩, hk.2.1⟩)) hg hat)
                            have n2_ := Aside0.mk (blk_grown (g := gb170) (o := .cells #[.int .i64 ((rd_T60 l0 x11_1).f0), .string ((rd_T60 l0 x11_1).f1), .int .i64 ((rd_T60 l0 x11_1).f2.f0), .int .i64 ((rd_T60 l0 x11_1).f2.f1), u171004, .slice none 0 0, .slice none 0 0, .slice Ao11 t167.length co11] 41 (0, 0)) (by (with_reducible repeat (first | refine blk_drewN ?_ _ | refine blk_drew ?_ | refine blk_alloc ?_ _)); exact BK170.out) hg (Kd.R_ne HO_171004.out BK170.out (by decide)))
                            have n3_ := Aside0.mk (hb)
                            have n4_ := Aside0.mk (ho)
                            clear HO_3
                            clear HO_171007
                            clear BK170
                            clear HB
                            clear HO_171004
                            have HO_3 := n0_
                            have HO_171007 := n1_
                            have BK170 := n2_
                            have HB := n3_
                            have HO176 := n4_
                            clear n0_ n1_ n2_ n3_ n4_
                            clear ho hb hg hat
                            obtain ⟨Ao28, co28, eo28⟩ := Kd.R_slice HO176.out
                            (first | subst eo28 | (injection eo28 with f1_ f2_ f3_; have f4_ := f1_.symm; have f5_ := f3_.symm; clear f1_ f2_ f3_; subst f4_; subst f5_))
                            refine hK.out _ _ ⟨(blk_cell BK170.out 0).trans rfl, (blk_cell BK170.out 1).trans rfl, (blk_cell BK170.out 2).trans rfl, (blk_cell BK170.out 3).trans rfl, (blk_cell BK170.out 4).trans rfl, (blk_cell BK170.out 5).trans rfl, (blk_cell BK170.out 6).trans rfl, (blk_cell BK170.out 7).trans rfl, ((HB.out.cell (World.block_lt_of_cell? w _ hw172_0)).trans hw172_0), ((HB.out.cell (World.block_lt_of_cell? w _ hw172_1)).trans hw172_1), ((HB.out.cell (World.block_lt_of_cell? w _ hw172_2)).trans hw172_2), ((HB.out.cell (World.block_lt_of_cell? w _ hw172_3)).trans hw172_3), ((HB.out.cell (World.block_lt_of_cell? w _ hw172_4)).trans hw172_4), ((HB.out.cell (World.block_lt_of_cell? w _ hw172_5)).trans hw172_5), ((HB.out.cell (World.block_lt_of_cell? w _ hw172_6)).trans hw172_6), ((HB.out.cell (World.block_lt_of_cell? w _ hw172_7)).trans hw172_7), ((HB.out.cell (World.block_lt_of_cell? w _ hw173_0)).trans hw173_0), ((HB.out.cell (World.block_lt_of_cell? w _ hw173_1)).trans hw173_1), ((HB.out.cell (World.block_lt_of_cell? w _ hw173_2)).trans hw173_2), ((HB.out.cell (World.block_lt_of_cell? w _ hw173_3)).trans hw173_3), ((HB.out.cell (World.block_lt_of_cell? w _ hw173_4)).trans hw173_4), ((HB.out.cell (World.block_lt_of_cell? w _ hw173_5)).trans hw173_5)⟩ (fun hHeld => ?_)
                            clear hK K
                            refine norm_ (a' := ?_) ?_ ?_
                            rotate_left
                            · show Act.put _ (some 56) _ = _
                              simp only [Act.put, List.setIfInBounds_toArray, List.set_cons_zero, List.set_cons_succ, i64_w, i32_w]
                              rfl
                            refine pure_ (i := 12) (N := some 57) (v := ?_) (a' := ?_) #[true, true, true, true, true, true, true, true, true, true, true, true, true, false] rfl rfl (any_of HT_.out (by kernel_rfl)) (fun _ _ _ h => h) (Or.inl ⟨by rfl, ?_⟩) ?_ ?_
                            rotate_left
                            · intro w'
                              go_simp
                              with_reducible rfl
                            rotate_left
                            · simp only [Act.put, List.setIfInBounds_toArray, List.set_cons_zero, List.set_cons_succ, i64_w, i32_w]
                              rfl
                            refine last_ (i := 13) (N := none) #[true, true, true, true, true, true, true, true, true, true, true, true, true, true] rfl rfl (one_of HT_.out (by kernel_rfl)) (by decide) (fun K hK => ?_)
                            have hs29 : w27.cell? ⟨gb170, 4, none⟩ = some (u171004) := (blk_cell BK170.out 4).trans rfl
                            have hfs29 := blk_frozen BK170.out 4
                            refine skip_ (w1 := ?_) (by rfl) rfl ?_ ?_
                            rotate_left
                            · go_simp
                              rfl
                            refine hK.out _ _ ?_
                            clear hK K
                            refine done_ (done_of HT_.out (by kernel_rfl)) ?_
                            try go_wp2
                            go_roundg k2
                            case measure => have := HK1.out; have := HK2.out; omega
                            case rel => exact ⟨(wrap64 (x42_2 + 1)), (y174), (.slice Ao28 y174.length co28), (by first | rfl | (simp; done) | (simp [*]; done)), H', ⟨by have := HK1.out; have := HK2.out; omega⟩, ⟨by (with_reducible repeat (first | apply Kd.R_alloc | apply Kd.R_drewN | apply Kd.R_drew)); exact Kd.R_mono (Kd.R_far (p := ⟨gb170, 4, none⟩) (Kd.R_mono HO_3.out (fun k_ hk => (⟨hk, hk.1.2⟩ : _ ∧ k_ ≠ gb170))) (fun _ hk => hk.2) (.slice Ao28 y174.length co28)) (fun _ hk => ⟨hk.1.2, ⟨hk.1.1.1, hk.1.1.2⟩⟩)⟩, ⟨by (with_reducible repeat (first | apply Kd.R_alloc | apply Kd.R_drewN | apply Kd.R_drew)); exact Kd.R_mono (Kd.R_far (p := ⟨gb170, 4, none⟩) (Kd.R_types HO176.out BK170.out (by decide)) (fun _ hk => hk.2) (.slice Ao28 y174.length co28)) (fun _ hk => trivial)⟩, ⟨by (with_reducible repeat (first | apply Kd.R_alloc | apply Kd.R_drewN | apply Kd.R_drew)); exact Kd.R_mono (Kd.R_far (p := ⟨gb170, 4, none⟩) (Kd.R_mono HO_171007.out (fun k_ hk => (⟨hk, hk.1.2⟩ : _ ∧ k_ ≠ gb170))) (fun _ hk => hk.2) (.slice Ao28 y174.length co28)) (fun _ hk => ⟨hk.1.1.1, ⟨hk.1.2, hk.1.1.2⟩⟩)⟩, ⟨by (with_reducible repeat (first | refine blk_drewN ?_ _ | refine blk_drew ?_ | refine blk_alloc ?_ _)); refine blk_put (cs := #[.int .i64 ((rd_T60 l0 x11_1).f0), .string ((rd_T60 l0 x11_1).f1), .int .i64 ((rd_T60 l0 x11_1).f2.f0), .int .i64 ((rd_T60 l0 x11_1).f2.f1), u171004, .slice none 0 0, .slice none 0 0, .slice Ao11 t167.length co11]) ?_ 4 _ rfl; (with_reducible repeat (first | refine blk_drewN ?_ _ | refine blk_drew ?_ | refine blk_alloc ?_ _)); exact BK170.out⟩, ⟨by repeat (first | (with_reducible first | exact HB.out | apply below_alloc | apply pw_below_drewN | apply below_drew1 | refine below_set ?_ GE170.out) | exact HB.out)⟩⟩
                          · rw [if_neg c25] at H
                            exact absurd H (by simp)
                        · rw [if_neg c24] at H
                          exact absurd H (by simp)
                      · rw [if_neg c23] at H
                        exact absurd H (by simp)
                    · rw [if_neg c22] at H
                      exact absurd H (by simp)
                  · rw [if_neg c21] at H
                    exact absurd H (by simp)
                · rw [if_neg c20] at H
                  have c20b0 : decide (x42_2 < (((rd_T60 l0 x11_1).f3).length : Int)) = false := decide_eq_false c20
                  clear c20
                  by_cases c30 : 0 ≤ x11_1
                  · rw [if_pos c30] at H
                    have c30b0 : decide (0 ≤ x11_1) = true := decide_eq_true c30
                    clear c30
                    by_cases c31 : x11_1 < (l0.length : Int)
                    · rw [if_pos c31] at H
                      have c31b0 : decide (x11_1 < (l0.length : Int)) = true := decide_eq_true c31
                      clear c31
                      have H' := Aside0.mk H
                      clear H
                      have p177 : 0 ≤ (x11_1 : Int) := of_decide_eq_true (by first | (with_reducible assumption) | assumption)
                      have q177 : x11_1 < (l0.length : Int) := of_decide_eq_true (by first | (with_reducible assumption) | assumption)
                      obtain ⟨ad177, A177_4, c177_4, A177_5, c177_5, A177_6, c177_6, A177_7, c177_7, e177, hx177_0, hx177_1, hx177_2, hx177_3, hx177_4, hx177_5, hx177_6, hx177_7, hl177_4, hi177_4, hl177_5, hi177_5, hl177_6, hi177_6, hl177_7, hi177_7⟩ := at_T60 HR0.out x11_1 p177 q177
                      obtain rfl : ad163 = ad177 := (by injection e177)
                      replace hx177_0 := (HB.out.cell (World.block_lt_of_cell? w _ hx177_0)).trans hx177_0
                      replace hx177_1 := (HB.out.cell (World.block_lt_of_cell? w _ hx177_1)).trans hx177_1
                      replace hx177_2 := (HB.out.cell (World.block_lt_of_cell? w _ hx177_2)).trans hx177_2
                      replace hx177_3 := (HB.out.cell (World.block_lt_of_cell? w _ hx177_3)).trans hx177_3
                      replace hx177_4 := (HB.out.cell (World.block_lt_of_cell? w _ hx177_4)).trans hx177_4
                      replace hx177_5 := (HB.out.cell (World.block_lt_of_cell? w _ hx177_5)).trans hx177_5
                      replace hx177_6 := (HB.out.cell (World.block_lt_of_cell? w _ hx177_6)).trans hx177_6
                      replace hx177_7 := (HB.out.cell (World.block_lt_of_cell? w _ hx177_7)).trans hx177_7
                      have HR177_4 := Aside0.mk hi177_4
                      have HC177_4 := Aside0.mk hl177_4
                      clear hi177_4 hl177_4
                      have HR177_5 := Aside0.mk hi177_5
                      have HC177_5 := Aside0.mk hl177_5
                      clear hi177_5 hl177_5
                      have HR177_6 := Aside0.mk hi177_6
                      have HC177_6 := Aside0.mk hl177_6
                      clear hi177_6 hl177_6
                      have HR177_7 := Aside0.mk hi177_7
                      have HC177_7 := Aside0.mk hl177_7
                      clear hi177_7 hl177_7
                      replace p177 := eq_true p177
                      replace q177 := eq_true q177
                      go_wp2
                      go_loopg [65] k2 (fun kq v65 w' => ∃ (x65_3 : Int) (x171005_3 : List (S36)) (u171005 : Value), v65 = .int .i64 x65_3 ∧ Aside0 (courierlaw05_Theirs.l2 kq l0 x3_1 x11_1 (l0.length : Int) x11_1 (((rd_T60 l0 x11_1).f4).length : Int) x65_3 ((rd_T60 l0 x11_1).f0) ((rd_T60 l0 x11_1).f1) ((rd_T60 l0 x11_1).f2.f0) ((rd_T60 l0 x11_1).f2.f1) x171004_2 x171005_3 t167 = some r) ∧ Aside0 (kq ≤ k2) ∧ Aside0 (Kd.R k41 41 w' w.heap.size (fun k_ => some k_ ≠ (u171004 : Value).ownBlock ∧ some k_ ≠ (u171005 : Value).ownBlock ∧ some k_ ≠ ((.slice Ao11 t167.length co11) : Value).ownBlock ∧ k_ ≠ gb170) u3 x3_1) ∧ Aside0 (Kd.R k62 62 w' w.heap.size (fun _ => True) u171004 x171004_2) ∧ Aside0 (Kd.R k36 36 w' w.heap.size (fun _ => True) u171005 x171005_3) ∧ Aside0 (Kd.R k41 41 w' w.heap.size (fun k_ => some k_ ≠ (u3 : Value).ownBlock ∧ some k_ ≠ (u171004 : Value).ownBlock ∧ some k_ ≠ (u171005 : Value).ownBlock ∧ k_ ≠ gb170) (.slice Ao11 t167.length co11) t167) ∧ Aside0 (w'.heap[gb170]? = some (.cells #[.int .i64 ((rd_T60 l0 x11_1).f0), .string ((rd_T60 l0 x11_1).f1), .int .i64 ((rd_T60 l0 x11_1).f2.f0), .int .i64 ((rd_T60 l0 x11_1).f2.f1), u171004, u171005, (.slice none 0 0), (.slice Ao11 t167.length co11)] 41 (0, 0))) ∧ Aside0 (Below w.heap.size w w'))
                      case atStart => exact ⟨(0), (([] : List (S36))), (.slice none 0 0), (by first | rfl | (simp; done) | (simp [*]; done)), H', ⟨Nat.le_refl _⟩, ⟨by (with_reducible repeat (first | apply Kd.R_alloc | apply Kd.R_drewN | apply Kd.R_drew)); exact Kd.R_mono HO_3.out (fun _ hk => ⟨hk.1, ⟨(by simp [Value.ownBlock]), ⟨hk.2.1, hk.2.2⟩⟩⟩)⟩, ⟨by (with_reducible repeat (first | apply Kd.R_alloc | apply Kd.R_drewN | apply Kd.R_drew)); exact HO_171004.out⟩, ⟨by first | exact Kd.R_nil _ _ _ _ _ | exact Kd.N_nil _ _ _ _ _ | exact Kd.V_nil _ _ _ _ _ | exact Kd.Q_nil _ _ _ _ _ | exact Kd.S_nil _ _ _ _ _⟩, ⟨by (with_reducible repeat (first | apply Kd.R_alloc | apply Kd.R_drewN | apply Kd.R_drew)); exact Kd.R_mono HO_171007.out (fun _ hk => ⟨hk.1, ⟨hk.2.1, ⟨(by simp [Value.ownBlock]), hk.2.2⟩⟩⟩)⟩, ⟨by (with_reducible repeat (first | refine blk_drewN ?_ _ | refine blk_drew ?_ | refine blk_alloc ?_ _)); exact BK170.out⟩, ⟨by repeat (first | (with_reducible first | exact HB.out | apply below_alloc | apply pw_below_drewN | apply below_drew1 | refine below_set ?_ GE170.out) | exact HB.out)⟩⟩
                      case round =>
                        clear H'
                        try clear c1
                        try clear p1
                        try clear q1
                        try clear hx1
                        try clear c2
                        try clear p2
                        try clear c3
                        try clear p6
                        try clear c8
                        try clear c16
                        try clear p16
                        try clear q16
                        try clear hx16
                        try clear c17
                        try clear p17
                        try clear q17
                        try clear hx17
                        try clear c20
                        try clear c20b0
                        try clear c21
                        try clear c21b0
                        try clear c22
                        try clear c22b0
                        try clear c23
                        try clear c23b0
                        try clear c24
                        try clear c24b0
                        try clear c25
                        try clear c30
                        try clear c30b0
                        try clear c31
                        try clear c31b0
                        try clear hx163_0
                        try clear hx163_1
                        try clear hx163_2
                        try clear hx163_3
                        try clear hx163_4
                        try clear hx163_5
                        try clear hx163_6
                        try clear hx163_7
                        try clear hx164_0
                        try clear hx164_1
                        try clear hx164_2
                        try clear hx164_3
                        try clear hx164_4
                        try clear hx164_5
                        try clear hx164_6
                        try clear hx164_7
                        try clear hx165_0
                        try clear hx165_1
                        try clear hx165_2
                        try clear hx165_3
                        try clear hx165_4
                        try clear hx165_5
                        try clear hx165_6
                        try clear hx165_7
                        try clear hx166_0
                        try clear hx166_1
                        try clear hx166_2
                        try clear hx166_3
                        try clear hx166_4
                        try clear hx166_5
                        try clear hx166_6
                        try clear hx166_7
                        try clear hx171_0
                        try clear hx171_1
                        try clear hx171_2
                        try clear hx171_3
                        try clear hx171_4
                        try clear hx171_5
                        try clear hx171_6
                        try clear hx171_7
                        try clear hx172_0
                        try clear hx172_1
                        try clear hx172_2
                        try clear hx172_3
                        try clear hx172_4
                        try clear hx172_5
                        try clear hx172_6
                        try clear hx172_7
                        try clear hx173_0
                        try clear hx173_1
                        try clear hx173_2
                        try clear hx173_3
                        try clear hx173_4
                        try clear hx173_5
                        try clear hx177_0
                        try clear hx177_1
                        try clear hx177_2
                        try clear hx177_3
                        try clear hx177_4
                        try clear hx177_5
                        try clear hx177_6
                        try clear hx177_7
                        try clear p1
                        try clear p16
                        try clear p164
                        try clear p165
                        try clear p166
                        try clear p17
                        try clear p171
                        try clear p172
                        try clear p173
                        try clear p177
                        try clear p2
                        try clear q1
                        try clear q16
                        try clear q164
                        try clear q165
                        try clear q166
                        try clear q17
                        try clear q171
                        try clear q172
                        try clear q173
                        try clear q177
                        obtain ⟨x65_3, x171005_3, u171005, rfl, HA, HK3, HO_3, HO_171004, HO_171005, HO_171007, BK170, HB⟩ := hrel
                        cases gk with
                        | zero => exact absurd HA.out (by simp [courierlaw05_Theirs.l2])
                        | succ k3 =>
                          have H := HA.out
                          clear HA
                          simp only [courierlaw05_Theirs.l2] at H
                          by_cases c32 : x65_3 < (((rd_T60 l0 x11_1).f4).length : Int)
                          · rw [if_pos c32] at H
                            have c32b0 : decide (x65_3 < (((rd_T60 l0 x11_1).f4).length : Int)) = true := decide_eq_true c32
                            clear c32
                            by_cases c33 : 0 ≤ x11_1
                            · rw [if_pos c33] at H
                              have c33b0 : decide (0 ≤ x11_1) = true := decide_eq_true c33
                              clear c33
                              by_cases c34 : x11_1 < (l0.length : Int)
                              · rw [if_pos c34] at H
                                have c34b0 : decide (x11_1 < (l0.length : Int)) = true := decide_eq_true c34
                                clear c34
                                by_cases c35 : 0 ≤ x65_3
                                · rw [if_pos c35] at H
                                  have c35b0 : decide (0 ≤ x65_3) = true := decide_eq_true c35
                                  clear c35
                                  by_cases c36 : x65_3 < (((rd_T60 l0 x11_1).f4).length : Int)
                                  · rw [if_pos c36] at H
                                    have c36b0 : decide (x65_3 < (((rd_T60 l0 x11_1).f4).length : Int)) = true := decide_eq_true c36
                                    clear c36
                                    by_cases c37 : x171005_3.length < 3518437208883
                                    · rw [if_pos c37] at H
                                      have LMc37 := Aside0.mk c37
                                      clear c37
                                      obtain ⟨y180, hy180⟩ : ∃ y_ : List (S36), y_ = (x171005_3 ++ [(⟨(rd_T64 ((rd_T60 l0 x11_1).f4) x65_3).f0, (rd_T64 ((rd_T60 l0 x11_1).f4) x65_3).f1, (⟨(rd_T64 ((rd_T60 l0 x11_1).f4) x65_3).f2.f0, (rd_T64 ((rd_T60 l0 x11_1).f4) x65_3).f2.f1⟩ : S34)⟩ : S36)]) := ⟨_, rfl⟩
                                      replace H : (courierlaw05_Theirs.l2 k3 l0 x3_1 x11_1 (l0.length : Int) x11_1 (((rd_T60 l0 x11_1).f4).length : Int) (wrap64 (x65_3 + 1)) ((rd_T60 l0 x11_1).f0) ((rd_T60 l0 x11_1).f1) ((rd_T60 l0 x11_1).f2.f0) ((rd_T60 l0 x11_1).f2.f1) x171004_2 y180 t167) = some r := by first | (rw [hy180]; with_reducible exact H) | (have H2_ := (Option.bind_some _ _).symm.trans H; rw [hy180]; with_reducible exact H2_) | (have H2_ := (Option.bind_some _ _).symm.trans H; with_reducible exact H2_) | with_reducible exact H | (rw [hy180]; exact H) | exact H
                                      have Ny180 := Aside0.mk hy180
                                      clear hy180
                                      have H' := Aside0.mk H
                                      clear H
                                      try go_wp2
                                      have n0_ := Aside0.mk (Kd.R_drew HO_3.out)
                                      have n1_ := Aside0.mk (Kd.R_drew HO_171004.out)
                                      have n2_ := Aside0.mk (Kd.R_drew HO_171005.out)
                                      have n3_ := Aside0.mk (Kd.R_drew HO_171007.out)
                                      have n4_ := Aside0.mk (blk_drew BK170.out)
                                      have n5_ := Aside0.mk (below_drew1 HB.out)
                                      clear HO_3
                                      clear HO_171004
                                      clear HO_171005
                                      clear HO_171007
                                      clear BK170
                                      clear HB
                                      have HO_3 := n0_
                                      have HO_171004 := n1_
                                      have HO_171005 := n2_
                                      have HO_171007 := n3_
                                      have BK170 := n4_
                                      have HB := n5_
                                      clear n0_ n1_ n2_ n3_ n4_ n5_
                                      have p178 : 0 ≤ (x11_1 : Int) := of_decide_eq_true (by first | (with_reducible assumption) | assumption)
                                      have q178 : x11_1 < (l0.length : Int) := of_decide_eq_true (by first | (with_reducible assumption) | assumption)
                                      obtain ⟨ad178, A178_4, c178_4, A178_5, c178_5, A178_6, c178_6, A178_7, c178_7, e178, hx178_0, hx178_1, hx178_2, hx178_3, hx178_4, hx178_5, hx178_6, hx178_7, hl178_4, hi178_4, hl178_5, hi178_5, hl178_6, hi178_6, hl178_7, hi178_7⟩ := at_T60 HR0.out x11_1 p178 q178
                                      have hw178_7 := hx178_7
                                      have hw178_6 := hx178_6
                                      have hw178_5 := hx178_5
                                      have hw178_4 := hx178_4
                                      have hw178_3 := hx178_3
                                      have hw178_2 := hx178_2
                                      have hw178_1 := hx178_1
                                      have hw178_0 := hx178_0
                                      obtain rfl : ad163 = ad178 := (by injection e178)
                                      replace hx178_0 := (HB.out.cell (World.block_lt_of_cell? w _ hx178_0)).trans hx178_0
                                      replace hx178_1 := (HB.out.cell (World.block_lt_of_cell? w _ hx178_1)).trans hx178_1
                                      replace hx178_2 := (HB.out.cell (World.block_lt_of_cell? w _ hx178_2)).trans hx178_2
                                      replace hx178_3 := (HB.out.cell (World.block_lt_of_cell? w _ hx178_3)).trans hx178_3
                                      replace hx178_4 := (HB.out.cell (World.block_lt_of_cell? w _ hx178_4)).trans hx178_4
                                      replace hx178_5 := (HB.out.cell (World.block_lt_of_cell? w _ hx178_5)).trans hx178_5
                                      replace hx178_6 := (HB.out.cell (World.block_lt_of_cell? w _ hx178_6)).trans hx178_6
                                      replace hx178_7 := (HB.out.cell (World.block_lt_of_cell? w _ hx178_7)).trans hx178_7
                                      have HR178_4 := Aside0.mk hi178_4
                                      have HC178_4 := Aside0.mk hl178_4
                                      clear hi178_4 hl178_4
                                      have HR178_5 := Aside0.mk hi178_5
                                      have HC178_5 := Aside0.mk hl178_5
                                      clear hi178_5 hl178_5
                                      have HR178_6 := Aside0.mk hi178_6
                                      have HC178_6 := Aside0.mk hl178_6
                                      clear hi178_6 hl178_6
                                      have HR178_7 := Aside0.mk hi178_7
                                      have HC178_7 := Aside0.mk hl178_7
                                      clear hi178_7 hl178_7
                                      replace p178 := eq_true p178
                                      replace q178 := eq_true q178
                                      have p179 : 0 ≤ (x65_3 : Int) := of_decide_eq_true (by first | (with_reducible assumption) | assumption)
                                      have q179 : x65_3 < (((rd_T60 l0 x11_1).f4).length : Int) := of_decide_eq_true (by first | (with_reducible assumption) | assumption)
                                      obtain ⟨ad179, e179, hx179_0, hx179_1, hx179_2, hx179_3⟩ := at_T64 HR178_5.out x65_3 p179 q179
                                      have hw179_3 := hx179_3
                                      have hw179_2 := hx179_2
                                      have hw179_1 := hx179_1
                                      have hw179_0 := hx179_0
                                      cases e179
                                      replace hx179_0 := (HB.out.cell (World.block_lt_of_cell? w _ hx179_0)).trans hx179_0
                                      replace hx179_1 := (HB.out.cell (World.block_lt_of_cell? w _ hx179_1)).trans hx179_1
                                      replace hx179_2 := (HB.out.cell (World.block_lt_of_cell? w _ hx179_2)).trans hx179_2
                                      replace hx179_3 := (HB.out.cell (World.block_lt_of_cell? w _ hx179_3)).trans hx179_3
                                      replace p179 := eq_true p179
                                      replace q179 := eq_true q179
                                      refine start_ (n := 14) (S := fun w' => w'.cell? ⟨gb170, 0, none⟩ = some (.int .i64 ((rd_T60 l0 x11_1).f0)) ∧ w'.cell? ⟨gb170, 1, none⟩ = some (.string ((rd_T60 l0 x11_1).f1)) ∧ w'.cell? ⟨gb170, 2, none⟩ = some (.int .i64 ((rd_T60 l0 x11_1).f2.f0)) ∧ w'.cell? ⟨gb170, 3, none⟩ = some (.int .i64 ((rd_T60 l0 x11_1).f2.f1)) ∧ w'.cell? ⟨gb170, 4, none⟩ = some (u171004) ∧ w'.cell? ⟨gb170, 5, none⟩ = some (u171005) ∧ w'.cell? ⟨gb170, 6, none⟩ = some (.slice none 0 0) ∧ w'.cell? ⟨gb170, 7, none⟩ = some (.slice Ao11 t167.length co11) ∧ w'.cell? (ad163.add ((x11_1).toNat * 8)) = some (.int .i64 ((rd_T60 l0 x11_1).f0)) ∧ w'.cell? ⟨(ad163.add ((x11_1).toNat * 8)).block, (ad163.add ((x11_1).toNat * 8)).off + 1, none⟩ = some (.string ((rd_T60 l0 x11_1).f1)) ∧ w'.cell? ⟨(ad163.add ((x11_1).toNat * 8)).block, (ad163.add ((x11_1).toNat * 8)).off + 2, none⟩ = some (.int .i64 ((rd_T60 l0 x11_1).f2.f0)) ∧ w'.cell? ⟨(ad163.add ((x11_1).toNat * 8)).block, (ad163.add ((x11_1).toNat * 8)).off + 3, none⟩ = some (.int .i64 ((rd_T60 l0 x11_1).f2.f1)) ∧ w'.cell? ⟨(ad163.add ((x11_1).toNat * 8)).block, (ad163.add ((x11_1).toNat * 8)).off + 4, none⟩ = some (.slice A178_4 ((rd_T60 l0 x11_1).f3).length c178_4) ∧ w'.cell? ⟨(ad163.add ((x11_1).toNat * 8)).block, (ad163.add ((x11_1).toNat * 8)).off + 5, none⟩ = some (.slice (some ad179) ((rd_T60 l0 x11_1).f4).length c178_5) ∧ w'.cell? ⟨(ad163.add ((x11_1).toNat * 8)).block, (ad163.add ((x11_1).toNat * 8)).off + 6, none⟩ = some (.slice A178_6 ((rd_T60 l0 x11_1).f5).length c178_6) ∧ w'.cell? ⟨(ad163.add ((x11_1).toNat * 8)).block, (ad163.add ((x11_1).toNat * 8)).off + 7, none⟩ = some (.slice A178_7 ((rd_T60 l0 x11_1).f6).length c178_7) ∧ w'.cell? (ad179.add ((x65_3).toNat * 4)) = some (.string ((rd_T64 ((rd_T60 l0 x11_1).f4) x65_3).f0)) ∧ w'.cell? ⟨(ad179.add ((x65_3).toNat * 4)).block, (ad179.add ((x65_3).toNat * 4)).off + 1, none⟩ = some (.int .i64 ((rd_T64 ((rd_T60 l0 x11_1).f4) x65_3).f1)) ∧ w'.cell? ⟨(ad179.add ((x65_3).toNat * 4)).block, (ad179.add ((x65_3).toNat * 4)).off + 2, none⟩ = some (.int .i64 ((rd_T64 ((rd_T60 l0 x11_1).f4) x65_3).f2.f0)) ∧ w'.cell? ⟨(ad179.add ((x65_3).toNat * 4)).block, (ad179.add ((x65_3).toNat * 4)).off + 3, none⟩ = some (.int .i64 ((rd_T64 ((rd_T60 l0 x11_1).f4) x65_3).f2.f1))) (ds := [13]) #[false, false, false, false, false, false, false, false, false, false, false, false, false, false] (by kernel_rfl) rfl rfl ⟨(blk_cell BK170.out 0).trans rfl, (blk_cell BK170.out 1).trans rfl, (blk_cell BK170.out 2).trans rfl, (blk_cell BK170.out 3).trans rfl, (blk_cell BK170.out 4).trans rfl, (blk_cell BK170.out 5).trans rfl, (blk_cell BK170.out 6).trans rfl, (blk_cell BK170.out 7).trans rfl, ((HB.out.cell (World.block_lt_of_cell? w _ hw178_0)).trans hw178_0), ((HB.out.cell (World.block_lt_of_cell? w _ hw178_1)).trans hw178_1), ((HB.out.cell (World.block_lt_of_cell? w _ hw178_2)).trans hw178_2), ((HB.out.cell (World.block_lt_of_cell? w _ hw178_3)).trans hw178_3), ((HB.out.cell (World.block_lt_of_cell? w _ hw178_4)).trans hw178_4), ((HB.out.cell (World.block_lt_of_cell? w _ hw178_5)).trans hw178_5), ((HB.out.cell (World.block_lt_of_cell? w _ hw178_6)).trans hw178_6), ((HB.out.cell (World.block_lt_of_cell? w _ hw178_7)).trans hw178_7), ((HB.out.cell (World.block_lt_of_cell? w _ hw179_0)).trans hw179_0), ((HB.out.cell (World.block_lt_of_cell? w _ hw179_1)).trans hw179_1), ((HB.out.cell (World.block_lt_of_cell? w _ hw179_2)).trans hw179_2), ((HB.out.cell (World.block_lt_of_cell? w _ hw179_3)).trans hw179_3)⟩ (fun hHeld => ?_); refine with_tabW courierlaw05_Theirs.tab14 courierlaw05_Theirs.bits14 (fun HT_ HW_ => ?_)
                                      generalize wr.drew = w38 at HO_3 HO_171004 HO_171005 HO_171007 BK170 HB HR178_4 HR178_5 HR178_6 HR178_7 hx178_0 hx178_1 hx178_2 hx178_3 hx178_4 hx178_5 hx178_6 hx178_7 hx179_0 hx179_1 hx179_2 hx179_3 hHeld ⊢
                                      refine pure_ (i := 0) (N := some 68) (v := ?_) (a' := ?_) #[true, false, false, false, false, false, false, false, false, false, false, false, false, false] rfl rfl (any_of HT_.out (by kernel_rfl)) (fun _ _ _ h => h) (Or.inl ⟨by rfl, ?_⟩) ?_ ?_
                                      rotate_left
                                      · intro w'
                                        go_simp
                                        with_reducible rfl
                                      rotate_left
                                      · simp only [Act.put, List.setIfInBounds_toArray, List.set_cons_zero, List.set_cons_succ, i64_w, i32_w]
                                        rfl
                                      refine pure_ (i := 2) (N := some 70) (v := ?_) (a' := ?_) #[true, false, true, false, false, false, false, false, false, false, false, false, false, false] rfl rfl (any_of HT_.out (by kernel_rfl)) (fun _ _ _ h => h) (Or.inl ⟨by rfl, ?_⟩) ?_ ?_
                                      rotate_left
                                      · intro w'
                                        go_simp
                                        with_reducible rfl
                                      rotate_left
                                      · simp only [Act.put, List.setIfInBounds_toArray, List.set_cons_zero, List.set_cons_succ, i64_w, i32_w]
                                        rfl
                                      refine pure_ (i := 3) (N := some 71) (v := ?_) (a' := ?_) #[true, false, true, true, false, false, false, false, false, false, false, false, false, false] rfl rfl (any_of HT_.out (by kernel_rfl)) (fun _ _ _ h => h) (Or.inl ⟨by rfl, ?_⟩) ?_ ?_
                                      rotate_left
                                      · intro w'
                                        go_simp
                                        with_reducible rfl
                                      rotate_left
                                      · simp only [Act.put, List.setIfInBounds_toArray, List.set_cons_zero, List.set_cons_succ, i64_w, i32_w]
                                        rfl
                                      refine pure_ (i := 4) (N := some 72) (v := ?_) (a' := ?_) #[true, false, true, true, true, false, false, false, false, false, false, false, false, false] rfl rfl (any_of HT_.out (by kernel_rfl)) (fun _ _ _ h => h) (Or.inl ⟨by rfl, ?_⟩) ?_ ?_
                                      rotate_left
                                      · intro w'
                                        go_simp
                                        with_reducible rfl
                                      rotate_left
                                      · simp only [Act.put, List.setIfInBounds_toArray, List.set_cons_zero, List.set_cons_succ, i64_w, i32_w]
                                        rfl
                                      refine pure_ (i := 5) (N := some 73) (v := ?_) (a' := ?_) #[true, false, true, true, true, true, false, false, false, false, false, false, false, false] rfl rfl (any_of HT_.out (by kernel_rfl)) (fun _ _ _ h => h) (Or.inl ⟨by rfl, ?_⟩) ?_ ?_
                                      rotate_left
                                      · intro w'
                                        go_simp
                                        with_reducible rfl
                                      rotate_left
                                      · simp only [Act.put, List.setIfInBounds_toArray, List.set_cons_zero, List.set_cons_succ, i64_w, i32_w]
                                        rfl
                                      refine pure_ (i := 7) (N := some 75) (v := ?_) (a' := ?_) #[true, false, true, true, true, true, false, true, false, false, false, false, false, false] rfl rfl (any_of HT_.out (by kernel_rfl)) (fun _ _ _ h => h) (Or.inl ⟨by rfl, ?_⟩) ?_ ?_
                                      rotate_left
                                      · intro w'
                                        go_simp
                                        with_reducible rfl
                                      rotate_left
                                      · simp only [Act.put, List.setIfInBounds_toArray, List.set_cons_zero, List.set_cons_succ, i64_w, i32_w]
                                        rfl
                                      refine take_ (i := 1) (N := some 69) (v := ?_) (a' := ?_) #[true, true, true, true, true, true, false, true, false, false, false, false, false, false] rfl rfl (take_ofW HT_.out HW_.out (by kernel_rfl)) (fun _ _ _ h => h) (Or.inl ⟨by rfl, ?_⟩) hHeld ?_ ?_
                                      rotate_left
                                      · rintro w' ⟨s0, s1, s2, s3, s4, s5, s6, s7, s8, s9, s10, s11, s12, s13, s14, s15, s16, s17, s18, s19⟩
                                        go_simp
                                        with_reducible rfl
                                      rotate_left
                                      · simp only [Act.put, List.setIfInBounds_toArray, List.set_cons_zero, List.set_cons_succ, i64_w, i32_w]
                                        rfl
                                      refine take_ (i := 6) (N := some 74) (v := ?_) (a' := ?_) #[true, true, true, true, true, true, true, true, false, false, false, false, false, false] rfl rfl (take_ofW HT_.out HW_.out (by kernel_rfl)) (fun _ _ _ h => h) (Or.inl ⟨by rfl, ?_⟩) hHeld ?_ ?_
                                      rotate_left
                                      · rintro w' ⟨s0, s1, s2, s3, s4, s5, s6, s7, s8, s9, s10, s11, s12, s13, s14, s15, s16, s17, s18, s19⟩
                                        go_simp
                                        with_reducible rfl
                                      rotate_left
                                      · simp only [Act.put, List.setIfInBounds_toArray, List.set_cons_zero, List.set_cons_succ, i64_w, i32_w]
                                        rfl
                                      refine pure_ (i := 8) (N := some 76) (v := ?_) (a' := ?_) #[true, true, true, true, true, true, true, true, true, false, false, false, false, false] rfl rfl (any_of HT_.out (by kernel_rfl)) (fun _ _ _ h => h) (Or.inl ⟨by rfl, ?_⟩) ?_ ?_
                                      rotate_left
                                      · intro w'
                                        go_simp
                                        with_reducible rfl
                                      rotate_left
                                      · simp only [Act.put, List.setIfInBounds_toArray, List.set_cons_zero, List.set_cons_succ, i64_w, i32_w]
                                        rfl
                                      refine take_ (i := 9) (N := some 77) (v := ?_) (a' := ?_) #[true, true, true, true, true, true, true, true, true, true, false, false, false, false] rfl rfl (take_ofW HT_.out HW_.out (by kernel_rfl)) (fun _ _ _ h => h) (Or.inl ⟨by rfl, ?_⟩) hHeld ?_ ?_
                                      rotate_left
                                      · rintro w' ⟨s0, s1, s2, s3, s4, s5, s6, s7, s8, s9, s10, s11, s12, s13, s14, s15, s16, s17, s18, s19⟩
                                        go_simp
                                        with_reducible rfl
                                      rotate_left
                                      · simp only [Act.put, List.setIfInBounds_toArray, List.set_cons_zero, List.set_cons_succ, i64_w, i32_w]
                                        rfl
                                      refine one_ (i := 10) (N := some 78) #[true, true, true, true, true, true, true, true, true, true, true, false, false, false] rfl rfl (one_of HT_.out (by kernel_rfl)) (by decide) (fun K hK => ?_)
                                      refine value_ (w1 := ?_) (v := ?_) (by rfl) rfl ?_ ?_
                                      rotate_left 2
                                      · go_simp
                                        constructor
                                        · rfl
                                        · rfl
                                      refine hK.out _ _ ⟨(blk_cell (blk_alloc BK170.out _) 0).trans rfl, (blk_cell (blk_alloc BK170.out _) 1).trans rfl, (blk_cell (blk_alloc BK170.out _) 2).trans rfl, (blk_cell (blk_alloc BK170.out _) 3).trans rfl, (blk_cell (blk_alloc BK170.out _) 4).trans rfl, (blk_cell (blk_alloc BK170.out _) 5).trans rfl, (blk_cell (blk_alloc BK170.out _) 6).trans rfl, (blk_cell (blk_alloc BK170.out _) 7).trans rfl, (World.cell?_alloc_lt _ _ _ (World.block_lt_of_cell? _ _ (((HB.out.cell (World.block_lt_of_cell? w _ hw178_0)).trans hw178_0)))).trans (((HB.out.cell (World.block_lt_of_cell? w _ hw178_0)).trans hw178_0)), (World.cell?_alloc_lt _ _ _ (World.block_lt_of_cell? _ _ (((HB.out.cell (World.block_lt_of_cell? w _ hw178_1)).trans hw178_1)))).trans (((HB.out.cell (World.block_lt_of_cell? w _ hw178_1)).trans hw178_1)), (World.cell?_alloc_lt _ _ _ (World.block_lt_of_cell? _ _ (((HB.out.cell (World.block_lt_of_cell? w _ hw178_2)).trans hw178_2)))).trans (((HB.out.cell (World.block_lt_of_cell? w _ hw178_2)).trans hw178_2)), (World.cell?_alloc_lt _ _ _ (World.block_lt_of_cell? _ _ (((HB.out.cell (World.block_lt_of_cell? w _ hw178_3)).trans hw178_3)))).trans (((HB.out.cell (World.block_lt_of_cell? w _ hw178_3)).trans hw178_3)), (World.cell?_alloc_lt _ _ _ (World.block_lt_of_cell? _ _ (((HB.out.cell (World.block_lt_of_cell? w _ hw178_4)).trans hw178_4)))).trans (((HB.out.cell (World.block_lt_of_cell? w _ hw178_4)).trans hw178_4)), (World.cell?_alloc_lt _ _ _ (World.block_lt_of_cell? _ _ (((HB.out.cell (World.block_lt_of_cell? w _ hw178_5)).trans hw178_5)))).trans (((HB.out.cell (World.block_lt_of_cell? w _ hw178_5)).trans hw178_5)), (World.cell?_alloc_lt _ _ _ (World.block_lt_of_cell? _ _ (((HB.out.cell (World.block_lt_of_cell? w _ hw178_6)).trans hw178_6)))).trans (((HB.out.cell (World.block_lt_of_cell? w _ hw178_6)).trans hw178_6)), (World.cell?_alloc_lt _ _ _ (World.block_lt_of_cell? _ _ (((HB.out.cell (World.block_lt_of_cell? w _ hw178_7)).trans hw178_7)))).trans (((HB.out.cell (World.block_lt_of_cell? w _ hw178_7)).trans hw178_7)), (World.cell?_alloc_lt _ _ _ (World.block_lt_of_cell? _ _ (((HB.out.cell (World.block_lt_of_cell? w _ hw179_0)).trans hw179_0)))).trans (((HB.out.cell (World.block_lt_of_cell? w _ hw179_0)).trans hw179_0)), (World.cell?_alloc_lt _ _ _ (World.block_lt_of_cell? _ _ (((HB.out.cell (World.block_lt_of_cell? w _ hw179_1)).trans hw179_1)))).trans (((HB.out.cell (World.block_lt_of_cell? w _ hw179_1)).trans hw179_1)), (World.cell?_alloc_lt _ _ _ (World.block_lt_of_cell? _ _ (((HB.out.cell (World.block_lt_of_cell? w _ hw179_2)).trans hw179_2)))).trans (((HB.out.cell (World.block_lt_of_cell? w _ hw179_2)).trans hw179_2)), (World.cell?_alloc_lt _ _ _ (World.block_lt_of_cell? _ _ (((HB.out.cell (World.block_lt_of_cell? w _ hw179_3)).trans hw179_3)))).trans (((HB.out.cell (World.block_lt_of_cell? w _ hw179_3)).trans hw179_3))⟩ (fun hHeld => ?_)
                                      clear hK K
                                      refine norm_ (a' := ?_) ?_ ?_
                                      rotate_left
                                      · show Act.put _ (some 78) _ = _
                                        simp only [Act.put, List.setIfInBounds_toArray, List.set_cons_zero, List.set_cons_succ, i64_w, i32_w]
                                        rfl
                                      refine one_ (i := 11) (N := some 79) #[true, true, true, true, true, true, true, true, true, true, true, true, false, false] rfl rfl (one_of HT_.out (by kernel_rfl)) (by decide) (fun K hK => ?_)
                                      refine Kd.R_append_step k36 (w0 := w) w.heap.size (by rfl) (.tmp 69) (.tmp 78) 37 36 (.agg #[(.string ⟨#[]⟩), (.int .i64 0), (.int .i64 0), (.int .i64 0)]) 40 rfl Tryz.underlying37 info36 rfl (by decide) (by omega) u171005 x171005_3 (⟨(rd_T64 ((rd_T60 l0 x11_1).f4) x65_3).f0, (rd_T64 ((rd_T60 l0 x11_1).f4) x65_3).f1, (⟨(rd_T64 ((rd_T60 l0 x11_1).f4) x65_3).f2.f0, (rd_T64 ((rd_T60 l0 x11_1).f4) x65_3).f2.f1⟩ : S34)⟩ : S36) [.string ((rd_T64 ((rd_T60 l0 x11_1).f4) x65_3).f0), .int .i64 ((rd_T64 ((rd_T60 l0 x11_1).f4) x65_3).f1), .int .i64 ((rd_T64 ((rd_T60 l0 x11_1).f4) x65_3).f2.f0), .int .i64 ((rd_T64 ((rd_T60 l0 x11_1).f4) x65_3).f2.f1)] (fun _ => True) (fun _ => False) rfl rfl ?aP (fun _ hk => hk.elim) ?aF ?aO ?aB ?aS ?aL ?_
                                      (case aP => exact k36_mkM _ _ _ (⟨(rd_T64 ((rd_T60 l0 x11_1).f4) x65_3).f0, (rd_T64 ((rd_T60 l0 x11_1).f4) x65_3).f1, (⟨(rd_T64 ((rd_T60 l0 x11_1).f4) x65_3).f2.f0, (rd_T64 ((rd_T60 l0 x11_1).f4) x65_3).f2.f1⟩ : S34)⟩ : S36))
                                      (case aB => exact (by repeat (first | (with_reducible first | exact HB.out | apply below_alloc | apply pw_below_drewN | apply below_drew1 | refine below_set ?_ GE170.out) | exact HB.out)))
                                      (case aF => exact (fun _ _ => trivial))
                                      (case aO => exact (by (with_reducible repeat (first | apply Kd.R_alloc | apply Kd.R_drewN | apply Kd.R_drew)); exact HO_171005.out))
                                      (case aS => exact (below_size (by repeat (first | (with_reducible first | exact HB.out | apply below_alloc | apply pw_below_drewN | apply below_drew1 | refine below_set ?_ GE170.out) | exact HB.out))))
                                      (case aL => have := LMc37.out; omega)
                                      intro v181 w39 ho hb hg hat
                                      rw [← Ny180.out] at ho
                                      have n0_ := Aside0.mk (Kd.R_after (ok := (fun k_ => some k_ ≠ (u171004 : Value).ownBlock ∧ some k_ ≠ (.slice Ao11 t167.length co11 : Value).ownBlock ∧ k_ ≠ gb170)) (by (with_reducible repeat (first | apply Kd.R_alloc | apply Kd.R_drewN | apply Kd.R_drew)); exact Kd.R_mono HO_3.out (fun _ hk => ⟨⟨hk.1, ⟨hk.2.2.1, hk.2.2.2⟩⟩, hk.2.1⟩)) hg hat)
                                      have n1_ := Aside0.mk (Kd.R_over' (by (with_reducible repeat (first | apply Kd.R_alloc | apply Kd.R_drewN | apply Kd.R_drew)); exact HO_171004.out) (Kd.R_typed (by (with_reducible repeat (first | apply Kd.R_alloc | apply Kd.R_drewN | apply Kd.R_drew)); exact HO_171005.out)) (by decide) hg)
                                      have n2_ := Aside0.mk (Kd.R_after (ok := (fun k_ => some k_ ≠ (u3 : Value).ownBlock ∧ some k_ ≠ (u171004 : Value).ownBlock ∧ k_ ≠ gb170)) (by (with_reducible repeat (first | apply Kd.R_alloc | apply Kd.R_drewN | apply Kd.R_drew)); exact Kd.R_mono HO_171007.out (fun _ hk => ⟨⟨hk.1, ⟨hk.2.1, hk.2.2.2⟩⟩, hk.2.2.1⟩)) hg hat)
                                      have n3_ := Aside0.mk (blk_grown (g := gb170) (o := .cells #[.int .i64 ((rd_T60 l0 x11_1).f0), .string ((rd_T60 l0 x11_1).f1), .int .i64 ((rd_T60 l0 x11_1).f2.f0), .int .i64 ((rd_T60 l0 x11_1).f2.f1), u171004, u171005, .slice none 0 0, .slice Ao11 t167.length co11] 41 (0, 0)) (by (with_reducible repeat (first | refine blk_drewN ?_ _ | refine blk_drew ?_ | refine blk_alloc ?_ _)); exact BK170.out) hg (Kd.R_ne HO_171005.out BK170.out (by decide)))
                                      have n4_ := Aside0.mk (hb)
                                      have n5_ := Aside0.mk (ho)
                                      clear HO_3
                                      clear HO_171004
                                      clear HO_171007
                                      clear BK170
                                      clear HB
                                      clear HO_171005
                                      have HO_3 := n0_
                                      have HO_171004 := n1_
                                      have HO_171007 := n2_
                                      have BK170 := n3_
                                      have HB := n4_
                                      have HO182 := n5_
                                      clear n0_ n1_ n2_ n3_ n4_ n5_
                                      clear ho hb hg hat
                                      obtain ⟨Ao40, co40, eo40⟩ := Kd.R_slice HO182.out
                                      (first | subst eo40 | (injection eo40 with f1_ f2_ f3_; have f4_ := f1_.symm; have f5_ := f3_.symm; clear f1_ f2_ f3_; subst f4_; subst f5_))
                                      refine hK.out _ _ ⟨(blk_cell BK170.out 0).trans rfl, (blk_cell BK170.out 1).trans rfl, (blk_cell BK170.out 2).trans rfl, (blk_cell BK170.out 3).trans rfl, (blk_cell BK170.out 4).trans rfl, (blk_cell BK170.out 5).trans rfl, (blk_cell BK170.out 6).trans rfl, (blk_cell BK170.out 7).trans rfl, ((HB.out.cell (World.block_lt_of_cell? w _ hw178_0)).trans hw178_0), ((HB.out.cell (World.block_lt_of_cell? w _ hw178_1)).trans hw178_1), ((HB.out.cell (World.block_lt_of_cell? w _ hw178_2)).trans hw178_2), ((HB.out.cell (World.block_lt_of_cell? w _ hw178_3)).trans hw178_3), ((HB.out.cell (World.block_lt_of_cell? w _ hw178_4)).trans hw178_4), ((HB.out.cell (World.block_lt_of_cell? w _ hw178_5)).trans hw178_5), ((HB.out.cell (World.block_lt_of_cell? w _ hw178_6)).trans hw178_6), ((HB.out.cell (World.block_lt_of_cell? w _ hw178_7)).trans hw178_7), ((HB.out.cell (World.block_lt_of_cell? w _ hw179_0)).trans hw179_0), ((HB.out.cell (World.block_lt_of_cell? w _ hw179_1)).trans hw179_1), ((HB.out.cell (World.block_lt_of_cell? w _ hw179_2)).trans hw179_2), ((HB.out.cell (World.block_lt_of_cell? w _ hw179_3)).trans hw179_3)⟩ (fun hHeld => ?_)
                                      clear hK K
                                      refine norm_ (a' := ?_) ?_ ?_
                                      rotate_left
                                      · show Act.put _ (some 79) _ = _
                                        simp only [Act.put, List.setIfInBounds_toArray, List.set_cons_zero, List.set_cons_succ, i64_w, i32_w]
                                        rfl
                                      refine pure_ (i := 12) (N := some 80) (v := ?_) (a' := ?_) #[true, true, true, true, true, true, true, true, true, true, true, true, true, false] rfl rfl (any_of HT_.out (by kernel_rfl)) (fun _ _ _ h => h) (Or.inl ⟨by rfl, ?_⟩) ?_ ?_
                                      rotate_left
                                      · intro w'
                                        go_simp
                                        with_reducible rfl
                                      rotate_left
                                      · simp only [Act.put, List.setIfInBounds_toArray, List.set_cons_zero, List.set_cons_succ, i64_w, i32_w]
                                        rfl
                                      refine last_ (i := 13) (N := none) #[true, true, true, true, true, true, true, true, true, true, true, true, true, true] rfl rfl (one_of HT_.out (by kernel_rfl)) (by decide) (fun K hK => ?_)
                                      have hs41 : w39.cell? ⟨gb170, 5, none⟩ = some (u171005) := (blk_cell BK170.out 5).trans rfl
                                      have hfs41 := blk_frozen BK170.out 5
                                      refine skip_ (w1 := ?_) (by rfl) rfl ?_ ?_
                                      rotate_left
                                      · go_simp
                                        rfl
                                      refine hK.out _ _ ?_
                                      clear hK K
                                      refine done_ (done_of HT_.out (by kernel_rfl)) ?_
                                      try go_wp2
                                      go_roundg k3
                                      case measure => have := HK1.out; have := HK2.out; have := HK3.out; omega
                                      case rel => exact ⟨(wrap64 (x65_3 + 1)), (y180), (.slice Ao40 y180.length co40), (by first | rfl | (simp; done) | (simp [*]; done)), H', ⟨by have := HK1.out; have := HK2.out; have := HK3.out; omega⟩, ⟨by (with_reducible repeat (first | apply Kd.R_alloc | apply Kd.R_drewN | apply Kd.R_drew)); exact Kd.R_mono (Kd.R_far (p := ⟨gb170, 5, none⟩) (Kd.R_mono HO_3.out (fun k_ hk => (⟨hk, hk.1.2.2⟩ : _ ∧ k_ ≠ gb170))) (fun _ hk => hk.2) (.slice Ao40 y180.length co40)) (fun _ hk => ⟨hk.1.1.1, ⟨hk.1.2, ⟨hk.1.1.2.1, hk.1.1.2.2⟩⟩⟩)⟩, ⟨by (with_reducible repeat (first | apply Kd.R_alloc | apply Kd.R_drewN | apply Kd.R_drew)); exact Kd.R_mono (Kd.R_far (p := ⟨gb170, 5, none⟩) (Kd.R_types HO_171004.out BK170.out (by decide)) (fun _ hk => hk.2) (.slice Ao40 y180.length co40)) (fun _ hk => trivial)⟩, ⟨by (with_reducible repeat (first | apply Kd.R_alloc | apply Kd.R_drewN | apply Kd.R_drew)); exact Kd.R_mono (Kd.R_far (p := ⟨gb170, 5, none⟩) (Kd.R_types HO182.out BK170.out (by decide)) (fun _ hk => hk.2) (.slice Ao40 y180.length co40)) (fun _ hk => trivial)⟩, ⟨by (with_reducible repeat (first | apply Kd.R_alloc | apply Kd.R_drewN | apply Kd.R_drew)); exact Kd.R_mono (Kd.R_far (p := ⟨gb170, 5, none⟩) (Kd.R_mono HO_171007.out (fun k_ hk => (⟨hk, hk.1.2.2⟩ : _ ∧ k_ ≠ gb170))) (fun _ hk => hk.2) (.slice Ao40 y180.length co40)) (fun _ hk => ⟨hk.1.1.1, ⟨hk.1.1.2.1, ⟨hk.1.2, hk.1.1.2.2⟩⟩⟩)⟩, ⟨by (with_reducible repeat (first | refine blk_drewN ?_ _ | refine blk_drew ?_ | refine blk_alloc ?_ _)); refine blk_put (cs := #[.int .i64 ((rd_T60 l0 x11_1).f0), .string ((rd_T60 l0 x11_1).f1), .int .i64 ((rd_T60 l0 x11_1).f2.f0), .int .i64 ((rd_T60 l0 x11_1).f2.f1), u171004, u171005, .slice none 0 0, .slice Ao11 t167.length co11]) ?_ 5 _ rfl; (with_reducible repeat (first | refine blk_drewN ?_ _ | refine blk_drew ?_ | refine blk_alloc ?_ _)); exact BK170.out⟩, ⟨by repeat (first | (with_reducible first | exact HB.out | apply below_alloc | apply pw_below_drewN | apply below_drew1 | refine below_set ?_ GE170.out) | exact HB.out)⟩⟩
                                    · rw [if_neg c37] at H
                                      exact absurd H (by simp)
                                  · rw [if_neg c36] at H
                                    exact absurd H (by simp)
                                · rw [if_neg c35] at H
                                  exact absurd H (by simp)
                              · rw [if_neg c34] at H
                                exact absurd H (by simp)
                            · rw [if_neg c33] at H
                              exact absurd H (by simp)
                          · rw [if_neg c32] at H
                            have c32b0 : decide (x65_3 < (((rd_T60 l0 x11_1).f4).length : Int)) = false := decide_eq_false c32
                            clear c32
                            by_cases c42 : 0 ≤ x11_1
                            · rw [if_pos c42] at H
                              have c42b0 : decide (0 ≤ x11_1) = true := decide_eq_true c42
                              clear c42
                              by_cases c43 : x11_1 < (l0.length : Int)
                              · rw [if_pos c43] at H
                                have c43b0 : decide (x11_1 < (l0.length : Int)) = true := decide_eq_true c43
                                clear c43
                                have H' := Aside0.mk H
                                clear H
                                have p183 : 0 ≤ (x11_1 : Int) := of_decide_eq_true (by first | (with_reducible assumption) | assumption)
                                have q183 : x11_1 < (l0.length : Int) := of_decide_eq_true (by first | (with_reducible assumption) | assumption)
                                obtain ⟨ad183, A183_4, c183_4, A183_5, c183_5, A183_6, c183_6, A183_7, c183_7, e183, hx183_0, hx183_1, hx183_2, hx183_3, hx183_4, hx183_5, hx183_6, hx183_7, hl183_4, hi183_4, hl183_5, hi183_5, hl183_6, hi183_6, hl183_7, hi183_7⟩ := at_T60 HR0.out x11_1 p183 q183
                                obtain rfl : ad163 = ad183 := (by injection e183)
                                replace hx183_0 := (HB.out.cell (World.block_lt_of_cell? w _ hx183_0)).trans hx183_0
                                replace hx183_1 := (HB.out.cell (World.block_lt_of_cell? w _ hx183_1)).trans hx183_1
                                replace hx183_2 := (HB.out.cell (World.block_lt_of_cell? w _ hx183_2)).trans hx183_2
                                replace hx183_3 := (HB.out.cell (World.block_lt_of_cell? w _ hx183_3)).trans hx183_3
                                replace hx183_4 := (HB.out.cell (World.block_lt_of_cell? w _ hx183_4)).trans hx183_4
                                replace hx183_5 := (HB.out.cell (World.block_lt_of_cell? w _ hx183_5)).trans hx183_5
                                replace hx183_6 := (HB.out.cell (World.block_lt_of_cell? w _ hx183_6)).trans hx183_6
                                replace hx183_7 := (HB.out.cell (World.block_lt_of_cell? w _ hx183_7)).trans hx183_7
                                have HR183_4 := Aside0.mk hi183_4
                                have HC183_4 := Aside0.mk hl183_4
                                clear hi183_4 hl183_4
                                have HR183_5 := Aside0.mk hi183_5
                                have HC183_5 := Aside0.mk hl183_5
                                clear hi183_5 hl183_5
                                have HR183_6 := Aside0.mk hi183_6
                                have HC183_6 := Aside0.mk hl183_6
                                clear hi183_6 hl183_6
                                have HR183_7 := Aside0.mk hi183_7
                                have HC183_7 := Aside0.mk hl183_7
                                clear hi183_7 hl183_7
                                replace p183 := eq_true p183
                                replace q183 := eq_true q183
                                go_wp2
                                go_loopg [88] k3 (fun kq v88 w' => ∃ (x88_4 : Int) (x171006_4 : List (S66)) (u171006 : Value), v88 = .int .i64 x88_4 ∧ Aside0 (courierlaw05_Theirs.l3 kq l0 x3_1 x11_1 (l0.length : Int) x11_1 (((rd_T60 l0 x11_1).f5).length : Int) x88_4 ((rd_T60 l0 x11_1).f0) ((rd_T60 l0 x11_1).f1) ((rd_T60 l0 x11_1).f2.f0) ((rd_T60 l0 x11_1).f2.f1) x171004_2 x171005_3 x171006_4 t167 = some r) ∧ Aside0 (kq ≤ k3) ∧ Aside0 (Kd.R k41 41 w' w.heap.size (fun k_ => some k_ ≠ (u171004 : Value).ownBlock ∧ some k_ ≠ (u171005 : Value).ownBlock ∧ some k_ ≠ (u171006 : Value).ownBlock ∧ some k_ ≠ ((.slice Ao11 t167.length co11) : Value).ownBlock ∧ k_ ≠ gb170) u3 x3_1) ∧ Aside0 (Kd.R k62 62 w' w.heap.size (fun _ => True) u171004 x171004_2) ∧ Aside0 (Kd.R k36 36 w' w.heap.size (fun _ => True) u171005 x171005_3) ∧ Aside0 (Kd.R k66 66 w' w.heap.size (fun _ => True) u171006 x171006_4) ∧ Aside0 (Kd.R k41 41 w' w.heap.size (fun k_ => some k_ ≠ (u3 : Value).ownBlock ∧ some k_ ≠ (u171004 : Value).ownBlock ∧ some k_ ≠ (u171005 : Value).ownBlock ∧ some k_ ≠ (u171006 : Value).ownBlock ∧ k_ ≠ gb170) (.slice Ao11 t167.length co11) t167) ∧ Aside0 (w'.heap[gb170]? = some (.cells #[.int .i64 ((rd_T60 l0 x11_1).f0), .string ((rd_T60 l0 x11_1).f1), .int .i64 ((rd_T60 l0 x11_1).f2.f0), .int .i64 ((rd_T60 l0 x11_1).f2.f1), u171004, u171005, u171006, (.slice Ao11 t167.length co11)] 41 (0, 0))) ∧ Aside0 (Below w.heap.size w w'))
                                case atStart => exact ⟨(0), (([] : List (S66))), (.slice none 0 0), (by first | rfl | (simp; done) | (simp [*]; done)), H', ⟨Nat.le_refl _⟩, ⟨by (with_reducible repeat (first | apply Kd.R_alloc | apply Kd.R_drewN | apply Kd.R_drew)); exact Kd.R_mono HO_3.out (fun _ hk => ⟨hk.1, ⟨hk.2.1, ⟨(by simp [Value.ownBlock]), ⟨hk.2.2.1, hk.2.2.2⟩⟩⟩⟩)⟩, ⟨by (with_reducible repeat (first | apply Kd.R_alloc | apply Kd.R_drewN | apply Kd.R_drew)); exact HO_171004.out⟩, ⟨by (with_reducible repeat (first | apply Kd.R_alloc | apply Kd.R_drewN | apply Kd.R_drew)); exact HO_171005.out⟩, ⟨by first | exact Kd.R_nil _ _ _ _ _ | exact Kd.N_nil _ _ _ _ _ | exact Kd.V_nil _ _ _ _ _ | exact Kd.Q_nil _ _ _ _ _ | exact Kd.S_nil _ _ _ _ _⟩, ⟨by (with_reducible repeat (first | apply Kd.R_alloc | apply Kd.R_drewN | apply Kd.R_drew)); exact Kd.R_mono HO_171007.out (fun _ hk => ⟨hk.1, ⟨hk.2.1, ⟨hk.2.2.1, ⟨(by simp [Value.ownBlock]), hk.2.2.2⟩⟩⟩⟩)⟩, ⟨by (with_reducible repeat (first | refine blk_drewN ?_ _ | refine blk_drew ?_ | refine blk_alloc ?_ _)); exact BK170.out⟩, ⟨by repeat (first | (with_reducible first | exact HB.out | apply below_alloc | apply pw_below_drewN | apply below_drew1 | refine below_set ?_ GE170.out) | exact HB.out)⟩⟩
                                case round =>
                                  clear H'
                                  try clear c1
                                  try clear p1
                                  try clear q1
                                  try clear hx1
                                  try clear c2
                                  try clear p2
                                  try clear c3
                                  try clear c4
                                  try clear p6
                                  try clear c8
                                  try clear c16
                                  try clear p16
                                  try clear q16
                                  try clear hx16
                                  try clear c17
                                  try clear p17
                                  try clear q17
                                  try clear hx17
                                  try clear c18
                                  try clear p18
                                  try clear q18
                                  try clear hx18
                                  try clear c20
                                  try clear c20b0
                                  try clear c21
                                  try clear c21b0
                                  try clear c22
                                  try clear c22b0
                                  try clear c23
                                  try clear c23b0
                                  try clear c24
                                  try clear c24b0
                                  try clear c25
                                  try clear c30
                                  try clear c30b0
                                  try clear c31
                                  try clear c31b0
                                  try clear c32
                                  try clear c32b0
                                  try clear c33
                                  try clear c33b0
                                  try clear c34
                                  try clear c34b0
                                  try clear c35
                                  try clear c35b0
                                  try clear c36
                                  try clear c36b0
                                  try clear c37
                                  try clear c42
                                  try clear c42b0
                                  try clear c43
                                  try clear c43b0
                                  try clear hx163_0
                                  try clear hx163_1
                                  try clear hx163_2
                                  try clear hx163_3
                                  try clear hx163_4
                                  try clear hx163_5
                                  try clear hx163_6
                                  try clear hx163_7
                                  try clear hx164_0
                                  try clear hx164_1
                                  try clear hx164_2
                                  try clear hx164_3
                                  try clear hx164_4
                                  try clear hx164_5
                                  try clear hx164_6
                                  try clear hx164_7
                                  try clear hx165_0
                                  try clear hx165_1
                                  try clear hx165_2
                                  try clear hx165_3
                                  try clear hx165_4
                                  try clear hx165_5
                                  try clear hx165_6
                                  try clear hx165_7
                                  try clear hx166_0
                                  try clear hx166_1
                                  try clear hx166_2
                                  try clear hx166_3
                                  try clear hx166_4
                                  try clear hx166_5
                                  try clear hx166_6
                                  try clear hx166_7
                                  try clear hx171_0
                                  try clear hx171_1
                                  try clear hx171_2
                                  try clear hx171_3
                                  try clear hx171_4
                                  try clear hx171_5
                                  try clear hx171_6
                                  try clear hx171_7
                                  try clear hx172_0
                                  try clear hx172_1
                                  try clear hx172_2
                                  try clear hx172_3
                                  try clear hx172_4
                                  try clear hx172_5
                                  try clear hx172_6
                                  try clear hx172_7
                                  try clear hx173_0
                                  try clear hx173_1
                                  try clear hx173_2
                                  try clear hx173_3
                                  try clear hx173_4
                                  try clear hx173_5
                                  try clear hx177_0
                                  try clear hx177_1
                                  try clear hx177_2
                                  try clear hx177_3
                                  try clear hx177_4
                                  try clear hx177_5
                                  try clear hx177_6
                                  try clear hx177_7
                                  try clear hx178_0
                                  try clear hx178_1
                                  try clear hx178_2
                                  try clear hx178_3
                                  try clear hx178_4
                                  try clear hx178_5
                                  try clear hx178_6
                                  try clear hx178_7
                                  try clear hx179_0
                                  try clear hx179_1
                                  try clear hx179_2
                                  try clear hx179_3
                                  try clear hx183_0
                                  try clear hx183_1
                                  try clear hx183_2
                                  try clear hx183_3
                                  try clear hx183_4
                                  try clear hx183_5
                                  try clear hx183_6
                                  try clear hx183_7
                                  try clear p1
                                  try clear p16
                                  try clear p164
                                  try clear p165
                                  try clear p166
                                  try clear p17
                                  try clear p171
                                  try clear p172
                                  try clear p173
                                  try clear p177
                                  try clear p178
                                  try clear p179
                                  try clear p183
                                  try clear p2
                                  try clear p6
                                  try clear q1
                                  try clear q16
                                  try clear q164
                                  try clear q165
                                  try clear q166
                                  try clear q17
                                  try clear q171
                                  try clear q172
                                  try clear q173
                                  try clear q177
                                  try clear q178
                                  try clear q179
                                  try clear q183
                                  obtain ⟨x88_4, x171006_4, u171006, rfl, HA, HK4, HO_3, HO_171004, HO_171005, HO_171006, HO_171007, BK170, HB⟩ := hrel
                                  cases gk with
                                  | zero => exact absurd HA.out (by simp [courierlaw05_Theirs.l3])
                                  | succ k4 =>
                                    have H := HA.out
                                    clear HA
                                    simp only [courierlaw05_Theirs.l3] at H
                                    by_cases c44 : x88_4 < (((rd_T60 l0 x11_1).f5).length : Int)
                                    · rw [if_pos c44] at H
                                      have c44b0 : decide (x88_4 < (((rd_T60 l0 x11_1).f5).length : Int)) = true := decide_eq_true c44
                                      clear c44
                                      by_cases c45 : 0 ≤ x11_1
                                      · rw [if_pos c45] at H
                                        have c45b0 : decide (0 ≤ x11_1) = true := decide_eq_true c45
                                        clear c45
                                        by_cases c46 : x11_1 < (l0.length : Int)
                                        · rw [if_pos c46] at H
                                          have c46b0 : decide (x11_1 < (l0.length : Int)) = true := decide_eq_true c46
                                          clear c46
                                          by_cases c47 : 0 ≤ x88_4
                                          · rw [if_pos c47] at H
                                            have c47b0 : decide (0 ≤ x88_4) = true := decide_eq_true c47
                                            clear c47
                                            by_cases c48 : x88_4 < (((rd_T60 l0 x11_1).f5).length : Int)
                                            · rw [if_pos c48] at H
                                              have c48b0 : decide (x88_4 < (((rd_T60 l0 x11_1).f5).length : Int)) = true := decide_eq_true c48
                                              clear c48
                                              by_cases c49 : x171006_4.length < 2199023255552
                                              · rw [if_pos c49] at H
                                                have LMc49 := Aside0.mk c49
                                                clear c49
                                                obtain ⟨y186, hy186⟩ : ∃ y_ : List (S66), y_ = (x171006_4 ++ [(⟨(rd_T67 ((rd_T60 l0 x11_1).f5) x88_4).f0, (rd_T67 ((rd_T60 l0 x11_1).f5) x88_4).f1, (rd_T67 ((rd_T60 l0 x11_1).f5) x88_4).f2, (⟨(rd_T67 ((rd_T60 l0 x11_1).f5) x88_4).f3.f0, (rd_T67 ((rd_T60 l0 x11_1).f5) x88_4).f3.f1⟩ : S34)⟩ : S66)]) := ⟨_, rfl⟩
                                                replace H : (courierlaw05_Theirs.l3 k4 l0 x3_1 x11_1 (l0.length : Int) x11_1 (((rd_T60 l0 x11_1).f5).length : Int) (wrap64 (x88_4 + 1)) ((rd_T60 l0 x11_1).f0) ((rd_T60 l0 x11_1).f1) ((rd_T60 l0 x11_1).f2.f0) ((rd_T60 l0 x11_1).f2.f1) x171004_2 x171005_3 y186 t167) = some r := by first | (rw [hy186]; with_reducible exact H) | (have H2_ := (Option.bind_some _ _).symm.trans H; rw [hy186]; with_reducible exact H2_) | (have H2_ := (Option.bind_some _ _).symm.trans H; with_reducible exact H2_) | with_reducible exact H | (rw [hy186]; exact H) | exact H
                                                have Ny186 := Aside0.mk hy186
                                                clear hy186
                                                have H' := Aside0.mk H
                                                clear H
                                                try go_wp2
                                                have n0_ := Aside0.mk (Kd.R_drew HO_3.out)
                                                have n1_ := Aside0.mk (Kd.R_drew HO_171004.out)
                                                have n2_ := Aside0.mk (Kd.R_drew HO_171005.out)
                                                have n3_ := Aside0.mk (Kd.R_drew HO_171006.out)
                                                have n4_ := Aside0.mk (Kd.R_drew HO_171007.out)
                                                have n5_ := Aside0.mk (blk_drew BK170.out)
                                                have n6_ := Aside0.mk (below_drew1 HB.out)
                                                clear HO_3
                                                clear HO_171004
                                                clear HO_171005
                                                clear HO_171006
                                                clear HO_171007
                                                clear BK170
                                                clear HB
                                                have HO_3 := n0_
                                                have HO_171004 := n1_
                                                have HO_171005 := n2_
                                                have HO_171006 := n3_
                                                have HO_171007 := n4_
                                                have BK170 := n5_
                                                have HB := n6_
                                                clear n0_ n1_ n2_ n3_ n4_ n5_ n6_
                                                have p184 : 0 ≤ (x11_1 : Int) := of_decide_eq_true (by first | (with_reducible assumption) | assumption)
                                                have q184 : x11_1 < (l0.length : Int) := of_decide_eq_true (by first | (with_reducible assumption) | assumption)
                                                obtain ⟨ad184, A184_4, c184_4, A184_5, c184_5, A184_6, c184_6, A184_7, c184_7, e184, hx184_0, hx184_1, hx184_2, hx184_3, hx184_4, hx184_5, hx184_6, hx184_7, hl184_4, hi184_4, hl184_5, hi184_5, hl184_6, hi184_6, hl184_7, hi184_7⟩ := at_T60 HR0.out x11_1 p184 q184
                                                have hw184_7 := hx184_7
                                                have hw184_6 := hx184_6
                                                have hw184_5 := hx184_5
                                                have hw184_4 := hx184_4
                                                have hw184_3 := hx184_3
                                                have hw184_2 := hx184_2
                                                have hw184_1 := hx184_1
                                                have hw184_0 := hx184_0
                                                obtain rfl : ad163 = ad184 := (by injection e184)
                                                replace hx184_0 := (HB.out.cell (World.block_lt_of_cell? w _ hx184_0)).trans hx184_0
                                                replace hx184_1 := (HB.out.cell (World.block_lt_of_cell? w _ hx184_1)).trans hx184_1
                                                replace hx184_2 := (HB.out.cell (World.block_lt_of_cell? w _ hx184_2)).trans hx184_2
                                                replace hx184_3 := (HB.out.cell (World.block_lt_of_cell? w _ hx184_3)).trans hx184_3
                                                replace hx184_4 := (HB.out.cell (World.block_lt_of_cell? w _ hx184_4)).trans hx184_4
                                                replace hx184_5 := (HB.out.cell (World.block_lt_of_cell? w _ hx184_5)).trans hx184_5
                                                replace hx184_6 := (HB.out.cell (World.block_lt_of_cell? w _ hx184_6)).trans hx184_6
                                                replace hx184_7 := (HB.out.cell (World.block_lt_of_cell? w _ hx184_7)).trans hx184_7
                                                have HR184_4 := Aside0.mk hi184_4
                                                have HC184_4 := Aside0.mk hl184_4
                                                clear hi184_4 hl184_4
                                                have HR184_5 := Aside0.mk hi184_5
                                                have HC184_5 := Aside0.mk hl184_5
                                                clear hi184_5 hl184_5
                                                have HR184_6 := Aside0.mk hi184_6
                                                have HC184_6 := Aside0.mk hl184_6
                                                clear hi184_6 hl184_6
                                                have HR184_7 := Aside0.mk hi184_7
                                                have HC184_7 := Aside0.mk hl184_7
                                                clear hi184_7 hl184_7
                                                replace p184 := eq_true p184
                                                replace q184 := eq_true q184
                                                have p185 : 0 ≤ (x88_4 : Int) := of_decide_eq_true (by first | (with_reducible assumption) | assumption)
                                                have q185 : x88_4 < (((rd_T60 l0 x11_1).f5).length : Int) := of_decide_eq_true (by first | (with_reducible assumption) | assumption)
                                                obtain ⟨ad185, e185, hx185_0, hx185_1, hx185_2, hx185_3, hx185_4⟩ := at_T67 HR184_6.out x88_4 p185 q185
                                                have hw185_4 := hx185_4
                                                have hw185_3 := hx185_3
                                                have hw185_2 := hx185_2
                                                have hw185_1 := hx185_1
                                                have hw185_0 := hx185_0
                                                cases e185
                                                replace hx185_0 := (HB.out.cell (World.block_lt_of_cell? w _ hx185_0)).trans hx185_0
                                                replace hx185_1 := (HB.out.cell (World.block_lt_of_cell? w _ hx185_1)).trans hx185_1
                                                replace hx185_2 := (HB.out.cell (World.block_lt_of_cell? w _ hx185_2)).trans hx185_2
                                                replace hx185_3 := (HB.out.cell (World.block_lt_of_cell? w _ hx185_3)).trans hx185_3
                                                replace hx185_4 := (HB.out.cell (World.block_lt_of_cell? w _ hx185_4)).trans hx185_4
                                                replace p185 := eq_true p185
                                                replace q185 := eq_true q185
                                                refine start_ (n := 14) (S := fun w' => w'.cell? ⟨gb170, 0, none⟩ = some (.int .i64 ((rd_T60 l0 x11_1).f0)) ∧ w'.cell? ⟨gb170, 1, none⟩ = some (.string ((rd_T60 l0 x11_1).f1)) ∧ w'.cell? ⟨gb170, 2, none⟩ = some (.int .i64 ((rd_T60 l0 x11_1).f2.f0)) ∧ w'.cell? ⟨gb170, 3, none⟩ = some (.int .i64 ((rd_T60 l0 x11_1).f2.f1)) ∧ w'.cell? ⟨gb170, 4, none⟩ = some (u171004) ∧ w'.cell? ⟨gb170, 5, none⟩ = some (u171005) ∧ w'.cell? ⟨gb170, 6, none⟩ = some (u171006) ∧ w'.cell? ⟨gb170, 7, none⟩ = some (.slice Ao11 t167.length co11) ∧ w'.cell? (ad163.add ((x11_1).toNat * 8)) = some (.int .i64 ((rd_T60 l0 x11_1).f0)) ∧ w'.cell? ⟨(ad163.add ((x11_1).toNat * 8)).block, (ad163.add ((x11_1).toNat * 8)).off + 1, none⟩ = some (.string ((rd_T60 l0 x11_1).f1)) ∧ w'.cell? ⟨(ad163.add ((x11_1).toNat * 8)).block, (ad163.add ((x11_1).toNat * 8)).off + 2, none⟩ = some (.int .i64 ((rd_T60 l0 x11_1).f2.f0)) ∧ w'.cell? ⟨(ad163.add ((x11_1).toNat * 8)).block, (ad163.add ((x11_1).toNat * 8)).off + 3, none⟩ = some (.int .i64 ((rd_T60 l0 x11_1).f2.f1)) ∧ w'.cell? ⟨(ad163.add ((x11_1).toNat * 8)).block, (ad163.add ((x11_1).toNat * 8)).off + 4, none⟩ = some (.slice A184_4 ((rd_T60 l0 x11_1).f3).length c184_4) ∧ w'.cell? ⟨(ad163.add ((x11_1).toNat * 8)).block, (ad163.add ((x11_1).toNat * 8)).off + 5, none⟩ = some (.slice A184_5 ((rd_T60 l0 x11_1).f4).length c184_5) ∧ w'.cell? ⟨(ad163.add ((x11_1).toNat * 8)).block, (ad163.add ((x11_1).toNat * 8)).off + 6, none⟩ = some (.slice (some ad185) ((rd_T60 l0 x11_1).f5).length c184_6) ∧ w'.cell? ⟨(ad163.add ((x11_1).toNat * 8)).block, (ad163.add ((x11_1).toNat * 8)).off + 7, none⟩ = some (.slice A184_7 ((rd_T60 l0 x11_1).f6).length c184_7) ∧ w'.cell? (ad185.add ((x88_4).toNat * 5)) = some (.string ((rd_T67 ((rd_T60 l0 x11_1).f5) x88_4).f0)) ∧ w'.cell? ⟨(ad185.add ((x88_4).toNat * 5)).block, (ad185.add ((x88_4).toNat * 5)).off + 1, none⟩ = some (.string ((rd_T67 ((rd_T60 l0 x11_1).f5) x88_4).f1)) ∧ w'.cell? ⟨(ad185.add ((x88_4).toNat * 5)).block, (ad185.add ((x88_4).toNat * 5)).off + 2, none⟩ = some (.string ((rd_T67 ((rd_T60 l0 x11_1).f5) x88_4).f2)) ∧ w'.cell? ⟨(ad185.add ((x88_4).toNat * 5)).block, (ad185.add ((x88_4).toNat * 5)).off + 3, none⟩ = some (.int .i64 ((rd_T67 ((rd_T60 l0 x11_1).f5) x88_4).f3.f0)) ∧ w'.cell? ⟨(ad185.add ((x88_4).toNat * 5)).block, (ad185.add ((x88_4).toNat * 5)).off + 4, none⟩ = some (.int .i64 ((rd_T67 ((rd_T60 l0 x11_1).f5) x88_4).f3.f1))) (ds := [13]) #[false, false, false, false, false, false, false, false, false, false, false, false, false, false] (by kernel_rfl) rfl rfl ⟨(blk_cell BK170.out 0).trans rfl, (blk_cell BK170.out 1).trans rfl, (blk_cell BK170.out 2).trans rfl, (blk_cell BK170.out 3).trans rfl, (blk_cell BK170.out 4).trans rfl, (blk_cell BK170.out 5).trans rfl, (blk_cell BK170.out 6).trans rfl, (blk_cell BK170.out 7).trans rfl, ((HB.out.cell (World.block_lt_of_cell? w _ hw184_0)).trans hw184_0), ((HB.out.cell (World.block_lt_of_cell? w _ hw184_1)).trans hw184_1), ((HB.out.cell (World.block_lt_of_cell? w _ hw184_2)).trans hw184_2), ((HB.out.cell (World.block_lt_of_cell? w _ hw184_3)).trans hw184_3), ((HB.out.cell (World.block_lt_of_cell? w _ hw184_4)).trans hw184_4), ((HB.out.cell (World.block_lt_of_cell? w _ hw184_5)).trans hw184_5), ((HB.out.cell (World.block_lt_of_cell? w _ hw184_6)).trans hw184_6), ((HB.out.cell (World.block_lt_of_cell? w _ hw184_7)).trans hw184_7), ((HB.out.cell (World.block_lt_of_cell? w _ hw185_0)).trans hw185_0), ((HB.out.cell (World.block_lt_of_cell? w _ hw185_1)).trans hw185_1), ((HB.out.cell (World.block_lt_of_cell? w _ hw185_2)).trans hw185_2), ((HB.out.cell (World.block_lt_of_cell? w _ hw185_3)).trans hw185_3), ((HB.out.cell (World.block_lt_of_cell? w _ hw185_4)).trans hw185_4)⟩ (fun hHeld => ?_); refine with_tabW courierlaw05_Theirs.tab19 courierlaw05_Theirs.bits19 (fun HT_ HW_ => ?_)
                                                generalize wr.drew = w50 at HO_3 HO_171004 HO_171005 HO_171006 HO_171007 BK170 HB HR184_4 HR184_5 HR184_6 HR184_7 hx184_0 hx184_1 hx184_2 hx184_3 hx184_4 hx184_5 hx184_6 hx184_7 hx185_0 hx185_1 hx185_2 hx185_3 hx185_4 hHeld ⊢
                                                refine pure_ (i := 0) (N := some 91) (v := ?_) (a' := ?_) #[true, false, false, false, false, false, false, false, false, false, false, false, false, false] rfl rfl (any_of HT_.out (by kernel_rfl)) (fun _ _ _ h => h) (Or.inl ⟨by rfl, ?_⟩) ?_ ?_
                                                rotate_left
                                                · intro w'
                                                  go_simp
                                                  with_reducible rfl
                                                rotate_left
                                                · simp only [Act.put, List.setIfInBounds_toArray, List.set_cons_zero, List.set_cons_succ, i64_w, i32_w]
                                                  rfl
                                                refine pure_ (i := 2) (N := some 93) (v := ?_) (a' := ?_) #[true, false, true, false, false, false, false, false, false, false, false, false, false, false] rfl rfl (any_of HT_.out (by kernel_rfl)) (fun _ _ _ h => h) (Or.inl ⟨by rfl, ?_⟩) ?_ ?_
                                                rotate_left
                                                · intro w'
                                                  go_simp
                                                  with_reducible rfl
                                                rotate_left
                                                · simp only [Act.put, List.setIfInBounds_toArray, List.set_cons_zero, List.set_cons_succ, i64_w, i32_w]
                                                  rfl
                                                refine pure_ (i := 3) (N := some 94) (v := ?_) (a' := ?_) #[true, false, true, true, false, false, false, false, false, false, false, false, false, false] rfl rfl (any_of HT_.out (by kernel_rfl)) (fun _ _ _ h => h) (Or.inl ⟨by rfl, ?_⟩) ?_ ?_
                                                rotate_left
                                                · intro w'
                                                  go_simp
                                                  with_reducible rfl
                                                rotate_left
                                                · simp only [Act.put, List.setIfInBounds_toArray, List.set_cons_zero, List.set_cons_succ, i64_w, i32_w]
                                                  rfl
                                                refine pure_ (i := 4) (N := some 95) (v := ?_) (a' := ?_) #[true, false, true, true, true, false, false, false, false, false, false, false, false, false] rfl rfl (any_of HT_.out (by kernel_rfl)) (fun _ _ _ h => h) (Or.inl ⟨by rfl, ?_⟩) ?_ ?_
                                                rotate_left
                                                · intro w'
                                                  go_simp
                                                  with_reducible rfl
                                                rotate_left
                                                · simp only [Act.put, List.setIfInBounds_toArray, List.set_cons_zero, List.set_cons_succ, i64_w, i32_w]
                                                  rfl
                                                refine pure_ (i := 5) (N := some 96) (v := ?_) (a' := ?_) #[true, false, true, true, true, true, false, false, false, false, false, false, false, false] rfl rfl (any_of HT_.out (by kernel_rfl)) (fun _ _ _ h => h) (Or.inl ⟨by rfl, ?_⟩) ?_ ?_
                                                rotate_left
                                                · intro w'
                                                  go_simp
                                                  with_reducible rfl
                                                rotate_left
                                                · simp only [Act.put, List.setIfInBounds_toArray, List.set_cons_zero, List.set_cons_succ, i64_w, i32_w]
                                                  rfl
                                                refine pure_ (i := 7) (N := some 98) (v := ?_) (a' := ?_) #[true, false, true, true, true, true, false, true, false, false, false, false, false, false] rfl rfl (any_of HT_.out (by kernel_rfl)) (fun _ _ _ h => h) (Or.inl ⟨by rfl, ?_⟩) ?_ ?_
                                                rotate_left
                                                · intro w'
                                                  go_simp
                                                  with_reducible rfl
                                                rotate_left
                                                · simp only [Act.put, List.setIfInBounds_toArray, List.set_cons_zero, List.set_cons_succ, i64_w, i32_w]
                                                  rfl
                                                refine take_ (i := 1) (N := some 92) (v := ?_) (a' := ?_) #[true, true, true, true, true, true, false, true, false, false, false, false, false, false] rfl rfl (take_ofW HT_.out HW_.out (by kernel_rfl)) (fun _ _ _ h => h) (Or.inl ⟨by rfl, ?_⟩) hHeld ?_ ?_
                                                rotate_left
                                                · rintro w' ⟨s0, s1, s2, s3, s4, s5, s6, s7, s8, s9, s10, s11, s12, s13, s14, s15, s16, s17, s18, s19, s20⟩
                                                  go_simp
                                                  with_reducible rfl
                                                rotate_left
                                                · simp only [Act.put, List.setIfInBounds_toArray, List.set_cons_zero, List.set_cons_succ, i64_w, i32_w]
                                                  rfl
                                                refine take_ (i := 6) (N := some 97) (v := ?_) (a' := ?_) #[true, true, true, true, true, true, true, true, false, false, false, false, false, false] rfl rfl (take_ofW HT_.out HW_.out (by kernel_rfl)) (fun _ _ _ h => h) (Or.inl ⟨by rfl, ?_⟩) hHeld ?_ ?_
                                                rotate_left
                                                · rintro w' ⟨s0, s1, s2, s3, s4, s5, s6, s7, s8, s9, s10, s11, s12, s13, s14, s15, s16, s17, s18, s19, s20⟩
                                                  go_simp
                                                  with_reducible rfl
                                                rotate_left
                                                · simp only [Act.put, List.setIfInBounds_toArray, List.set_cons_zero, List.set_cons_succ, i64_w, i32_w]
                                                  rfl
                                                refine pure_ (i := 8) (N := some 99) (v := ?_) (a' := ?_) #[true, true, true, true, true, true, true, true, true, false, false, false, false, false] rfl rfl (any_of HT_.out (by kernel_rfl)) (fun _ _ _ h => h) (Or.inl ⟨by rfl, ?_⟩) ?_ ?_
                                                rotate_left
                                                · intro w'
                                                  go_simp
                                                  with_reducible rfl
                                                rotate_left
                                                · simp only [Act.put, List.setIfInBounds_toArray, List.set_cons_zero, List.set_cons_succ, i64_w, i32_w]
                                                  rfl
                                                refine take_ (i := 9) (N := some 100) (v := ?_) (a' := ?_) #[true, true, true, true, true, true, true, true, true, true, false, false, false, false] rfl rfl (take_ofW HT_.out HW_.out (by kernel_rfl)) (fun _ _ _ h => h) (Or.inl ⟨by rfl, ?_⟩) hHeld ?_ ?_
                                                rotate_left
                                                · rintro w' ⟨s0, s1, s2, s3, s4, s5, s6, s7, s8, s9, s10, s11, s12, s13, s14, s15, s16, s17, s18, s19, s20⟩
                                                  go_simp
                                                  with_reducible rfl
                                                rotate_left
                                                · simp only [Act.put, List.setIfInBounds_toArray, List.set_cons_zero, List.set_cons_succ, i64_w, i32_w]
                                                  rfl
                                                refine one_ (i := 10) (N := some 101) #[true, true, true, true, true, true, true, true, true, true, true, false, false, false] rfl rfl (one_of HT_.out (by kernel_rfl)) (by decide) (fun K hK => ?_)
                                                refine value_ (w1 := ?_) (v := ?_) (by rfl) rfl ?_ ?_
                                                rotate_left 2
                                                · go_simp
                                                  constructor
                                                  · rfl
                                                  · rfl
                                                refine hK.out _ _ ⟨(blk_cell (blk_alloc BK170.out _) 0).trans rfl, (blk_cell (blk_alloc BK170.out _) 1).trans rfl, (blk_cell (blk_alloc BK170.out _) 2).trans rfl, (blk_cell (blk_alloc BK170.out _) 3).trans rfl, (blk_cell (blk_alloc BK170.out _) 4).trans rfl, (blk_cell (blk_alloc BK170.out _) 5).trans rfl, (blk_cell (blk_alloc BK170.out _) 6).trans rfl, (blk_cell (blk_alloc BK170.out _) 7).trans rfl, (World.cell?_alloc_lt _ _ _ (World.block_lt_of_cell? _ _ (((HB.out.cell (World.block_lt_of_cell? w _ hw184_0)).trans hw184_0)))).trans (((HB.out.cell (World.block_lt_of_cell? w _ hw184_0)).trans hw184_0)), (World.cell?_alloc_lt _ _ _ (World.block_lt_of_cell? _ _ (((HB.out.cell (World.block_lt_of_cell? w _ hw184_1)).trans hw184_1)))).trans (((HB.out.cell (World.block_lt_of_cell? w _ hw184_1)).trans hw184_1)), (World.cell?_alloc_lt _ _ _ (World.block_lt_of_cell? _ _ (((HB.out.cell (World.block_lt_of_cell? w _ hw184_2)).trans hw184_2)))).trans (((HB.out.cell (World.block_lt_of_cell? w _ hw184_2)).trans hw184_2)), (World.cell?_alloc_lt _ _ _ (World.block_lt_of_cell? _ _ (((HB.out.cell (World.block_lt_of_cell? w _ hw184_3)).trans hw184_3)))).trans (((HB.out.cell (World.block_lt_of_cell? w _ hw184_3)).trans hw184_3)), (World.cell?_alloc_lt _ _ _ (World.block_lt_of_cell? _ _ (((HB.out.cell (World.block_lt_of_cell? w _ hw184_4)).trans hw184_4)))).trans (((HB.out.cell (World.block_lt_of_cell? w _ hw184_4)).trans hw184_4)), (World.cell?_alloc_lt _ _ _ (World.block_lt_of_cell? _ _ (((HB.out.cell (World.block_lt_of_cell? w _ hw184_5)).trans hw184_5)))).trans (((HB.out.cell (World.block_lt_of_cell? w _ hw184_5)).trans hw184_5)), (World.cell?_alloc_lt _ _ _ (World.block_lt_of_cell? _ _ (((HB.out.cell (World.block_lt_of_cell? w _ hw184_6)).trans hw184_6)))).trans (((HB.out.cell (World.block_lt_of_cell? w _ hw184_6)).trans hw184_6)), (World.cell?_alloc_lt _ _ _ (World.block_lt_of_cell? _ _ (((HB.out.cell (World.block_lt_of_cell? w _ hw184_7)).trans hw184_7)))).trans (((HB.out.cell (World.block_lt_of_cell? w _ hw184_7)).trans hw184_7)), (World.cell?_alloc_lt _ _ _ (World.block_lt_of_cell? _ _ (((HB.out.cell (World.block_lt_of_cell? w _ hw185_0)).trans hw185_0)))).trans (((HB.out.cell (World.block_lt_of_cell? w _ hw185_0)).trans hw185_0)), (World.cell?_alloc_lt _ _ _ (World.block_lt_of_cell? _ _ (((HB.out.cell (World.block_lt_of_cell? w _ hw185_1)).trans hw185_1)))).trans (((HB.out.cell (World.block_lt_of_cell? w _ hw185_1)).trans hw185_1)), (World.cell?_alloc_lt _ _ _ (World.block_lt_of_cell? _ _ (((HB.out.cell (World.block_lt_of_cell? w _ hw185_2)).trans hw185_2)))).trans (((HB.out.cell (World.block_lt_of_cell? w _ hw185_2)).trans hw185_2)), (World.cell?_alloc_lt _ _ _ (World.block_lt_of_cell? _ _ (((HB.out.cell (World.block_lt_of_cell? w _ hw185_3)).trans hw185_3)))).trans (((HB.out.cell (World.block_lt_of_cell? w _ hw185_3)).trans hw185_3)), (World.cell?_alloc_lt _ _ _ (World.block_lt_of_cell? _ _ (((HB.out.cell (World.block_lt_of_cell? w _ hw185_4)).trans hw185_4)))).trans (((HB.out.cell (World.block_lt_of_cell? w _ hw185_4)).trans hw185_4))⟩ (fun hHeld => ?_)
                                                clear hK K
                                                refine norm_ (a' := ?_) ?_ ?_
                                                rotate_left
                                                · show Act.put _ (some 101) _ = _
                                                  simp only [Act.put, List.setIfInBounds_toArray, List.set_cons_zero, List.set_cons_succ, i64_w, i32_w]
                                                  rfl
                                                refine one_ (i := 11) (N := some 102) #[true, true, true, true, true, true, true, true, true, true, true, true, false, false] rfl rfl (one_of HT_.out (by kernel_rfl)) (by decide) (fun K hK => ?_)
                                                refine Kd.R_append_step k66 (w0 := w) w.heap.size (by rfl) (.tmp 92) (.tmp 101) 39 66 (.agg #[(.string ⟨#[]⟩), (.string ⟨#[]⟩), (.string ⟨#[]⟩), (.int .i64 0), (.int .i64 0)]) 64 rfl Tryz.underlying39 info66 rfl (by decide) (by omega) u171006 x171006_4 (⟨(rd_T67 ((rd_T60 l0 x11_1).f5) x88_4).f0, (rd_T67 ((rd_T60 l0 x11_1).f5) x88_4).f1, (rd_T67 ((rd_T60 l0 x11_1).f5) x88_4).f2, (⟨(rd_T67 ((rd_T60 l0 x11_1).f5) x88_4).f3.f0, (rd_T67 ((rd_T60 l0 x11_1).f5) x88_4).f3.f1⟩ : S34)⟩ : S66) [.string ((rd_T67 ((rd_T60 l0 x11_1).f5) x88_4).f0), .string ((rd_T67 ((rd_T60 l0 x11_1).f5) x88_4).f1), .string ((rd_T67 ((rd_T60 l0 x11_1).f5) x88_4).f2), .int .i64 ((rd_T67 ((rd_T60 l0 x11_1).f5) x88_4).f3.f0), .int .i64 ((rd_T67 ((rd_T60 l0 x11_1).f5) x88_4).f3.f1)] (fun _ => True) (fun _ => False) rfl rfl ?aP (fun _ hk => hk.elim) ?aF ?aO ?aB ?aS ?aL ?_
                                                (case aP => exact k66_mkM _ _ _ (⟨(rd_T67 ((rd_T60 l0 x11_1).f5) x88_4).f0, (rd_T67 ((rd_T60 l0 x11_1).f5) x88_4).f1, (rd_T67 ((rd_T60 l0 x11_1).f5) x88_4).f2, (⟨(rd_T67 ((rd_T60 l0 x11_1).f5) x88_4).f3.f0, (rd_T67 ((rd_T60 l0 x11_1).f5) x88_4).f3.f1⟩ : S34)⟩ : S66))
                                                (case aB => exact (by repeat (first | (with_reducible first | exact HB.out | apply below_alloc | apply pw_below_drewN | apply below_drew1 | refine below_set ?_ GE170.out) | exact HB.out)))
                                                (case aF => exact (fun _ _ => trivial))
                                                (case aO => exact (by (with_reducible repeat (first | apply Kd.R_alloc | apply Kd.R_drewN | apply Kd.R_drew)); exact HO_171006.out))
                                                (case aS => exact (below_size (by repeat (first | (with_reducible first | exact HB.out | apply below_alloc | apply pw_below_drewN | apply below_drew1 | refine below_set ?_ GE170.out) | exact HB.out))))
                                                (case aL => have := LMc49.out; omega)
                                                intro v187 w51 ho hb hg hat
                                                rw [← Ny186.out] at ho
                                                have n0_ := Aside0.mk (Kd.R_after (ok := (fun k_ => some k_ ≠ (u171004 : Value).ownBlock ∧ some k_ ≠ (u171005 : Value).ownBlock ∧ some k_ ≠ (.slice Ao11 t167.length co11 : Value).ownBlock ∧ k_ ≠ gb170)) (by (with_reducible repeat (first | apply Kd.R_alloc | apply Kd.R_drewN | apply Kd.R_drew)); exact Kd.R_mono HO_3.out (fun _ hk => ⟨⟨hk.1, ⟨hk.2.1, ⟨hk.2.2.2.1, hk.2.2.2.2⟩⟩⟩, hk.2.2.1⟩)) hg hat)
                                                have n1_ := Aside0.mk (Kd.R_over' (by (with_reducible repeat (first | apply Kd.R_alloc | apply Kd.R_drewN | apply Kd.R_drew)); exact HO_171004.out) (Kd.R_typed (by (with_reducible repeat (first | apply Kd.R_alloc | apply Kd.R_drewN | apply Kd.R_drew)); exact HO_171006.out)) (by decide) hg)
                                                have n2_ := Aside0.mk (Kd.R_over' (by (with_reducible repeat (first | apply Kd.R_alloc | apply Kd.R_drewN | apply Kd.R_drew)); exact HO_171005.out) (Kd.R_typed (by (with_reducible repeat (first | apply Kd.R_alloc | apply Kd.R_drewN | apply Kd.R_drew)); exact HO_171006.out)) (by decide) hg)
                                                have n3_ := Aside0.mk (Kd.R_after (ok := (fun k_ => some k_ ≠ (u3 : Value).ownBlock ∧ some k_ ≠ (u171004 : Value).ownBlock ∧ some k_ ≠ (u171005 : Value).ownBlock ∧ k_ ≠ gb170)) (by (with_reducible repeat (first | apply Kd.R_alloc | apply Kd.R_drewN | apply Kd.R_drew)); exact Kd.R_mono HO_171007.out (fun _ hk => ⟨⟨hk.1, ⟨hk.2.1, ⟨hk.2.2.1, hk.2.2.2.2⟩⟩⟩, hk.2.2.2.1⟩)) hg hat)
                                                have n4_ := Aside0.mk (blk_grown (g := gb170) (o := .cells #[.int .i64 ((rd_T60 l0 x11_1).f0), .string ((rd_T60 l0 x11_1).f1), .int .i64 ((rd_T60 l0 x11_1).f2.f0), .int .i64 ((rd_T60 l0 x11_1).f2.f1), u171004, u171005, u171006, .slice Ao11 t167.length co11] 41 (0, 0)) (by (with_reducible repeat (first | refine blk_drewN ?_ _ | refine blk_drew ?_ | refine blk_alloc ?_ _)); exact BK170.out) hg (Kd.R_ne HO_171006.out BK170.out (by decide)))
                                                have n5_ := Aside0.mk (hb)
                                                have n6_ := Aside0.mk (ho)
                                                clear HO_3
                                                clear HO_171004
                                                clear HO_171005
                                                clear HO_171007
                                                clear BK170
                                                clear HB
                                                clear HO_171006
                                                have HO_3 := n0_
                                                have HO_171004 := n1_
                                                have HO_171005 := n2_
                                                have HO_171007 := n3_
                                                have BK170 := n4_
                                                have HB := n5_
                                                have HO188 := n6_
                                                clear n0_ n1_ n2_ n3_ n4_ n5_ n6_
                                                clear ho hb hg hat
                                                obtain ⟨Ao52, co52, eo52⟩ := Kd.R_slice HO188.out
                                                (first | subst eo52 | (injection eo52 with f1_ f2_ f3_; have f4_ := f1_.symm; have f5_ := f3_.symm; clear f1_ f2_ f3_; subst f4_; subst f5_))
                                                refine hK.out _ _ ⟨(blk_cell BK170.out 0).trans rfl, (blk_cell BK170.out 1).trans rfl, (blk_cell BK170.out 2).trans rfl, (blk_cell BK170.out 3).trans rfl, (blk_cell BK170.out 4).trans rfl, (blk_cell BK170.out 5).trans rfl, (blk_cell BK170.out 6).trans rfl, (blk_cell BK170.out 7).trans rfl, ((HB.out.cell (World.block_lt_of_cell? w _ hw184_0)).trans hw184_0), ((HB.out.cell (World.block_lt_of_cell? w _ hw184_1)).trans hw184_1), ((HB.out.cell (World.block_lt_of_cell? w _ hw184_2)).trans hw184_2), ((HB.out.cell (World.block_lt_of_cell? w _ hw184_3)).trans hw184_3), ((HB.out.cell (World.block_lt_of_cell? w _ hw184_4)).trans hw184_4), ((HB.out.cell (World.block_lt_of_cell? w _ hw184_5)).trans hw184_5), ((HB.out.cell (World.block_lt_of_cell? w _ hw184_6)).trans hw184_6), ((HB.out.cell (World.block_lt_of_cell? w _ hw184_7)).trans hw184_7), ((HB.out.cell (World.block_lt_of_cell? w _ hw185_0)).trans hw185_0), ((HB.out.cell (World.block_lt_of_cell? w _ hw185_1)).trans hw185_1), ((HB.out.cell (World.block_lt_of_cell? w _ hw185_2)).trans hw185_2), ((HB.out.cell (World.block_lt_of_cell? w _ hw185_3)).trans hw185_3), ((HB.out.cell (World.block_lt_of_cell? w _ hw185_4)).trans hw185_4)⟩ (fun hHeld => ?_)
                                                clear hK K
                                                refine norm_ (a' := ?_) ?_ ?_
                                                rotate_left
                                                · show Act.put _ (some 102) _ = _
                                                  simp only [Act.put, List.setIfInBounds_toArray, List.set_cons_zero, List.set_cons_succ, i64_w, i32_w]
                                                  rfl
                                                refine pure_ (i := 12) (N := some 103) (v := ?_) (a' := ?_) #[true, true, true, true, true, true, true, true, true, true, true, true, true, false] rfl rfl (any_of HT_.out (by kernel_rfl)) (fun _ _ _ h => h) (Or.inl ⟨by rfl, ?_⟩) ?_ ?_
                                                rotate_left
                                                · intro w'
                                                  go_simp
                                                  with_reducible rfl
                                                rotate_left
                                                · simp only [Act.put, List.setIfInBounds_toArray, List.set_cons_zero, List.set_cons_succ, i64_w, i32_w]
                                                  rfl
                                                refine last_ (i := 13) (N := none) #[true, true, true, true, true, true, true, true, true, true, true, true, true, true] rfl rfl (one_of HT_.out (by kernel_rfl)) (by decide) (fun K hK => ?_)
                                                have hs53 : w51.cell? ⟨gb170, 6, none⟩ = some (u171006) := (blk_cell BK170.out 6).trans rfl
                                                have hfs53 := blk_frozen BK170.out 6
                                                refine skip_ (w1 := ?_) (by rfl) rfl ?_ ?_
                                                rotate_left
                                                · go_simp
                                                  rfl
                                                refine hK.out _ _ ?_
                                                clear hK K
                                                refine done_ (done_of HT_.out (by kernel_rfl)) ?_
                                                try go_wp2
                                                go_roundg k4
                                                case measure => have := HK1.out; have := HK2.out; have := HK3.out; have := HK4.out; omega
                                                case rel => exact ⟨(wrap64 (x88_4 + 1)), (y186), (.slice Ao52 y186.length co52), (by first | rfl | (simp; done) | (simp [*]; done)), H', ⟨by have := HK1.out; have := HK2.out; have := HK3.out; have := HK4.out; omega⟩, ⟨by (with_reducible repeat (first | apply Kd.R_alloc | apply Kd.R_drewN | apply Kd.R_drew)); exact Kd.R_mono (Kd.R_far (p := ⟨gb170, 6, none⟩) (Kd.R_mono HO_3.out (fun k_ hk => (⟨hk, hk.1.2.2.2⟩ : _ ∧ k_ ≠ gb170))) (fun _ hk => hk.2) (.slice Ao52 y186.length co52)) (fun _ hk => ⟨hk.1.1.1, ⟨hk.1.1.2.1, ⟨hk.1.2, ⟨hk.1.1.2.2.1, hk.1.1.2.2.2⟩⟩⟩⟩)⟩, ⟨by (with_reducible repeat (first | apply Kd.R_alloc | apply Kd.R_drewN | apply Kd.R_drew)); exact Kd.R_mono (Kd.R_far (p := ⟨gb170, 6, none⟩) (Kd.R_types HO_171004.out BK170.out (by decide)) (fun _ hk => hk.2) (.slice Ao52 y186.length co52)) (fun _ hk => trivial)⟩, ⟨by (with_reducible repeat (first | apply Kd.R_alloc | apply Kd.R_drewN | apply Kd.R_drew)); exact Kd.R_mono (Kd.R_far (p := ⟨gb170, 6, none⟩) (Kd.R_types HO_171005.out BK170.out (by decide)) (fun _ hk => hk.2) (.slice Ao52 y186.length co52)) (fun _ hk => trivial)⟩, ⟨by (with_reducible repeat (first | apply Kd.R_alloc | apply Kd.R_drewN | apply Kd.R_drew)); exact Kd.R_mono (Kd.R_far (p := ⟨gb170, 6, none⟩) (Kd.R_types HO188.out BK170.out (by decide)) (fun _ hk => hk.2) (.slice Ao52 y186.length co52)) (fun _ hk => trivial)⟩, ⟨by (with_reducible repeat (first | apply Kd.R_alloc | apply Kd.R_drewN | apply Kd.R_drew)); exact Kd.R_mono (Kd.R_far (p := ⟨gb170, 6, none⟩) (Kd.R_mono HO_171007.out (fun k_ hk => (⟨hk, hk.1.2.2.2⟩ : _ ∧ k_ ≠ gb170))) (fun _ hk => hk.2) (.slice Ao52 y186.length co52)) (fun _ hk => ⟨hk.1.1.1, ⟨hk.1.1.2.1, ⟨hk.1.1.2.2.1, ⟨hk.1.2, hk.1.1.2.2.2⟩⟩⟩⟩)⟩, ⟨by (with_reducible repeat (first | refine blk_drewN ?_ _ | refine blk_drew ?_ | refine blk_alloc ?_ _)); refine blk_put (cs := #[.int .i64 ((rd_T60 l0 x11_1).f0), .string ((rd_T60 l0 x11_1).f1), .int .i64 ((rd_T60 l0 x11_1).f2.f0), .int .i64 ((rd_T60 l0 x11_1).f2.f1), u171004, u171005, u171006, .slice Ao11 t167.length co11]) ?_ 6 _ rfl; (with_reducible repeat (first | refine blk_drewN ?_ _ | refine blk_drew ?_ | refine blk_alloc ?_ _)); exact BK170.out⟩, ⟨by repeat (first | (with_reducible first | exact HB.out | apply below_alloc | apply pw_below_drewN | apply below_drew1 | refine below_set ?_ GE170.out) | exact HB.out)⟩⟩
                                              · rw [if_neg c49] at H
                                                exact absurd H (by simp)
                                            · rw [if_neg c48] at H
                                              exact absurd H (by simp)
                                          · rw [if_neg c47] at H
                                            exact absurd H (by simp)
                                        · rw [if_neg c46] at H
                                          exact absurd H (by simp)
                                      · rw [if_neg c45] at H
                                        exact absurd H (by simp)
                                    · rw [if_neg c44] at H
                                      have c44b0 : decide (x88_4 < (((rd_T60 l0 x11_1).f5).length : Int)) = false := decide_eq_false c44
                                      clear c44
                                      by_cases c54 : x3_1.length < 1034834473200
                                      · rw [if_pos c54] at H
                                        have LMc54 := Aside0.mk c54
                                        clear c54
                                        obtain ⟨y189, hy189⟩ : ∃ y_ : List (S41), y_ = (x3_1 ++ [(⟨((rd_T60 l0 x11_1).f0), ((rd_T60 l0 x11_1).f1), (⟨((rd_T60 l0 x11_1).f2.f0), ((rd_T60 l0 x11_1).f2.f1)⟩ : S34), x171004_2, x171005_3, x171006_4, t167⟩ : S41)]) := ⟨_, rfl⟩
                                        replace H : (courierlaw05_Theirs.l0 k4 l0 y189 (l0.length : Int) (wrap64 (x11_1 + 1))) = some r := by first | (rw [hy189]; with_reducible exact H) | (have H2_ := (Option.bind_some _ _).symm.trans H; rw [hy189]; with_reducible exact H2_) | (have H2_ := (Option.bind_some _ _).symm.trans H; with_reducible exact H2_) | with_reducible exact H | (rw [hy189]; exact H) | exact H
                                        have Ny189 := Aside0.mk hy189
                                        clear hy189
                                        have H' := Aside0.mk H
                                        clear H
                                        have hcz55_0 : wr.cell? ⟨gb170, 0, none⟩ = some (.int .i64 ((rd_T60 l0 x11_1).f0)) := (blk_cell BK170.out 0).trans rfl
                                        have hcz55_1 : wr.cell? ⟨gb170, 1, none⟩ = some (.string ((rd_T60 l0 x11_1).f1)) := (blk_cell BK170.out 1).trans rfl
                                        have hcz55_2 : wr.cell? ⟨gb170, 2, none⟩ = some (.int .i64 ((rd_T60 l0 x11_1).f2.f0)) := (blk_cell BK170.out 2).trans rfl
                                        have hcz55_3 : wr.cell? ⟨gb170, 3, none⟩ = some (.int .i64 ((rd_T60 l0 x11_1).f2.f1)) := (blk_cell BK170.out 3).trans rfl
                                        have hcz55_4 : wr.cell? ⟨gb170, 4, none⟩ = some (u171004) := (blk_cell BK170.out 4).trans rfl
                                        have hcz55_5 : wr.cell? ⟨gb170, 5, none⟩ = some (u171005) := (blk_cell BK170.out 5).trans rfl
                                        have hcz55_6 : wr.cell? ⟨gb170, 6, none⟩ = some (u171006) := (blk_cell BK170.out 6).trans rfl
                                        have hcz55_7 : wr.cell? ⟨gb170, 7, none⟩ = some (.slice Ao11 t167.length co11) := (blk_cell BK170.out 7).trans rfl
                                        have hfz55_0 := blk_frozen BK170.out 0
                                        have hfz55_1 := blk_frozen BK170.out 1
                                        have hfz55_2 := blk_frozen BK170.out 2
                                        have hfz55_3 := blk_frozen BK170.out 3
                                        have hfz55_4 := blk_frozen BK170.out 4
                                        have hfz55_5 := blk_frozen BK170.out 5
                                        have hfz55_6 := blk_frozen BK170.out 6
                                        have hfz55_7 := blk_frozen BK170.out 7
                                        obtain ⟨Ao57, co57, eo57⟩ := Kd.R_slice HO_171004.out
                                        subst eo57
                                        obtain ⟨Ao58, co58, eo58⟩ := Kd.R_slice HO_171005.out
                                        subst eo58
                                        obtain ⟨Ao59, co59, eo59⟩ := Kd.R_slice HO_171006.out
                                        subst eo59
                                        go_wp2_with (first | ((with_reducible refine gate_builtin (b := .append) (xs := #[.tmp 105, .tmp 107]) rfl ?_); at_builtin; refine Kd.R_append k41 (w0 := w) w.heap.size rfl (.tmp 105) (.tmp 107) 28 41 (.agg #[(.int .i64 0), (.string ⟨#[]⟩), (.int .i64 0), (.int .i64 0), (.slice none 0 0), (.slice none 0 0), (.slice none 0 0), (.slice none 0 0)]) 136 rfl Tryz.underlying28 info41 rfl (by decide) (by omega) u3 x3_1 (⟨((rd_T60 l0 x11_1).f0), ((rd_T60 l0 x11_1).f1), (⟨((rd_T60 l0 x11_1).f2.f0), ((rd_T60 l0 x11_1).f2.f1)⟩ : S34), x171004_2, x171005_3, x171006_4, t167⟩ : S41) [.int .i64 ((rd_T60 l0 x11_1).f0), .string ((rd_T60 l0 x11_1).f1), .int .i64 ((rd_T60 l0 x11_1).f2.f0), .int .i64 ((rd_T60 l0 x11_1).f2.f1), .slice Ao57 x171004_2.length co57, .slice Ao58 x171005_3.length co58, .slice Ao59 x171006_4.length co59, .slice Ao11 t167.length co11] (fun k_ => k_ ≠ gb170) (fun k_ => ((fun k_ => k_ ≠ gb170)) k_ ∧ some k_ ≠ (u3 : Value).ownBlock) rfl rfl ?aP (fun _ hk => hk) ?aF ?aO ?aB ?aS ?aL ?_; (case aP => exact k41_mkM _ _ _ (⟨((rd_T60 l0 x11_1).f0), ((rd_T60 l0 x11_1).f1), (⟨((rd_T60 l0 x11_1).f2.f0), ((rd_T60 l0 x11_1).f2.f1)⟩ : S34), x171004_2, x171005_3, x171006_4, t167⟩ : S41) (Kd.R_mono (Kd.R_types (Kd.R_apart' (HO_171004.out) (Kd.R_typed HO_3.out) (by decide)) BK170.out (by decide)) (fun k_ hk => ⟨hk.2, hk.1.2⟩)) (Kd.R_mono (Kd.R_types (Kd.R_apart' (HO_171005.out) (Kd.R_typed HO_3.out) (by decide)) BK170.out (by decide)) (fun k_ hk => ⟨hk.2, hk.1.2⟩)) (Kd.R_mono (Kd.R_types (Kd.R_apart' (HO_171006.out) (Kd.R_typed HO_3.out) (by decide)) BK170.out (by decide)) (fun k_ hk => ⟨hk.2, hk.1.2⟩)) (Kd.R_mono (HO_171007.out) (fun k_ hk => ⟨hk.2.2.2.2, hk.1⟩))); (case aB => exact (by repeat (first | (with_reducible first | exact HB.out | apply below_alloc | apply pw_below_drewN | apply below_drew1 | refine below_set ?_ GE170.out) | exact HB.out))); (case aF => exact (fun k_ hk => Kd.freshB (g := gb170) (o := .cells #[.int .i64 ((rd_T60 l0 x11_1).f0), .string ((rd_T60 l0 x11_1).f1), .int .i64 ((rd_T60 l0 x11_1).f2.f0), .int .i64 ((rd_T60 l0 x11_1).f2.f1), .slice Ao57 x171004_2.length co57, .slice Ao58 x171005_3.length co58, .slice Ao59 x171006_4.length co59, .slice Ao11 t167.length co11] 41 (0, 0)) (by (with_reducible repeat (first | refine blk_drewN ?_ _ | refine blk_drew ?_ | refine blk_alloc ?_ _)); exact BK170.out) k_ hk)); (case aO => exact (by (with_reducible repeat (first | apply Kd.R_alloc | apply Kd.R_drewN | apply Kd.R_drew)); exact Kd.R_mono HO_3.out (fun _ hk => hk.2.2.2.2))); (case aS => exact (below_size (by repeat (first | (with_reducible first | exact HB.out | apply below_alloc | apply pw_below_drewN | apply below_drew1 | refine below_set ?_ GE170.out) | exact HB.out)))); (case aL => have := LMc54.out; omega); intro v190 w56 ho hb hg hat; rw [← Ny189.out] at ho; have n0_ := Aside0.mk (blk_grown (g := gb170) (o := .cells #[.int .i64 ((rd_T60 l0 x11_1).f0), .string ((rd_T60 l0 x11_1).f1), .int .i64 ((rd_T60 l0 x11_1).f2.f0), .int .i64 ((rd_T60 l0 x11_1).f2.f1), .slice Ao57 x171004_2.length co57, .slice Ao58 x171005_3.length co58, .slice Ao59 x171006_4.length co59, .slice Ao11 t167.length co11] 41 (0, 0)) (by (with_reducible repeat (first | refine blk_drewN ?_ _ | refine blk_drew ?_ | refine blk_alloc ?_ _)); exact BK170.out) hg (Kd.R_away HO_3.out (fun _ hk => hk.2.2.2.2))); have n1_ := Aside0.mk (hb); have n2_ := Aside0.mk (ho); clear BK170; clear HB; clear HO_3; clear HO_171004; clear HO_171005; clear HO_171006; clear HO_171007; have BK170 := n0_; have HB := n1_; have HO191 := n2_; clear n0_ n1_ n2_; clear ho hb hg hat))
                                        go_roundg k4
                                        case measure => have := HK1.out; have := HK2.out; have := HK3.out; have := HK4.out; omega
                                        case rel => exact ⟨(y189), (wrap64 (x11_1 + 1)), (by first | rfl | (simp; done) | (simp [*]; done)), H', ⟨by have := HK1.out; have := HK2.out; have := HK3.out; have := HK4.out; omega⟩, ⟨by (with_reducible repeat (first | apply Kd.R_alloc | apply Kd.R_drewN | apply Kd.R_drew)); exact Kd.R_mono HO191.out (fun _ hk => trivial)⟩, ⟨by repeat (first | (with_reducible first | exact HB.out | apply below_alloc | apply pw_below_drewN | apply below_drew1 | refine below_set ?_ GE170.out) | exact HB.out)⟩⟩
                                      · rw [if_neg c54] at H
                                        exact absurd H (by simp)
                              · rw [if_neg c43] at H
                                exact absurd H (by simp)
                            · rw [if_neg c42] at H
                              exact absurd H (by simp)
                    · rw [if_neg c31] at H
                      exact absurd H (by simp)
                  · rw [if_neg c30] at H
                    exact absurd H (by simp)
          · rw [if_neg c4] at H
            exact absurd H (by simp)
        · rw [if_neg c3] at H
          exact absurd H (by simp)
      · rw [if_neg c2] at H
        have c2b0 : decide (x11_1 < (l0.length : Int)) = false := decide_eq_false c2
        clear c2
        obtain rfl := Option.some.inj H
        go_wp2
        go_ret
        exact ⟨_, by first | rfl | (simp [errW_none, errW_some] <;> rfl) | (simp [*, errW_none, errW_some] <;> rfl), by (with_reducible repeat (first | apply Kd.R_alloc | apply Kd.R_drewN | apply Kd.R_drew)); exact HO_3.out, by repeat (first | (with_reducible first | exact HB.out | apply below_alloc | apply pw_below_drewN | apply below_drew1) | exact HB.out)⟩

end Go.Proofs.YtknbhbppofphpaaGreatDoor.X
