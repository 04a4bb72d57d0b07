/- Plain functions for Go's own, out of the translation's print, and a proof that each call comes to what they tell; no condition but the functions' own answers. -/
import Derived.Test.YtbhfecciegfdjaaDoorX0
namespace Go.Proofs.YtbhfecciegfdjaaDoor.X
open Go.RowKit Go.Proofs.YtbhfecciegfdjaaDoorW.PrintWords Go.Proofs.YtbhfecciegfdjaaDoorW.PrintLast Go.Proofs.YtbhfecciegfdjaaDoorW.PrintMore
attribute [local go_sem] max2_int min2_int max_two min_two max_three min_three max_four min_four Go.Proofs.YtbhfecciegfdjaaDoor.MyWords.put_isSome Go.Proofs.YtbhfecciegfdjaaDoor.MyWords.drewN_put   -- for this text's walks alone
set_option linter.unusedVariables false
set_option linter.unusedSimpArgs false

/-! ### courierlaw05_Theirs: function 8 -/
mutual
def courierlaw05_Theirs.l0 : Nat → List (S54) → List (S47) → Int → Int → Option ((List (S47)))
  | 0, _, _, _, _ => none
  | k + 1, x0, x3, x10, x11 => if x11 < x10 then (if 0 ≤ x11 then (if x11 < (x0.length : Int) then ((courierlaw05_Theirs.f k ((rd_T54 x0 x11).f6)).bind fun t125 => (courierlaw05_Theirs.l1 k x0 x3 x11 x10 x11 (((rd_T54 x0 x11).f3).length : Int) 0 ((rd_T54 x0 x11).f0) ((rd_T54 x0 x11).f1) ((rd_T54 x0 x11).f2.f0) ((rd_T54 x0 x11).f2.f1) ([] : List (S56)) t125)) else (none)) else (none)) else (some x3)
def courierlaw05_Theirs.l1 : Nat → List (S54) → List (S47) → Int → Int → Int → Int → Int → Int → ByteArray → Int → Int → List (S56) → List (S47) → Option ((List (S47)))
  | 0, _, _, _, _, _, _, _, _, _, _, _, _, _ => none
  | k + 1, x0, x3, x4, x10, x11, x41, x42, x129000, x129001, x129002, x129003, x129004, x129007 => if x42 < x41 then (if 0 ≤ x4 then (if x4 < (x0.length : Int) then (if 0 ≤ x42 then (if x42 < (((rd_T54 x0 x4).f3).length : Int) then (if x129004.length < 2199023255552 then (courierlaw05_Theirs.l1 k x0 x3 x4 x10 x11 x41 (wrap64 (x42 + 1)) x129000 x129001 x129002 x129003 (x129004 ++ [(⟨(rd_T57 ((rd_T54 x0 x4).f3) x42).f0, (rd_T57 ((rd_T54 x0 x4).f3) x42).f1, (rd_T57 ((rd_T54 x0 x4).f3) x42).f2, (rd_T57 ((rd_T54 x0 x4).f3) x42).f3, (⟨(rd_T57 ((rd_T54 x0 x4).f3) x42).f4.f0, (rd_T57 ((rd_T54 x0 x4).f3) x42).f4.f1⟩ : S42)⟩ : S56)]) x129007) else (none)) else (none)) else (none)) else (none)) else (none)) else (if 0 ≤ x4 then (if x4 < (x0.length : Int) then (courierlaw05_Theirs.l2 k x0 x3 x4 x10 x11 (((rd_T54 x0 x4).f4).length : Int) 0 x129000 x129001 x129002 x129003 x129004 ([] : List (S59)) x129007) else (none)) else (none))
def courierlaw05_Theirs.l2 : Nat → List (S54) → List (S47) → Int → Int → Int → Int → Int → Int → ByteArray → Int → Int → List (S56) → List (S59) → List (S47) → Option ((List (S47)))
  | 0, _, _, _, _, _, _, _, _, _, _, _, _, _, _ => none
  | k + 1, x0, x3, x4, x10, x11, x64, x65, x129000, x129001, x129002, x129003, x129004, x129005, x129007 => if x65 < x64 then (if 0 ≤ x4 then (if x4 < (x0.length : Int) then (if 0 ≤ x65 then (if x65 < (((rd_T54 x0 x4).f4).length : Int) then (if x129005.length < 3518437208883 then (courierlaw05_Theirs.l2 k x0 x3 x4 x10 x11 x64 (wrap64 (x65 + 1)) x129000 x129001 x129002 x129003 x129004 (x129005 ++ [(⟨(rd_T60 ((rd_T54 x0 x4).f4) x65).f0, (rd_T60 ((rd_T54 x0 x4).f4) x65).f1, (⟨(rd_T60 ((rd_T54 x0 x4).f4) x65).f2.f0, (rd_T60 ((rd_T54 x0 x4).f4) x65).f2.f1⟩ : S42)⟩ : S59)]) x129007) else (none)) else (none)) else (none)) else (none)) else (none)) else (if 0 ≤ x4 then (if x4 < (x0.length : Int) then (courierlaw05_Theirs.l3 k x0 x3 x4 x10 x11 (((rd_T54 x0 x4).f5).length : Int) 0 x129000 x129001 x129002 x129003 x129004 x129005 ([] : List (S62)) x129007) else (none)) else (none))
def courierlaw05_Theirs.l3 : Nat → List (S54) → List (S47) → Int → Int → Int → Int → Int → Int → ByteArray → Int → Int → List (S56) → List (S59) → List (S62) → List (S47) → Option ((List (S47)))
  | 0, _, _, _, _, _, _, _, _, _, _, _, _, _, _, _ => none
  | k + 1, x0, x3, x4, x10, x11, x87, x88, x129000, x129001, x129002, x129003, x129004, x129005, x129006, x129007 => if x88 < x87 then (if 0 ≤ x4 then (if x4 < (x0.length : Int) then (if 0 ≤ x88 then (if x88 < (((rd_T54 x0 x4).f5).length : Int) then (if x129006.length < 2199023255552 then (courierlaw05_Theirs.l3 k x0 x3 x4 x10 x11 x87 (wrap64 (x88 + 1)) x129000 x129001 x129002 x129003 x129004 x129005 (x129006 ++ [(⟨(rd_T63 ((rd_T54 x0 x4).f5) x88).f0, (rd_T63 ((rd_T54 x0 x4).f5) x88).f1, (rd_T63 ((rd_T54 x0 x4).f5) x88).f2, (⟨(rd_T63 ((rd_T54 x0 x4).f5) x88).f3.f0, (rd_T63 ((rd_T54 x0 x4).f5) x88).f3.f1⟩ : S42)⟩ : S62)]) x129007) else (none)) else (none)) else (none)) else (none)) else (none)) else (if x3.length < 1034834473200 then (courierlaw05_Theirs.l0 k x0 (x3 ++ [(⟨x129000, x129001, (⟨x129002, x129003⟩ : S42), x129004, x129005, x129006, x129007⟩ : S47)]) x10 (wrap64 (x11 + 1))) else (none))
def courierlaw05_Theirs.f : Nat → List (S54) → Option ((List (S47)))
  | 0, _ => none
  | k + 1, l0 => courierlaw05_Theirs.l0 k l0 ([] : List (S47)) (l0.length : Int) 0
end
theorem courierlaw05_Theirs.mono_l : ∀ k, (∀ y0, LeO (courierlaw05_Theirs.f k y0) (courierlaw05_Theirs.f (k + 1) y0)) ∧ (∀ y0 y1 y2 y3, LeO (courierlaw05_Theirs.l0 k y0 y1 y2 y3) (courierlaw05_Theirs.l0 (k + 1) y0 y1 y2 y3)) ∧ (∀ y0 y1 y2 y3 y4 y5 y6 y7 y8 y9 y10 y11 y12, LeO (courierlaw05_Theirs.l1 k y0 y1 y2 y3 y4 y5 y6 y7 y8 y9 y10 y11 y12) (courierlaw05_Theirs.l1 (k + 1) y0 y1 y2 y3 y4 y5 y6 y7 y8 y9 y10 y11 y12)) ∧ (∀ y0 y1 y2 y3 y4 y5 y6 y7 y8 y9 y10 y11 y12 y13, LeO (courierlaw05_Theirs.l2 k y0 y1 y2 y3 y4 y5 y6 y7 y8 y9 y10 y11 y12 y13) (courierlaw05_Theirs.l2 (k + 1) y0 y1 y2 y3 y4 y5 y6 y7 y8 y9 y10 y11 y12 y13)) ∧ (∀ y0 y1 y2 y3 y4 y5 y6 y7 y8 y9 y10 y11 y12 y13 y14, LeO (courierlaw05_Theirs.l3 k y0 y1 y2 y3 y4 y5 y6 y7 y8 y9 y10 y11 y12 y13 y14) (courierlaw05_Theirs.l3 (k + 1) y0 y1 y2 y3 y4 y5 y6 y7 y8 y9 y10 y11 y12 y13 y14))
  | 0 => ⟨fun _ r h => by simp [courierlaw05_Theirs.f] at h, fun _ _ _ _ r h => by simp [courierlaw05_Theirs.l0] at h, fun _ _ _ _ _ _ _ _ _ _ _ _ _ r h => by simp [courierlaw05_Theirs.l1] at h, fun _ _ _ _ _ _ _ _ _ _ _ _ _ _ r h => by simp [courierlaw05_Theirs.l2] at h, fun _ _ _ _ _ _ _ _ _ _ _ _ _ _ _ r h => by simp [courierlaw05_Theirs.l3] at h⟩
  | k + 1 => by
    obtain ⟨ih0, ih1, ih2, ih3, ih4⟩ := courierlaw05_Theirs.mono_l k
    refine ⟨?_, ?_, ?_, ?_, ?_⟩
    · intro y0
      unfold courierlaw05_Theirs.f
      repeat' first
      | (with_reducible exact ih0 _)
      | (with_reducible exact ih1 _ _ _ _)
      | (with_reducible exact ih2 _ _ _ _ _ _ _ _ _ _ _ _ _)
      | (with_reducible exact ih3 _ _ _ _ _ _ _ _ _ _ _ _ _ _)
      | (with_reducible exact ih4 _ _ _ _ _ _ _ _ _ _ _ _ _ _ _)
      | (with_reducible exact LeO.refl _)
      | (with_reducible exact LeO.none _)
      | (with_reducible refine LeO.ite ?_ ?_)
      | (with_reducible refine LeO.bind ?_ (fun _ => ?_))
      | exact ih0 _
      | exact ih1 _ _ _ _
      | exact ih2 _ _ _ _ _ _ _ _ _ _ _ _ _
      | exact ih3 _ _ _ _ _ _ _ _ _ _ _ _ _ _
      | exact ih4 _ _ _ _ _ _ _ _ _ _ _ _ _ _ _
      | exact LeO.none _
      | refine LeO.ite ?_ ?_
      | refine LeO.bind ?_ (fun _ => ?_)
    · intro y0 y1 y2 y3
      unfold courierlaw05_Theirs.l0
      repeat' first
      | (with_reducible exact ih0 _)
      | (with_reducible exact ih1 _ _ _ _)
      | (with_reducible exact ih2 _ _ _ _ _ _ _ _ _ _ _ _ _)
      | (with_reducible exact ih3 _ _ _ _ _ _ _ _ _ _ _ _ _ _)
      | (with_reducible exact ih4 _ _ _ _ _ _ _ _ _ _ _ _ _ _ _)
      | (with_reducible exact LeO.refl _)
      | (with_reducible exact LeO.none _)
      | (with_reducible refine LeO.ite ?_ ?_)
      | (with_reducible refine LeO.bind ?_ (fun _ => ?_))
      | exact ih0 _
      | exact ih1 _ _ _ _
      | exact ih2 _ _ _ _ _ _ _ _ _ _ _ _ _
      | exact ih3 _ _ _ _ _ _ _ _ _ _ _ _ _ _
      | exact ih4 _ _ _ _ _ _ _ _ _ _ _ _ _ _ _
      | exact LeO.none _
      | refine LeO.ite ?_ ?_
      | refine LeO.bind ?_ (fun _ => ?_)
    · intro y0 y1 y2 y3 y4 y5 y6 y7 y8 y9 y10 y11 y12
      unfold courierlaw05_Theirs.l1
      repeat' first
      | (with_reducible exact ih0 _)
      | (with_reducible exact ih1 _ _ _ _)
      | (with_reducible exact ih2 _ _ _ _ _ _ _ _ _ _ _ _ _)
      | (with_reducible exact ih3 _ _ _ _ _ _ _ _ _ _ _ _ _ _)
      | (with_reducible exact ih4 _ _ _ _ _ _ _ _ _ _ _ _ _ _ _)
      | (with_reducible exact LeO.refl _)
      | (with_reducible exact LeO.none _)
      | (with_reducible refine LeO.ite ?_ ?_)
      | (with_reducible refine LeO.bind ?_ (fun _ => ?_))
      | exact ih0 _
      | exact ih1 _ _ _ _
      | exact ih2 _ _ _ _ _ _ _ _ _ _ _ _ _
      | exact ih3 _ _ _ _ _ _ _ _ _ _ _ _ _ _
      | exact ih4 _ _ _ _ _ _ _ _ _ _ _ _ _ _ _
      | exact LeO.none _
      | refine LeO.ite ?_ ?_
      | refine LeO.bind ?_ (fun _ => ?_)
    · intro y0 y1 y2 y3 y4 y5 y6 y7 y8 y9 y10 y11 y12 y13
      unfold courierlaw05_Theirs.l2
      repeat' first
      | (with_reducible exact ih0 _)
      | (with_reducible exact ih1 _ _ _ _)
      | (with_reducible exact ih2 _ _ _ _ _ _ _ _ _ _ _ _ _)
      | (with_reducible exact ih3 _ _ _ _ _ _ _ _ _ _ _ _ _ _)
      | (with_reducible exact ih4 _ _ _ _ _ _ _ _ _ _ _ _ _ _ _)
      | (with_reducible exact LeO.refl _)
      | (with_reducible exact LeO.none _)
      | (with_reducible refine LeO.ite ?_ ?_)
      | (with_reducible refine LeO.bind ?_ (fun _ => ?_))
      | exact ih0 _
      | exact ih1 _ _ _ _
      | exact ih2 _ _ _ _ _ _ _ _ _ _ _ _ _
      | exact ih3 _ _ _ _ _ _ _ _ _ _ _ _ _ _
      | exact ih4 _ _ _ _ _ _ _ _ _ _ _ _ _ _ _
      | exact LeO.none _
      | refine LeO.ite ?_ ?_
      | refine LeO.bind ?_ (fun _ => ?_)
    · intro y0 y1 y2 y3 y4 y5 y6 y7 y8 y9 y10 y11 y12 y13 y14
      unfold courierlaw05_Theirs.l3
      repeat' first
      | (with_reducible exact ih0 _)
      | (with_reducible exact ih1 _ _ _ _)
      | (with_reducible exact ih2 _ _ _ _ _ _ _ _ _ _ _ _ _)
      | (with_reducible exact ih3 _ _ _ _ _ _ _ _ _ _ _ _ _ _)
      | (with_reducible exact ih4 _ _ _ _ _ _ _ _ _ _ _ _ _ _ _)
      | (with_reducible exact LeO.refl _)
      | (with_reducible exact LeO.none _)
      | (with_reducible refine LeO.ite ?_ ?_)
      | (with_reducible refine LeO.bind ?_ (fun _ => ?_))
      | exact ih0 _
      | exact ih1 _ _ _ _
      | exact ih2 _ _ _ _ _ _ _ _ _ _ _ _ _
      | exact ih3 _ _ _ _ _ _ _ _ _ _ _ _ _ _
      | exact ih4 _ _ _ _ _ _ _ _ _ _ _ _ _ _ _
      | exact LeO.none _
      | refine LeO.ite ?_ ?_
      | refine LeO.bind ?_ (fun _ => ?_)
theorem courierlaw05_Theirs.mono : ∀ a0 k, LeO (courierlaw05_Theirs.f k a0) (courierlaw05_Theirs.f (k + 1) a0) := by
  intro a0 k
  obtain ⟨ih0, ih1, ih2, ih3, ih4⟩ := courierlaw05_Theirs.mono_l k
  exact ih0 a0
def courierlaw05_Theirs.T5 : Bool × List (List Nat × List Nat) := (true, [([], []), ([], []), ([0, 1], [0, 1]), ([2], [2]), ([3], [3]), ([], []), ([], []), ([5, 6], [5, 6]), ([7], [7]), ([8], [8]), ([], []), ([], []), ([10, 11], [10, 11]), ([12], [12]), ([13], [13]), ([], []), ([], []), ([15, 16], [15, 16]), ([17], [17]), ([18], [18]), ([19], [19]), ([4, 9, 14, 20], [4, 9, 14, 20]), ([], []), ([22, 21, 20, 0, 1, 2, 3, 4, 5, 6, 7, 8, 9, 10, 11, 12, 13, 14, 15, 16, 17, 18, 19, 20, 21, 22], [21, 22])])
def courierlaw05_Theirs.B5 : List Nat := [0, 0, 3, 7, 15, 0, 0, 96, 224, 480, 0, 0, 3072, 7168, 15360, 0, 0, 98304, 229376, 491520, 1015808, 2097151, 0, 8388607]
theorem courierlaw05_Theirs.tab5 : rtab .any (opsOf Tryd.f8 5) = courierlaw05_Theirs.T5 := by kernel_rfl
theorem courierlaw05_Theirs.bits5 : waitsOk courierlaw05_Theirs.T5.2 courierlaw05_Theirs.B5 = true := by kernel_rfl
def courierlaw05_Theirs.T9 : Bool × List (List Nat × List Nat) := (true, [([], []), ([0], [0]), ([], []), ([], []), ([2, 3], [2, 3]), ([4], [4]), ([5], [5]), ([], []), ([6, 7], [6, 7]), ([8], [8]), ([9], [9]), ([1, 10], [1, 10]), ([0, 1, 2, 3, 4, 5, 6, 7, 8, 9, 10, 11], []), ([12, 11, 11, 0, 1, 2, 3, 4, 5, 6, 7, 8, 9, 10, 11], [11, 12])])
def courierlaw05_Theirs.B9 : List Nat := [0, 1, 0, 0, 12, 28, 60, 0, 252, 508, 1020, 2047, 4095, 8191]
theorem courierlaw05_Theirs.tab9 : rtab .any (opsOf Tryd.f8 9) = courierlaw05_Theirs.T9 := by kernel_rfl
theorem courierlaw05_Theirs.bits9 : waitsOk courierlaw05_Theirs.T9.2 courierlaw05_Theirs.B9 = true := by kernel_rfl
def courierlaw05_Theirs.T14 : Bool × List (List Nat × List Nat) := (true, [([], []), ([0], [0]), ([], []), ([], []), ([2, 3], [2, 3]), ([4], [4]), ([5], [5]), ([], []), ([6, 7], [6, 7]), ([8], [8]), ([9], [9]), ([1, 10], [1, 10]), ([0, 1, 2, 3, 4, 5, 6, 7, 8, 9, 10, 11], []), ([12, 11, 11, 0, 1, 2, 3, 4, 5, 6, 7, 8, 9, 10, 11], [11, 12])])
def courierlaw05_Theirs.B14 : List Nat := [0, 1, 0, 0, 12, 28, 60, 0, 252, 508, 1020, 2047, 4095, 8191]
theorem courierlaw05_Theirs.tab14 : rtab .any (opsOf Tryd.f8 14) = courierlaw05_Theirs.T14 := by kernel_rfl
theorem courierlaw05_Theirs.bits14 : waitsOk courierlaw05_Theirs.T14.2 courierlaw05_Theirs.B14 = true := by kernel_rfl
def courierlaw05_Theirs.T19 : Bool × List (List Nat × List Nat) := (true, [([], []), ([0], [0]), ([], []), ([], []), ([2, 3], [2, 3]), ([4], [4]), ([5], [5]), ([], []), ([6, 7], [6, 7]), ([8], [8]), ([9], [9]), ([1, 10], [1, 10]), ([0, 1, 2, 3, 4, 5, 6, 7, 8, 9, 10, 11], []), ([12, 11, 11, 0, 1, 2, 3, 4, 5, 6, 7, 8, 9, 10, 11], [11, 12])])
def courierlaw05_Theirs.B19 : List Nat := [0, 1, 0, 0, 12, 28, 60, 0, 252, 508, 1020, 2047, 4095, 8191]
theorem courierlaw05_Theirs.tab19 : rtab .any (opsOf Tryd.f8 19) = courierlaw05_Theirs.T19 := by kernel_rfl
theorem courierlaw05_Theirs.bits19 : waitsOk courierlaw05_Theirs.T19.2 courierlaw05_Theirs.B19 = true := by kernel_rfl
set_option maxHeartbeats 8000000 in
set_option maxRecDepth 100000 in
theorem courierlaw05_Theirs.calls (k : Nat) : ∀ (A0 : Option Addr) (c0 : Nat) (l0 : List (S54)) (r : List (S47)) (w : World) (hr0 : Kd.C k54 w A0 l0.length l0) (hc0 : l0.length ≤ c0) (h : courierlaw05_Theirs.f k l0 = some r),
    Calls Tryd.prog 8 #[.slice A0 l0.length c0] w fun e w' => ∃ v0_ : Value, e = .returned (v0_) ∧ Kd.R k47 47 w' w.heap.size (fun _ => True) v0_ r ∧ Below w.heap.size w w' := by
  induction k using Nat.strongRecOn with
  | _ k ih =>
  intro A0 c0 l0 r w hr0 hc0 h
  cases k with
  | zero => exact absurd h (by simp [courierlaw05_Theirs.f])
  | succ k =>
  simp only [courierlaw05_Theirs.f] at h
  have hu42 := Tryd.underlying42
  have hu47 := Tryd.underlying47
  have hu57 := Tryd.underlying57
  have hu60 := Tryd.underlying60
  have hu63 := Tryd.underlying63
  have HR0 := Aside0.mk hr0
  have HC0 := Aside0.mk hc0
  clear hr0 hc0
  have HB := Aside0.mk (Below.refl w.heap.size w)
  have H : (courierlaw05_Theirs.l0 k l0 ([] : List (S47)) (l0.length : Int) 0) = some r := h
  clear h
  have H' := Aside0.mk H
  clear H
  go_enter Tryd.func8, Tryd.ntmps8
  go_wp2
  go_loopg [3, 11] k (fun kq v3 v11 w' => ∃ (x3_1 : List (S47)) (x11_1 : Int), v11 = .int .i64 x11_1 ∧ Aside0 (courierlaw05_Theirs.l0 kq l0 x3_1 (l0.length : Int) x11_1 = some r) ∧ Aside0 (kq ≤ k) ∧ Aside0 (Kd.R k47 47 w' w.heap.size (fun _ => True) v3 x3_1) ∧ Aside0 (Below w.heap.size w w'))
  case atStart => exact ⟨(([] : List (S47))), (0), (by first | rfl | (simp; done) | (simp [*]; done)), H', ⟨Nat.le_refl _⟩, ⟨by first | exact Kd.R_nil _ _ _ _ _ | exact Kd.N_nil _ _ _ _ _ | exact Kd.V_nil _ _ _ _ _ | exact Kd.Q_nil _ _ _ _ _ | exact Kd.S_nil _ _ _ _ _⟩, ⟨by repeat (first | (with_reducible first | exact HB.out | apply below_alloc | apply pw_below_drewN | apply below_drew1) | exact HB.out)⟩⟩
  case round =>
    clear H'
    obtain ⟨x3_1, x11_1, rfl, HA, HK1, HO_3, HB⟩ := hrel
    cases gk with
    | zero => exact absurd HA.out (by simp [courierlaw05_Theirs.l0])
    | succ k1 =>
      have H := HA.out
      clear HA
      simp only [courierlaw05_Theirs.l0] at H
      by_cases c2 : x11_1 < (l0.length : Int)
      · rw [if_pos c2] at H
        have c2b0 : decide (x11_1 < (l0.length : Int)) = true := decide_eq_true c2
        clear c2
        by_cases c3 : 0 ≤ x11_1
        · rw [if_pos c3] at H
          have c3b0 : decide (0 ≤ x11_1) = true := decide_eq_true c3
          clear c3
          by_cases c4 : x11_1 < (l0.length : Int)
          · rw [if_pos c4] at H
            have c4b0 : decide (x11_1 < (l0.length : Int)) = true := decide_eq_true c4
            clear c4
            replace H := Option.bind_eq_some_iff.mp H
            obtain ⟨t125, A50, H⟩ := H
            replace H : (courierlaw05_Theirs.l1 k1 l0 x3_1 x11_1 (l0.length : Int) x11_1 (((rd_T54 l0 x11_1).f3).length : Int) 0 ((rd_T54 l0 x11_1).f0) ((rd_T54 l0 x11_1).f1) ((rd_T54 l0 x11_1).f2.f0) ((rd_T54 l0 x11_1).f2.f1) ([] : List (S56)) t125) = some r := H
            have A5 := Aside0.mk A50
            clear A50
            have H' := Aside0.mk H
            clear H
            try go_wp2
            have n0_ := Aside0.mk (Kd.R_drew HO_3.out)
            have n1_ := Aside0.mk (below_drew1 HB.out)
            clear HO_3
            clear HB
            have HO_3 := n0_
            have HB := n1_
            clear n0_ n1_
            have p121 : 0 ≤ (x11_1 : Int) := of_decide_eq_true (by first | (with_reducible assumption) | assumption)
            have q121 : x11_1 < (l0.length : Int) := of_decide_eq_true (by first | (with_reducible assumption) | assumption)
            obtain ⟨ad121, A121_4, c121_4, A121_5, c121_5, A121_6, c121_6, A121_7, c121_7, e121, hx121_0, hx121_1, hx121_2, hx121_3, hx121_4, hx121_5, hx121_6, hx121_7, hl121_4, hi121_4, hl121_5, hi121_5, hl121_6, hi121_6, hl121_7, hi121_7⟩ := at_T54 HR0.out x11_1 p121 q121
            have hw121_7 := hx121_7
            have hw121_6 := hx121_6
            have hw121_5 := hx121_5
            have hw121_4 := hx121_4
            have hw121_3 := hx121_3
            have hw121_2 := hx121_2
            have hw121_1 := hx121_1
            have hw121_0 := hx121_0
            cases e121
            replace hx121_0 := (HB.out.cell (World.block_lt_of_cell? w _ hx121_0)).trans hx121_0
            replace hx121_1 := (HB.out.cell (World.block_lt_of_cell? w _ hx121_1)).trans hx121_1
            replace hx121_2 := (HB.out.cell (World.block_lt_of_cell? w _ hx121_2)).trans hx121_2
            replace hx121_3 := (HB.out.cell (World.block_lt_of_cell? w _ hx121_3)).trans hx121_3
            replace hx121_4 := (HB.out.cell (World.block_lt_of_cell? w _ hx121_4)).trans hx121_4
            replace hx121_5 := (HB.out.cell (World.block_lt_of_cell? w _ hx121_5)).trans hx121_5
            replace hx121_6 := (HB.out.cell (World.block_lt_of_cell? w _ hx121_6)).trans hx121_6
            replace hx121_7 := (HB.out.cell (World.block_lt_of_cell? w _ hx121_7)).trans hx121_7
            have HR121_4 := Aside0.mk hi121_4
            have HC121_4 := Aside0.mk hl121_4
            clear hi121_4 hl121_4
            have HR121_5 := Aside0.mk hi121_5
            have HC121_5 := Aside0.mk hl121_5
            clear hi121_5 hl121_5
            have HR121_6 := Aside0.mk hi121_6
            have HC121_6 := Aside0.mk hl121_6
            clear hi121_6 hl121_6
            have HR121_7 := Aside0.mk hi121_7
            have HC121_7 := Aside0.mk hl121_7
            clear hi121_7 hl121_7
            replace p121 := eq_true p121
            replace q121 := eq_true q121
            have p122 : 0 ≤ (x11_1 : Int) := of_decide_eq_true (by first | (with_reducible assumption) | assumption)
            have q122 : x11_1 < (l0.length : Int) := of_decide_eq_true (by first | (with_reducible assumption) | assumption)
            obtain ⟨ad122, A122_4, c122_4, A122_5, c122_5, A122_6, c122_6, A122_7, c122_7, e122, hx122_0, hx122_1, hx122_2, hx122_3, hx122_4, hx122_5, hx122_6, hx122_7, hl122_4, hi122_4, hl122_5, hi122_5, hl122_6, hi122_6, hl122_7, hi122_7⟩ := at_T54 HR0.out x11_1 p122 q122
            have hw122_7 := hx122_7
            have hw122_6 := hx122_6
            have hw122_5 := hx122_5
            have hw122_4 := hx122_4
            have hw122_3 := hx122_3
            have hw122_2 := hx122_2
            have hw122_1 := hx122_1
            have hw122_0 := hx122_0
            obtain rfl : ad121 = ad122 := (by injection e122)
            replace hx122_0 := (HB.out.cell (World.block_lt_of_cell? w _ hx122_0)).trans hx122_0
            replace hx122_1 := (HB.out.cell (World.block_lt_of_cell? w _ hx122_1)).trans hx122_1
            replace hx122_2 := (HB.out.cell (World.block_lt_of_cell? w _ hx122_2)).trans hx122_2
            replace hx122_3 := (HB.out.cell (World.block_lt_of_cell? w _ hx122_3)).trans hx122_3
            replace hx122_4 := (HB.out.cell (World.block_lt_of_cell? w _ hx122_4)).trans hx122_4
            replace hx122_5 := (HB.out.cell (World.block_lt_of_cell? w _ hx122_5)).trans hx122_5
            replace hx122_6 := (HB.out.cell (World.block_lt_of_cell? w _ hx122_6)).trans hx122_6
            replace hx122_7 := (HB.out.cell (World.block_lt_of_cell? w _ hx122_7)).trans hx122_7
            have HR122_4 := Aside0.mk hi122_4
            have HC122_4 := Aside0.mk hl122_4
            clear hi122_4 hl122_4
            have HR122_5 := Aside0.mk hi122_5
            have HC122_5 := Aside0.mk hl122_5
            clear hi122_5 hl122_5
            have HR122_6 := Aside0.mk hi122_6
            have HC122_6 := Aside0.mk hl122_6
            clear hi122_6 hl122_6
            have HR122_7 := Aside0.mk hi122_7
            have HC122_7 := Aside0.mk hl122_7
            clear hi122_7 hl122_7
            replace p122 := eq_true p122
            replace q122 := eq_true q122
            have ea_ := Option.some.inj (hx121_4.symm.trans hx122_4)
            injection ea_ with ea_ en_ ec_
            subst ea_
            subst ec_
            clear en_
            have ea_ := Option.some.inj (hx121_5.symm.trans hx122_5)
            injection ea_ with ea_ en_ ec_
            subst ea_
            subst ec_
            clear en_
            have ea_ := Option.some.inj (hx121_6.symm.trans hx122_6)
            injection ea_ with ea_ en_ ec_
            subst ea_
            subst ec_
            clear en_
            have ea_ := Option.some.inj (hx121_7.symm.trans hx122_7)
            injection ea_ with ea_ en_ ec_
            subst ea_
            subst ec_
            clear en_
            have p123 : 0 ≤ (x11_1 : Int) := of_decide_eq_true (by first | (with_reducible assumption) | assumption)
            have q123 : x11_1 < (l0.length : Int) := of_decide_eq_true (by first | (with_reducible assumption) | assumption)
            obtain ⟨ad123, A123_4, c123_4, A123_5, c123_5, A123_6, c123_6, A123_7, c123_7, e123, hx123_0, hx123_1, hx123_2, hx123_3, hx123_4, hx123_5, hx123_6, hx123_7, hl123_4, hi123_4, hl123_5, hi123_5, hl123_6, hi123_6, hl123_7, hi123_7⟩ := at_T54 HR0.out x11_1 p123 q123
            have hw123_7 := hx123_7
            have hw123_6 := hx123_6
            have hw123_5 := hx123_5
            have hw123_4 := hx123_4
            have hw123_3 := hx123_3
            have hw123_2 := hx123_2
            have hw123_1 := hx123_1
            have hw123_0 := hx123_0
            obtain rfl : ad121 = ad123 := (by injection e123)
            replace hx123_0 := (HB.out.cell (World.block_lt_of_cell? w _ hx123_0)).trans hx123_0
            replace hx123_1 := (HB.out.cell (World.block_lt_of_cell? w _ hx123_1)).trans hx123_1
            replace hx123_2 := (HB.out.cell (World.block_lt_of_cell? w _ hx123_2)).trans hx123_2
            replace hx123_3 := (HB.out.cell (World.block_lt_of_cell? w _ hx123_3)).trans hx123_3
            replace hx123_4 := (HB.out.cell (World.block_lt_of_cell? w _ hx123_4)).trans hx123_4
            replace hx123_5 := (HB.out.cell (World.block_lt_of_cell? w _ hx123_5)).trans hx123_5
            replace hx123_6 := (HB.out.cell (World.block_lt_of_cell? w _ hx123_6)).trans hx123_6
            replace hx123_7 := (HB.out.cell (World.block_lt_of_cell? w _ hx123_7)).trans hx123_7
            have HR123_4 := Aside0.mk hi123_4
            have HC123_4 := Aside0.mk hl123_4
            clear hi123_4 hl123_4
            have HR123_5 := Aside0.mk hi123_5
            have HC123_5 := Aside0.mk hl123_5
            clear hi123_5 hl123_5
            have HR123_6 := Aside0.mk hi123_6
            have HC123_6 := Aside0.mk hl123_6
            clear hi123_6 hl123_6
            have HR123_7 := Aside0.mk hi123_7
            have HC123_7 := Aside0.mk hl123_7
            clear hi123_7 hl123_7
            replace p123 := eq_true p123
            replace q123 := eq_true q123
            have ea_ := Option.some.inj (hx121_4.symm.trans hx123_4)
            injection ea_ with ea_ en_ ec_
            subst ea_
            subst ec_
            clear en_
            have ea_ := Option.some.inj (hx121_5.symm.trans hx123_5)
            injection ea_ with ea_ en_ ec_
            subst ea_
            subst ec_
            clear en_
            have ea_ := Option.some.inj (hx121_6.symm.trans hx123_6)
            injection ea_ with ea_ en_ ec_
            subst ea_
            subst ec_
            clear en_
            have ea_ := Option.some.inj (hx121_7.symm.trans hx123_7)
            injection ea_ with ea_ en_ ec_
            subst ea_
            subst ec_
            clear en_
            have p124 : 0 ≤ (x11_1 : Int) := of_decide_eq_true (by first | (with_reducible assumption) | assumption)
            have q124 : x11_1 < (l0.length : Int) := of_decide_eq_true (by first | (with_reducible assumption) | assumption)
            obtain ⟨ad124, A124_4, c124_4, A124_5, c124_5, A124_6, c124_6, A124_7, c124_7, e124, hx124_0, hx124_1, hx124_2, hx124_3, hx124_4, hx124_5, hx124_6, hx124_7, hl124_4, hi124_4, hl124_5, hi124_5, hl124_6, hi124_6, hl124_7, hi124_7⟩ := at_T54 HR0.out x11_1 p124 q124
            have hw124_7 := hx124_7
            have hw124_6 := hx124_6
            have hw124_5 := hx124_5
            have hw124_4 := hx124_4
            have hw124_3 := hx124_3
            have hw124_2 := hx124_2
            have hw124_1 := hx124_1
            have hw124_0 := hx124_0
            obtain rfl : ad121 = ad124 := (by injection e124)
            replace hx124_0 := (HB.out.cell (World.block_lt_of_cell? w _ hx124_0)).trans hx124_0
            replace hx124_1 := (HB.out.cell (World.block_lt_of_cell? w _ hx124_1)).trans hx124_1
            replace hx124_2 := (HB.out.cell (World.block_lt_of_cell? w _ hx124_2)).trans hx124_2
            replace hx124_3 := (HB.out.cell (World.block_lt_of_cell? w _ hx124_3)).trans hx124_3
            replace hx124_4 := (HB.out.cell (World.block_lt_of_cell? w _ hx124_4)).trans hx124_4
            replace hx124_5 := (HB.out.cell (World.block_lt_of_cell? w _ hx124_5)).trans hx124_5
            replace hx124_6 := (HB.out.cell (World.block_lt_of_cell? w _ hx124_6)).trans hx124_6
            replace hx124_7 := (HB.out.cell (World.block_lt_of_cell? w _ hx124_7)).trans hx124_7
            have HR124_4 := Aside0.mk hi124_4
            have HC124_4 := Aside0.mk hl124_4
            clear hi124_4 hl124_4
            have HR124_5 := Aside0.mk hi124_5
            have HC124_5 := Aside0.mk hl124_5
            clear hi124_5 hl124_5
            have HR124_6 := Aside0.mk hi124_6
            have HC124_6 := Aside0.mk hl124_6
            clear hi124_6 hl124_6
            have HR124_7 := Aside0.mk hi124_7
            have HC124_7 := Aside0.mk hl124_7
            clear hi124_7 hl124_7
            replace p124 := eq_true p124
            replace q124 := eq_true q124
            have ea_ := Option.some.inj (hx121_4.symm.trans hx124_4)
            injection ea_ with ea_ en_ ec_
            subst ea_
            subst ec_
            clear en_
            have ea_ := Option.some.inj (hx121_5.symm.trans hx124_5)
            injection ea_ with ea_ en_ ec_
            subst ea_
            subst ec_
            clear en_
            have ea_ := Option.some.inj (hx121_6.symm.trans hx124_6)
            injection ea_ with ea_ en_ ec_
            subst ea_
            subst ec_
            clear en_
            have ea_ := Option.some.inj (hx121_7.symm.trans hx124_7)
            injection ea_ with ea_ en_ ec_
            subst ea_
            subst ec_
            clear en_
            refine start_ (n := 24) (S := fun w' => w'.cell? (ad121.add ((x11_1).toNat * 8)) = some (.int .i64 ((rd_T54 l0 x11_1).f0)) ∧ w'.cell? ⟨(ad121.add ((x11_1).toNat * 8)).block, (ad121.add ((x11_1).toNat * 8)).off + 1, none⟩ = some (.string ((rd_T54 l0 x11_1).f1)) ∧ w'.cell? ⟨(ad121.add ((x11_1).toNat * 8)).block, (ad121.add ((x11_1).toNat * 8)).off + 2, none⟩ = some (.int .i64 ((rd_T54 l0 x11_1).f2.f0)) ∧ w'.cell? ⟨(ad121.add ((x11_1).toNat * 8)).block, (ad121.add ((x11_1).toNat * 8)).off + 3, none⟩ = some (.int .i64 ((rd_T54 l0 x11_1).f2.f1)) ∧ w'.cell? ⟨(ad121.add ((x11_1).toNat * 8)).block, (ad121.add ((x11_1).toNat * 8)).off + 4, none⟩ = some (.slice A121_4 ((rd_T54 l0 x11_1).f3).length c121_4) ∧ w'.cell? ⟨(ad121.add ((x11_1).toNat * 8)).block, (ad121.add ((x11_1).toNat * 8)).off + 5, none⟩ = some (.slice A121_5 ((rd_T54 l0 x11_1).f4).length c121_5) ∧ w'.cell? ⟨(ad121.add ((x11_1).toNat * 8)).block, (ad121.add ((x11_1).toNat * 8)).off + 6, none⟩ = some (.slice A121_6 ((rd_T54 l0 x11_1).f5).length c121_6) ∧ w'.cell? ⟨(ad121.add ((x11_1).toNat * 8)).block, (ad121.add ((x11_1).toNat * 8)).off + 7, none⟩ = some (.slice A121_7 ((rd_T54 l0 x11_1).f6).length c121_7) ∧ w'.cell? (ad121.add ((x11_1).toNat * 8)) = some (.int .i64 ((rd_T54 l0 x11_1).f0)) ∧ w'.cell? ⟨(ad121.add ((x11_1).toNat * 8)).block, (ad121.add ((x11_1).toNat * 8)).off + 1, none⟩ = some (.string ((rd_T54 l0 x11_1).f1)) ∧ w'.cell? ⟨(ad121.add ((x11_1).toNat * 8)).block, (ad121.add ((x11_1).toNat * 8)).off + 2, none⟩ = some (.int .i64 ((rd_T54 l0 x11_1).f2.f0)) ∧ w'.cell? ⟨(ad121.add ((x11_1).toNat * 8)).block, (ad121.add ((x11_1).toNat * 8)).off + 3, none⟩ = some (.int .i64 ((rd_T54 l0 x11_1).f2.f1)) ∧ w'.cell? ⟨(ad121.add ((x11_1).toNat * 8)).block, (ad121.add ((x11_1).toNat * 8)).off + 4, none⟩ = some (.slice A121_4 ((rd_T54 l0 x11_1).f3).length c121_4) ∧ w'.cell? ⟨(ad121.add ((x11_1).toNat * 8)).block, (ad121.add ((x11_1).toNat * 8)).off + 5, none⟩ = some (.slice A121_5 ((rd_T54 l0 x11_1).f4).length c121_5) ∧ w'.cell? ⟨(ad121.add ((x11_1).toNat * 8)).block, (ad121.add ((x11_1).toNat * 8)).off + 6, none⟩ = some (.slice A121_6 ((rd_T54 l0 x11_1).f5).length c121_6) ∧ w'.cell? ⟨(ad121.add ((x11_1).toNat * 8)).block, (ad121.add ((x11_1).toNat * 8)).off + 7, none⟩ = some (.slice A121_7 ((rd_T54 l0 x11_1).f6).length c121_7) ∧ w'.cell? (ad121.add ((x11_1).toNat * 8)) = some (.int .i64 ((rd_T54 l0 x11_1).f0)) ∧ w'.cell? ⟨(ad121.add ((x11_1).toNat * 8)).block, (ad121.add ((x11_1).toNat * 8)).off + 1, none⟩ = some (.string ((rd_T54 l0 x11_1).f1)) ∧ w'.cell? ⟨(ad121.add ((x11_1).toNat * 8)).block, (ad121.add ((x11_1).toNat * 8)).off + 2, none⟩ = some (.int .i64 ((rd_T54 l0 x11_1).f2.f0)) ∧ w'.cell? ⟨(ad121.add ((x11_1).toNat * 8)).block, (ad121.add ((x11_1).toNat * 8)).off + 3, none⟩ = some (.int .i64 ((rd_T54 l0 x11_1).f2.f1)) ∧ w'.cell? ⟨(ad121.add ((x11_1).toNat * 8)).block, (ad121.add ((x11_1).toNat * 8)).off + 4, none⟩ = some (.slice A121_4 ((rd_T54 l0 x11_1).f3).length c121_4) ∧ w'.cell? ⟨(ad121.add ((x11_1).toNat * 8)).block, (ad121.add ((x11_1).toNat * 8)).off + 5, none⟩ = some (.slice A121_5 ((rd_T54 l0 x11_1).f4).length c121_5) ∧ w'.cell? ⟨(ad121.add ((x11_1).toNat * 8)).block, (ad121.add ((x11_1).toNat * 8)).off + 6, none⟩ = some (.slice A121_6 ((rd_T54 l0 x11_1).f5).length c121_6) ∧ w'.cell? ⟨(ad121.add ((x11_1).toNat * 8)).block, (ad121.add ((x11_1).toNat * 8)).off + 7, none⟩ = some (.slice A121_7 ((rd_T54 l0 x11_1).f6).length c121_7) ∧ w'.cell? (ad121.add ((x11_1).toNat * 8)) = some (.int .i64 ((rd_T54 l0 x11_1).f0)) ∧ w'.cell? ⟨(ad121.add ((x11_1).toNat * 8)).block, (ad121.add ((x11_1).toNat * 8)).off + 1, none⟩ = some (.string ((rd_T54 l0 x11_1).f1)) ∧ w'.cell? ⟨(ad121.add ((x11_1).toNat * 8)).block, (ad121.add ((x11_1).toNat * 8)).off + 2, none⟩ = some (.int .i64 ((rd_T54 l0 x11_1).f2.f0)) ∧ w'.cell? ⟨(ad121.add ((x11_1).toNat * 8)).block, (ad121.add ((x11_1).toNat * 8)).off + 3, none⟩ = some (.int .i64 ((rd_T54 l0 x11_1).f2.f1)) ∧ w'.cell? ⟨(ad121.add ((x11_1).toNat * 8)).block, (ad121.add ((x11_1).toNat * 8)).off + 4, none⟩ = some (.slice A121_4 ((rd_T54 l0 x11_1).f3).length c121_4) ∧ w'.cell? ⟨(ad121.add ((x11_1).toNat * 8)).block, (ad121.add ((x11_1).toNat * 8)).off + 5, none⟩ = some (.slice A121_5 ((rd_T54 l0 x11_1).f4).length c121_5) ∧ w'.cell? ⟨(ad121.add ((x11_1).toNat * 8)).block, (ad121.add ((x11_1).toNat * 8)).off + 6, none⟩ = some (.slice A121_6 ((rd_T54 l0 x11_1).f5).length c121_6) ∧ w'.cell? ⟨(ad121.add ((x11_1).toNat * 8)).block, (ad121.add ((x11_1).toNat * 8)).off + 7, none⟩ = some (.slice A121_7 ((rd_T54 l0 x11_1).f6).length c121_7)) (ds := []) #[false, false, false, false, false, false, false, false, false, false, false, false, false, false, false, false, false, false, false, false, false, false, false, false] (by kernel_rfl) rfl rfl ⟨((HB.out.cell (World.block_lt_of_cell? w _ hw121_0)).trans hw121_0), ((HB.out.cell (World.block_lt_of_cell? w _ hw121_1)).trans hw121_1), ((HB.out.cell (World.block_lt_of_cell? w _ hw121_2)).trans hw121_2), ((HB.out.cell (World.block_lt_of_cell? w _ hw121_3)).trans hw121_3), ((HB.out.cell (World.block_lt_of_cell? w _ hw121_4)).trans hw121_4), ((HB.out.cell (World.block_lt_of_cell? w _ hw121_5)).trans hw121_5), ((HB.out.cell (World.block_lt_of_cell? w _ hw121_6)).trans hw121_6), ((HB.out.cell (World.block_lt_of_cell? w _ hw121_7)).trans hw121_7), ((HB.out.cell (World.block_lt_of_cell? w _ hw122_0)).trans hw122_0), ((HB.out.cell (World.block_lt_of_cell? w _ hw122_1)).trans hw122_1), ((HB.out.cell (World.block_lt_of_cell? w _ hw122_2)).trans hw122_2), ((HB.out.cell (World.block_lt_of_cell? w _ hw122_3)).trans hw122_3), ((HB.out.cell (World.block_lt_of_cell? w _ hw122_4)).trans hw122_4), ((HB.out.cell (World.block_lt_of_cell? w _ hw122_5)).trans hw122_5), ((HB.out.cell (World.block_lt_of_cell? w _ hw122_6)).trans hw122_6), ((HB.out.cell (World.block_lt_of_cell? w _ hw122_7)).trans hw122_7), ((HB.out.cell (World.block_lt_of_cell? w _ hw123_0)).trans hw123_0), ((HB.out.cell (World.block_lt_of_cell? w _ hw123_1)).trans hw123_1), ((HB.out.cell (World.block_lt_of_cell? w _ hw123_2)).trans hw123_2), ((HB.out.cell (World.block_lt_of_cell? w _ hw123_3)).trans hw123_3), ((HB.out.cell (World.block_lt_of_cell? w _ hw123_4)).trans hw123_4), ((HB.out.cell (World.block_lt_of_cell? w _ hw123_5)).trans hw123_5), ((HB.out.cell (World.block_lt_of_cell? w _ hw123_6)).trans hw123_6), ((HB.out.cell (World.block_lt_of_cell? w _ hw123_7)).trans hw123_7), ((HB.out.cell (World.block_lt_of_cell? w _ hw124_0)).trans hw124_0), ((HB.out.cell (World.block_lt_of_cell? w _ hw124_1)).trans hw124_1), ((HB.out.cell (World.block_lt_of_cell? w _ hw124_2)).trans hw124_2), ((HB.out.cell (World.block_lt_of_cell? w _ hw124_3)).trans hw124_3), ((HB.out.cell (World.block_lt_of_cell? w _ hw124_4)).trans hw124_4), ((HB.out.cell (World.block_lt_of_cell? w _ hw124_5)).trans hw124_5), ((HB.out.cell (World.block_lt_of_cell? w _ hw124_6)).trans hw124_6), ((HB.out.cell (World.block_lt_of_cell? w _ hw124_7)).trans hw124_7)⟩ (fun hHeld => ?_); refine with_tabW courierlaw05_Theirs.tab5 courierlaw05_Theirs.bits5 (fun HT_ HW_ => ?_)
            generalize wr.drew = w6 at HO_3 HB HR121_4 HR121_5 HR121_6 HR121_7 HR122_4 HR122_5 HR122_6 HR122_7 HR123_4 HR123_5 HR123_6 HR123_7 HR124_4 HR124_5 HR124_6 HR124_7 hx121_0 hx121_1 hx121_2 hx121_3 hx121_4 hx121_5 hx121_6 hx121_7 hx122_0 hx122_1 hx122_2 hx122_3 hx122_4 hx122_5 hx122_6 hx122_7 hx123_0 hx123_1 hx123_2 hx123_3 hx123_4 hx123_5 hx123_6 hx123_7 hx124_0 hx124_1 hx124_2 hx124_3 hx124_4 hx124_5 hx124_6 hx124_7 hHeld ⊢
            refine pure_ (i := 0) (N := some 14) (v := ?_) (a' := ?_) #[true, false, false, false, false, false, false, false, false, false, false, false, false, false, false, false, false, false, false, false, false, false, false, false] rfl rfl (any_of HT_.out (by kernel_rfl)) (fun _ _ _ h => h) (Or.inl ⟨by rfl, ?_⟩) ?_ ?_
            rotate_left
            · intro w'
              go_simp
              with_reducible rfl
            rotate_left
            · simp only [Act.put, List.setIfInBounds_toArray, List.set_cons_zero, List.set_cons_succ, i64_w, i32_w]
              rfl
            refine pure_ (i := 1) (N := some 15) (v := ?_) (a' := ?_) #[true, true, false, false, false, false, false, false, false, false, false, false, false, false, false, false, false, false, false, false, false, false, false, false] rfl rfl (any_of HT_.out (by kernel_rfl)) (fun _ _ _ h => h) (Or.inl ⟨by rfl, ?_⟩) ?_ ?_
            rotate_left
            · intro w'
              go_simp
              with_reducible rfl
            rotate_left
            · simp only [Act.put, List.setIfInBounds_toArray, List.set_cons_zero, List.set_cons_succ, i64_w, i32_w]
              rfl
            refine pure_ (i := 2) (N := some 16) (v := ?_) (a' := ?_) #[true, true, true, false, false, false, false, false, false, false, false, false, false, false, false, false, false, false, false, false, false, false, false, false] rfl rfl (any_of HT_.out (by kernel_rfl)) (fun _ _ _ h => h) (Or.inl ⟨by rfl, ?_⟩) ?_ ?_
            rotate_left
            · intro w'
              go_simp
              with_reducible rfl
            rotate_left
            · simp only [Act.put, List.setIfInBounds_toArray, List.set_cons_zero, List.set_cons_succ, i64_w, i32_w]
              rfl
            refine pure_ (i := 3) (N := some 17) (v := ?_) (a' := ?_) #[true, true, true, true, false, false, false, false, false, false, false, false, false, false, false, false, false, false, false, false, false, false, false, false] rfl rfl (any_of HT_.out (by kernel_rfl)) (fun _ _ _ h => h) (Or.inl ⟨by rfl, ?_⟩) ?_ ?_
            rotate_left
            · intro w'
              go_simp
              with_reducible rfl
            rotate_left
            · simp only [Act.put, List.setIfInBounds_toArray, List.set_cons_zero, List.set_cons_succ, i64_w, i32_w]
              rfl
            refine pure_ (i := 5) (N := some 19) (v := ?_) (a' := ?_) #[true, true, true, true, false, true, false, false, false, false, false, false, false, false, false, false, false, false, false, false, false, false, false, false] rfl rfl (any_of HT_.out (by kernel_rfl)) (fun _ _ _ h => h) (Or.inl ⟨by rfl, ?_⟩) ?_ ?_
            rotate_left
            · intro w'
              go_simp
              with_reducible rfl
            rotate_left
            · simp only [Act.put, List.setIfInBounds_toArray, List.set_cons_zero, List.set_cons_succ, i64_w, i32_w]
              rfl
            refine pure_ (i := 6) (N := some 20) (v := ?_) (a' := ?_) #[true, true, true, true, false, true, true, false, false, false, false, false, false, false, false, false, false, false, false, false, false, false, false, false] rfl rfl (any_of HT_.out (by kernel_rfl)) (fun _ _ _ h => h) (Or.inl ⟨by rfl, ?_⟩) ?_ ?_
            rotate_left
            · intro w'
              go_simp
              with_reducible rfl
            rotate_left
            · simp only [Act.put, List.setIfInBounds_toArray, List.set_cons_zero, List.set_cons_succ, i64_w, i32_w]
              rfl
            refine pure_ (i := 7) (N := some 21) (v := ?_) (a' := ?_) #[true, true, true, true, false, true, true, true, false, false, false, false, false, false, false, false, false, false, false, false, false, false, false, false] rfl rfl (any_of HT_.out (by kernel_rfl)) (fun _ _ _ h => h) (Or.inl ⟨by rfl, ?_⟩) ?_ ?_
            rotate_left
            · intro w'
              go_simp
              with_reducible rfl
            rotate_left
            · simp only [Act.put, List.setIfInBounds_toArray, List.set_cons_zero, List.set_cons_succ, i64_w, i32_w]
              rfl
            refine pure_ (i := 8) (N := some 22) (v := ?_) (a' := ?_) #[true, true, true, true, false, true, true, true, true, false, false, false, false, false, false, false, false, false, false, false, false, false, false, false] rfl rfl (any_of HT_.out (by kernel_rfl)) (fun _ _ _ h => h) (Or.inl ⟨by rfl, ?_⟩) ?_ ?_
            rotate_left
            · intro w'
              go_simp
              with_reducible rfl
            rotate_left
            · simp only [Act.put, List.setIfInBounds_toArray, List.set_cons_zero, List.set_cons_succ, i64_w, i32_w]
              rfl
            refine pure_ (i := 10) (N := some 24) (v := ?_) (a' := ?_) #[true, true, true, true, false, true, true, true, true, false, true, false, false, false, false, false, false, false, false, false, false, false, false, false] rfl rfl (any_of HT_.out (by kernel_rfl)) (fun _ _ _ h => h) (Or.inl ⟨by rfl, ?_⟩) ?_ ?_
            rotate_left
            · intro w'
              go_simp
              with_reducible rfl
            rotate_left
            · simp only [Act.put, List.setIfInBounds_toArray, List.set_cons_zero, List.set_cons_succ, i64_w, i32_w]
              rfl
            refine pure_ (i := 11) (N := some 25) (v := ?_) (a' := ?_) #[true, true, true, true, false, true, true, true, true, false, true, true, false, false, false, false, false, false, false, false, false, false, false, false] rfl rfl (any_of HT_.out (by kernel_rfl)) (fun _ _ _ h => h) (Or.inl ⟨by rfl, ?_⟩) ?_ ?_
            rotate_left
            · intro w'
              go_simp
              with_reducible rfl
            rotate_left
            · simp only [Act.put, List.setIfInBounds_toArray, List.set_cons_zero, List.set_cons_succ, i64_w, i32_w]
              rfl
            refine pure_ (i := 12) (N := some 26) (v := ?_) (a' := ?_) #[true, true, true, true, false, true, true, true, true, false, true, true, true, false, false, false, false, false, false, false, false, false, false, false] rfl rfl (any_of HT_.out (by kernel_rfl)) (fun _ _ _ h => h) (Or.inl ⟨by rfl, ?_⟩) ?_ ?_
            rotate_left
            · intro w'
              go_simp
              with_reducible rfl
            rotate_left
            · simp only [Act.put, List.setIfInBounds_toArray, List.set_cons_zero, List.set_cons_succ, i64_w, i32_w]
              rfl
            refine pure_ (i := 13) (N := some 27) (v := ?_) (a' := ?_) #[true, true, true, true, false, true, true, true, true, false, true, true, true, true, false, false, false, false, false, false, false, false, false, false] rfl rfl (any_of HT_.out (by kernel_rfl)) (fun _ _ _ h => h) (Or.inl ⟨by rfl, ?_⟩) ?_ ?_
            rotate_left
            · intro w'
              go_simp
              with_reducible rfl
            rotate_left
            · simp only [Act.put, List.setIfInBounds_toArray, List.set_cons_zero, List.set_cons_succ, i64_w, i32_w]
              rfl
            refine pure_ (i := 15) (N := some 29) (v := ?_) (a' := ?_) #[true, true, true, true, false, true, true, true, true, false, true, true, true, true, false, true, false, false, false, false, false, false, false, false] rfl rfl (any_of HT_.out (by kernel_rfl)) (fun _ _ _ h => h) (Or.inl ⟨by rfl, ?_⟩) ?_ ?_
            rotate_left
            · intro w'
              go_simp
              with_reducible rfl
            rotate_left
            · simp only [Act.put, List.setIfInBounds_toArray, List.set_cons_zero, List.set_cons_succ, i64_w, i32_w]
              rfl
            refine pure_ (i := 16) (N := some 30) (v := ?_) (a' := ?_) #[true, true, true, true, false, true, true, true, true, false, true, true, true, true, false, true, true, false, false, false, false, false, false, false] rfl rfl (any_of HT_.out (by kernel_rfl)) (fun _ _ _ h => h) (Or.inl ⟨by rfl, ?_⟩) ?_ ?_
            rotate_left
            · intro w'
              go_simp
              with_reducible rfl
            rotate_left
            · simp only [Act.put, List.setIfInBounds_toArray, List.set_cons_zero, List.set_cons_succ, i64_w, i32_w]
              rfl
            refine pure_ (i := 17) (N := some 31) (v := ?_) (a' := ?_) #[true, true, true, true, false, true, true, true, true, false, true, true, true, true, false, true, true, true, false, false, false, false, false, false] rfl rfl (any_of HT_.out (by kernel_rfl)) (fun _ _ _ h => h) (Or.inl ⟨by rfl, ?_⟩) ?_ ?_
            rotate_left
            · intro w'
              go_simp
              with_reducible rfl
            rotate_left
            · simp only [Act.put, List.setIfInBounds_toArray, List.set_cons_zero, List.set_cons_succ, i64_w, i32_w]
              rfl
            refine pure_ (i := 18) (N := some 32) (v := ?_) (a' := ?_) #[true, true, true, true, false, true, true, true, true, false, true, true, true, true, false, true, true, true, true, false, false, false, false, false] rfl rfl (any_of HT_.out (by kernel_rfl)) (fun _ _ _ h => h) (Or.inl ⟨by rfl, ?_⟩) ?_ ?_
            rotate_left
            · intro w'
              go_simp
              with_reducible rfl
            rotate_left
            · simp only [Act.put, List.setIfInBounds_toArray, List.set_cons_zero, List.set_cons_succ, i64_w, i32_w]
              rfl
            refine take_ (i := 4) (N := some 18) (v := ?_) (a' := ?_) #[true, true, true, true, true, true, true, true, true, false, true, true, true, true, false, true, true, true, true, false, false, false, false, false] rfl rfl (take_ofW HT_.out HW_.out (by kernel_rfl)) (fun _ _ _ h => h) (Or.inl ⟨by rfl, ?_⟩) hHeld ?_ ?_
            rotate_left
            · rintro w' ⟨s0, s1, s2, s3, s4, s5, s6, s7, s8, s9, s10, s11, s12, s13, s14, s15, s16, s17, s18, s19, s20, s21, s22, s23, s24, s25, s26, s27, s28, s29, s30, s31⟩
              go_simp
              with_reducible rfl
            rotate_left
            · simp only [Act.put, List.setIfInBounds_toArray, List.set_cons_zero, List.set_cons_succ, i64_w, i32_w]
              rfl
            refine take_ (i := 9) (N := some 23) (v := ?_) (a' := ?_) #[true, true, true, true, true, true, true, true, true, true, true, true, true, true, false, true, true, true, true, false, false, false, false, false] rfl rfl (take_ofW HT_.out HW_.out (by kernel_rfl)) (fun _ _ _ h => h) (Or.inl ⟨by rfl, ?_⟩) hHeld ?_ ?_
            rotate_left
            · rintro w' ⟨s0, s1, s2, s3, s4, s5, s6, s7, s8, s9, s10, s11, s12, s13, s14, s15, s16, s17, s18, s19, s20, s21, s22, s23, s24, s25, s26, s27, s28, s29, s30, s31⟩
              go_simp
              with_reducible rfl
            rotate_left
            · simp only [Act.put, List.setIfInBounds_toArray, List.set_cons_zero, List.set_cons_succ, i64_w, i32_w]
              rfl
            refine take_ (i := 14) (N := some 28) (v := ?_) (a' := ?_) #[true, true, true, true, true, true, true, true, true, true, true, true, true, true, true, true, true, true, true, false, false, false, false, false] rfl rfl (take_ofW HT_.out HW_.out (by kernel_rfl)) (fun _ _ _ h => h) (Or.inl ⟨by rfl, ?_⟩) hHeld ?_ ?_
            rotate_left
            · rintro w' ⟨s0, s1, s2, s3, s4, s5, s6, s7, s8, s9, s10, s11, s12, s13, s14, s15, s16, s17, s18, s19, s20, s21, s22, s23, s24, s25, s26, s27, s28, s29, s30, s31⟩
              go_simp
              with_reducible rfl
            rotate_left
            · simp only [Act.put, List.setIfInBounds_toArray, List.set_cons_zero, List.set_cons_succ, i64_w, i32_w]
              rfl
            refine take_ (i := 19) (N := some 33) (v := ?_) (a' := ?_) #[true, true, true, true, true, true, true, true, true, true, true, true, true, true, true, true, true, true, true, true, false, false, false, false] rfl rfl (take_ofW HT_.out HW_.out (by kernel_rfl)) (fun _ _ _ h => h) (Or.inl ⟨by rfl, ?_⟩) hHeld ?_ ?_
            rotate_left
            · rintro w' ⟨s0, s1, s2, s3, s4, s5, s6, s7, s8, s9, s10, s11, s12, s13, s14, s15, s16, s17, s18, s19, s20, s21, s22, s23, s24, s25, s26, s27, s28, s29, s30, s31⟩
              go_simp
              with_reducible rfl
            rotate_left
            · simp only [Act.put, List.setIfInBounds_toArray, List.set_cons_zero, List.set_cons_succ, i64_w, i32_w]
              rfl
            refine join_ (σ := Value × Nat) 1 #[true, true, true, true, true, true, true, true, true, true, true, true, true, true, true, true, true, true, true, true, true, true, true, false] (fun s_ => [(34, s_.1), (5, .pointer (some ⟨s_.2, 0, none⟩)), (35, .agg #[.int .i64 ((rd_T54 l0 x11_1).f0), .string ((rd_T54 l0 x11_1).f1), .int .i64 ((rd_T54 l0 x11_1).f2.f0), .int .i64 ((rd_T54 l0 x11_1).f2.f1), .slice none 0 0, .slice none 0 0, .slice none 0 0, s_.1])]) (fun s_ w' => (w'.cell? (ad121.add ((x11_1).toNat * 8)) = some (.int .i64 ((rd_T54 l0 x11_1).f0)) ∧ w'.cell? ⟨(ad121.add ((x11_1).toNat * 8)).block, (ad121.add ((x11_1).toNat * 8)).off + 1, none⟩ = some (.string ((rd_T54 l0 x11_1).f1)) ∧ w'.cell? ⟨(ad121.add ((x11_1).toNat * 8)).block, (ad121.add ((x11_1).toNat * 8)).off + 2, none⟩ = some (.int .i64 ((rd_T54 l0 x11_1).f2.f0)) ∧ w'.cell? ⟨(ad121.add ((x11_1).toNat * 8)).block, (ad121.add ((x11_1).toNat * 8)).off + 3, none⟩ = some (.int .i64 ((rd_T54 l0 x11_1).f2.f1)) ∧ w'.cell? ⟨(ad121.add ((x11_1).toNat * 8)).block, (ad121.add ((x11_1).toNat * 8)).off + 4, none⟩ = some (.slice A121_4 ((rd_T54 l0 x11_1).f3).length c121_4) ∧ w'.cell? ⟨(ad121.add ((x11_1).toNat * 8)).block, (ad121.add ((x11_1).toNat * 8)).off + 5, none⟩ = some (.slice A121_5 ((rd_T54 l0 x11_1).f4).length c121_5) ∧ w'.cell? ⟨(ad121.add ((x11_1).toNat * 8)).block, (ad121.add ((x11_1).toNat * 8)).off + 6, none⟩ = some (.slice A121_6 ((rd_T54 l0 x11_1).f5).length c121_6) ∧ w'.cell? ⟨(ad121.add ((x11_1).toNat * 8)).block, (ad121.add ((x11_1).toNat * 8)).off + 7, none⟩ = some (.slice A121_7 ((rd_T54 l0 x11_1).f6).length c121_7) ∧ w'.cell? (ad121.add ((x11_1).toNat * 8)) = some (.int .i64 ((rd_T54 l0 x11_1).f0)) ∧ w'.cell? ⟨(ad121.add ((x11_1).toNat * 8)).block, (ad121.add ((x11_1).toNat * 8)).off + 1, none⟩ = some (.string ((rd_T54 l0 x11_1).f1)) ∧ w'.cell? ⟨(ad121.add ((x11_1).toNat * 8)).block, (ad121.add ((x11_1).toNat * 8)).off + 2, none⟩ = some (.int .i64 ((rd_T54 l0 x11_1).f2.f0)) ∧ w'.cell? ⟨(ad121.add ((x11_1).toNat * 8)).block, (ad121.add ((x11_1).toNat * 8)).off + 3, none⟩ = some (.int .i64 ((rd_T54 l0 x11_1).f2.f1)) ∧ w'.cell? ⟨(ad121.add ((x11_1).toNat * 8)).block, (ad121.add ((x11_1).toNat * 8)).off + 4, none⟩ = some (.slice A121_4 ((rd_T54 l0 x11_1).f3).length c121_4) ∧ w'.cell? ⟨(ad121.add ((x11_1).toNat * 8)).block, (ad121.add ((x11_1).toNat * 8)).off + 5, none⟩ = some (.slice A121_5 ((rd_T54 l0 x11_1).f4).length c121_5) ∧ w'.cell? ⟨(ad121.add ((x11_1).toNat * 8)).block, (ad121.add ((x11_1).toNat * 8)).off + 6, none⟩ = some (.slice A121_6 ((rd_T54 l0 x11_1).f5).length c121_6) ∧ w'.cell? ⟨(ad121.add ((x11_1).toNat * 8)).block, (ad121.add ((x11_1).toNat * 8)).off + 7, none⟩ = some (.slice A121_7 ((rd_T54 l0 x11_1).f6).length c121_7) ∧ w'.cell? (ad121.add ((x11_1).toNat * 8)) = some (.int .i64 ((rd_T54 l0 x11_1).f0)) ∧ w'.cell? ⟨(ad121.add ((x11_1).toNat * 8)).block, (ad121.add ((x11_1).toNat * 8)).off + 1, none⟩ = some (.string ((rd_T54 l0 x11_1).f1)) ∧ w'.cell? ⟨(ad121.add ((x11_1).toNat * 8)).block, (ad121.add ((x11_1).toNat * 8)).off + 2, none⟩ = some (.int .i64 ((rd_T54 l0 x11_1).f2.f0)) ∧ w'.cell? ⟨(ad121.add ((x11_1).toNat * 8)).block, (ad121.add ((x11_1).toNat * 8)).off + 3, none⟩ = some (.int .i64 ((rd_T54 l0 x11_1).f2.f1)) ∧ w'.cell? ⟨(ad121.add ((x11_1).toNat * 8)).block, (ad121.add ((x11_1).toNat * 8)).off + 4, none⟩ = some (.slice A121_4 ((rd_T54 l0 x11_1).f3).length c121_4) ∧ w'.cell? ⟨(ad121.add ((x11_1).toNat * 8)).block, (ad121.add ((x11_1).toNat * 8)).off + 5, none⟩ = some (.slice A121_5 ((rd_T54 l0 x11_1).f4).length c121_5) ∧ w'.cell? ⟨(ad121.add ((x11_1).toNat * 8)).block, (ad121.add ((x11_1).toNat * 8)).off + 6, none⟩ = some (.slice A121_6 ((rd_T54 l0 x11_1).f5).length c121_6) ∧ w'.cell? ⟨(ad121.add ((x11_1).toNat * 8)).block, (ad121.add ((x11_1).toNat * 8)).off + 7, none⟩ = some (.slice A121_7 ((rd_T54 l0 x11_1).f6).length c121_7) ∧ w'.cell? (ad121.add ((x11_1).toNat * 8)) = some (.int .i64 ((rd_T54 l0 x11_1).f0)) ∧ w'.cell? ⟨(ad121.add ((x11_1).toNat * 8)).block, (ad121.add ((x11_1).toNat * 8)).off + 1, none⟩ = some (.string ((rd_T54 l0 x11_1).f1)) ∧ w'.cell? ⟨(ad121.add ((x11_1).toNat * 8)).block, (ad121.add ((x11_1).toNat * 8)).off + 2, none⟩ = some (.int .i64 ((rd_T54 l0 x11_1).f2.f0)) ∧ w'.cell? ⟨(ad121.add ((x11_1).toNat * 8)).block, (ad121.add ((x11_1).toNat * 8)).off + 3, none⟩ = some (.int .i64 ((rd_T54 l0 x11_1).f2.f1)) ∧ w'.cell? ⟨(ad121.add ((x11_1).toNat * 8)).block, (ad121.add ((x11_1).toNat * 8)).off + 4, none⟩ = some (.slice A121_4 ((rd_T54 l0 x11_1).f3).length c121_4) ∧ w'.cell? ⟨(ad121.add ((x11_1).toNat * 8)).block, (ad121.add ((x11_1).toNat * 8)).off + 5, none⟩ = some (.slice A121_5 ((rd_T54 l0 x11_1).f4).length c121_5) ∧ w'.cell? ⟨(ad121.add ((x11_1).toNat * 8)).block, (ad121.add ((x11_1).toNat * 8)).off + 6, none⟩ = some (.slice A121_6 ((rd_T54 l0 x11_1).f5).length c121_6) ∧ w'.cell? ⟨(ad121.add ((x11_1).toNat * 8)).block, (ad121.add ((x11_1).toNat * 8)).off + 7, none⟩ = some (.slice A121_7 ((rd_T54 l0 x11_1).f6).length c121_7)) ∧ (Kd.R k47 47 w' w.heap.size (fun k_ => some k_ ≠ (u3 : Value).ownBlock ∧ k_ ≠ s_.2) s_.1 t125) ∧ (Kd.R k47 47 w' w.heap.size (fun k_ => some k_ ≠ (s_.1 : Value).ownBlock ∧ k_ ≠ s_.2) u3 x3_1) ∧ (w'.heap[s_.2]? = some (.cells #[.int .i64 0, .string (⟨#[]⟩ : ByteArray), .int .i64 0, .int .i64 0, .slice none 0 0, .slice none 0 0, .slice none 0 0, .slice none 0 0] 47 (0, 0))) ∧ (w.heap.size ≤ s_.2) ∧ (w.heap.size ≤ s_.2) ∧ (Below w.heap.size w w')) ?_ ?_
            rotate_left
            · intro hCont
              refine two_ (i := 20) (j := 22) (Ni := some 34) (Nj := some 5) #[true, true, true, true, true, true, true, true, true, true, true, true, true, true, true, true, true, true, true, true, true, false, false, false] #[true, true, true, true, true, true, true, true, true, true, true, true, true, true, true, true, true, true, true, true, false, false, true, false] rfl rfl rfl rfl (two_of HT_.out (by kernel_rfl)) (by decide) (by decide) (fun K hK => ?_) (fun K hK => ?_)
              · skip
                refine goes_ Tryd.func8 (by kernel_rfl) rfl #[.slice A121_7 ((rd_T54 l0 x11_1).f6).length c121_7] (by rfl) rfl rfl (by (try simp only [List.map_toArray, List.map_cons, List.map_nil]); first | done | rfl | (simp only [List.length_drop, List.length_take]; rfl)) ?_
                with_reducible refine (ih k1 (by have := HK1.out; omega) _ _ ((rd_T54 l0 x11_1).f6) t125 _ ?side1 ?side2 A5.out).mono ?_
                (case side1 => repeat (first | exact (Kd.C_below HR124_7.out HB.out) | (with_reducible refine Kd.C_alloc ?_ _) | (with_reducible refine Kd.C_drewN ?_ _) | (with_reducible refine Kd.C_drew ?_)))
                (case side2 => exact HC124_7.out)
                rintro e w7 ⟨v126, rfl, ho0, hb⟩
                (try (have nt_ := Aside0.mk (Kd.C_below HR121_4.out hb); clear HR121_4; have HR121_4 := nt_; clear nt_))
                (try (have nt_ := Aside0.mk (Kd.C_below HR121_5.out hb); clear HR121_5; have HR121_5 := nt_; clear nt_))
                (try (have nt_ := Aside0.mk (Kd.C_below HR121_6.out hb); clear HR121_6; have HR121_6 := nt_; clear nt_))
                (try (have nt_ := Aside0.mk (Kd.C_below HR121_7.out hb); clear HR121_7; have HR121_7 := nt_; clear nt_))
                (try (have nt_ := Aside0.mk (Kd.C_below HR122_4.out hb); clear HR122_4; have HR122_4 := nt_; clear nt_))
                (try (have nt_ := Aside0.mk (Kd.C_below HR122_5.out hb); clear HR122_5; have HR122_5 := nt_; clear nt_))
                (try (have nt_ := Aside0.mk (Kd.C_below HR122_6.out hb); clear HR122_6; have HR122_6 := nt_; clear nt_))
                (try (have nt_ := Aside0.mk (Kd.C_below HR122_7.out hb); clear HR122_7; have HR122_7 := nt_; clear nt_))
                (try (have nt_ := Aside0.mk (Kd.C_below HR123_4.out hb); clear HR123_4; have HR123_4 := nt_; clear nt_))
                (try (have nt_ := Aside0.mk (Kd.C_below HR123_5.out hb); clear HR123_5; have HR123_5 := nt_; clear nt_))
                (try (have nt_ := Aside0.mk (Kd.C_below HR123_6.out hb); clear HR123_6; have HR123_6 := nt_; clear nt_))
                (try (have nt_ := Aside0.mk (Kd.C_below HR123_7.out hb); clear HR123_7; have HR123_7 := nt_; clear nt_))
                (try (have nt_ := Aside0.mk (Kd.C_below HR124_4.out hb); clear HR124_4; have HR124_4 := nt_; clear nt_))
                (try (have nt_ := Aside0.mk (Kd.C_below HR124_5.out hb); clear HR124_5; have HR124_5 := nt_; clear nt_))
                (try (have nt_ := Aside0.mk (Kd.C_below HR124_6.out hb); clear HR124_6; have HR124_6 := nt_; clear nt_))
                (try (have nt_ := Aside0.mk (Kd.C_below HR124_7.out hb); clear HR124_7; have HR124_7 := nt_; clear nt_))
                refine ⟨_, rfl, ?_⟩
                have n0_ := Aside0.mk (Kd.R_elder' (by (with_reducible repeat (first | apply Kd.R_alloc | apply Kd.R_drewN | apply Kd.R_drew)); exact HO_3.out) (Kd.R_base ho0) hb)
                have n1_ := Aside0.mk (Kd.R_lower (Kd.R_new' ho0 (Kd.R_lt (by (with_reducible repeat (first | apply Kd.R_alloc | apply Kd.R_drewN | apply Kd.R_drew)); exact HO_3.out))) (below_size (by repeat (first | (with_reducible first | exact HB.out | apply below_alloc | apply pw_below_drewN | apply below_drew1) | exact HB.out))))
                have n2_ := Aside0.mk (below_step (by repeat (first | (with_reducible first | exact HB.out | apply below_alloc | apply pw_below_drewN | apply below_drew1) | exact HB.out)) hb)
                clear HO_3
                clear HB
                have HO_3 := n0_
                have HO127 := n1_
                have HB := n2_
                clear n0_ n1_ n2_
                (try clear hb)
                (try clear hb2)
                (try clear hk)
                (try clear hi)
                (try clear ho0)
                obtain ⟨Ao8, co8, eo8⟩ := Kd.R_slice HO127.out
                (first | subst eo8 | (injection eo8 with f1_ f2_ f3_; have f4_ := f1_.symm; have f5_ := f3_.symm; clear f1_ f2_ f3_; subst f4_; subst f5_))
                refine hK.out _ _ ⟨((HB.out.cell (World.block_lt_of_cell? w _ hw121_0)).trans hw121_0), ((HB.out.cell (World.block_lt_of_cell? w _ hw121_1)).trans hw121_1), ((HB.out.cell (World.block_lt_of_cell? w _ hw121_2)).trans hw121_2), ((HB.out.cell (World.block_lt_of_cell? w _ hw121_3)).trans hw121_3), ((HB.out.cell (World.block_lt_of_cell? w _ hw121_4)).trans hw121_4), ((HB.out.cell (World.block_lt_of_cell? w _ hw121_5)).trans hw121_5), ((HB.out.cell (World.block_lt_of_cell? w _ hw121_6)).trans hw121_6), ((HB.out.cell (World.block_lt_of_cell? w _ hw121_7)).trans hw121_7), ((HB.out.cell (World.block_lt_of_cell? w _ hw122_0)).trans hw122_0), ((HB.out.cell (World.block_lt_of_cell? w _ hw122_1)).trans hw122_1), ((HB.out.cell (World.block_lt_of_cell? w _ hw122_2)).trans hw122_2), ((HB.out.cell (World.block_lt_of_cell? w _ hw122_3)).trans hw122_3), ((HB.out.cell (World.block_lt_of_cell? w _ hw122_4)).trans hw122_4), ((HB.out.cell (World.block_lt_of_cell? w _ hw122_5)).trans hw122_5), ((HB.out.cell (World.block_lt_of_cell? w _ hw122_6)).trans hw122_6), ((HB.out.cell (World.block_lt_of_cell? w _ hw122_7)).trans hw122_7), ((HB.out.cell (World.block_lt_of_cell? w _ hw123_0)).trans hw123_0), ((HB.out.cell (World.block_lt_of_cell? w _ hw123_1)).trans hw123_1), ((HB.out.cell (World.block_lt_of_cell? w _ hw123_2)).trans hw123_2), ((HB.out.cell (World.block_lt_of_cell? w _ hw123_3)).trans hw123_3), ((HB.out.cell (World.block_lt_of_cell? w _ hw123_4)).trans hw123_4), ((HB.out.cell (World.block_lt_of_cell? w _ hw123_5)).trans hw123_5), ((HB.out.cell (World.block_lt_of_cell? w _ hw123_6)).trans hw123_6), ((HB.out.cell (World.block_lt_of_cell? w _ hw123_7)).trans hw123_7), ((HB.out.cell (World.block_lt_of_cell? w _ hw124_0)).trans hw124_0), ((HB.out.cell (World.block_lt_of_cell? w _ hw124_1)).trans hw124_1), ((HB.out.cell (World.block_lt_of_cell? w _ hw124_2)).trans hw124_2), ((HB.out.cell (World.block_lt_of_cell? w _ hw124_3)).trans hw124_3), ((HB.out.cell (World.block_lt_of_cell? w _ hw124_4)).trans hw124_4), ((HB.out.cell (World.block_lt_of_cell? w _ hw124_5)).trans hw124_5), ((HB.out.cell (World.block_lt_of_cell? w _ hw124_6)).trans hw124_6), ((HB.out.cell (World.block_lt_of_cell? w _ hw124_7)).trans hw124_7)⟩ (fun hHeld => ?_)
                clear hK K
                refine norm_ (a' := ?_) ?_ ?_
                rotate_left
                · show Act.put _ (some 34) _ = _
                  simp only [Act.put, List.setIfInBounds_toArray, List.set_cons_zero, List.set_cons_succ, i64_w, i32_w]
                  rfl
                refine pure_ (i := 21) (N := some 35) (v := ?_) (a' := ?_) #[true, true, true, true, true, true, true, true, true, true, true, true, true, true, true, true, true, true, true, true, true, true, false, false] rfl rfl (any_of HT_.out (by kernel_rfl)) (fun _ _ _ h => h) (Or.inl ⟨by rfl, ?_⟩) ?_ ?_
                rotate_left
                · intro w'
                  go_simp
                  with_reducible rfl
                rotate_left
                · simp only [Act.put, List.setIfInBounds_toArray, List.set_cons_zero, List.set_cons_succ, i64_w, i32_w]
                  rfl
                refine one_ (i := 22) (N := some 5) #[true, true, true, true, true, true, true, true, true, true, true, true, true, true, true, true, true, true, true, true, true, true, true, false] rfl rfl (one_of HT_.out (by kernel_rfl)) (by decide) (fun K hK => ?_)
                refine box_step ?hg (N := 5) ?hd (cs := #[.int .i64 0, .string (⟨#[]⟩ : ByteArray), .int .i64 0, .int .i64 0, .slice none 0 0, .slice none 0 0, .slice none 0 0, .slice none 0 0]) (t := 47) ?hr ?_; (case hd => rfl); (case hg => rfl); (case hr => first | (go_simp; done) | (go_simp; rfl))
                intro gb128 hg w9 hbox hb
                have n0_ := Aside0.mk (Kd.R_below (Kd.R_elderB (by (with_reducible repeat (first | apply Kd.R_alloc | apply Kd.R_drewN | apply Kd.R_drew)); exact HO_3.out) gb128 (Nat.le_of_eq hg.symm)) hb)
                have n1_ := Aside0.mk (Kd.R_below (Kd.R_elderB (by (with_reducible repeat (first | apply Kd.R_alloc | apply Kd.R_drewN | apply Kd.R_drew)); exact HO127.out) gb128 (Nat.le_of_eq hg.symm)) hb)
                have n2_ := Aside0.mk (below_step (by repeat (first | (with_reducible first | exact HB.out | apply below_alloc | apply pw_below_drewN | apply below_drew1) | exact HB.out)) hb)
                have n3_ := Aside0.mk (hbox)
                have n4_ := Aside0.mk ((by rw [hg]; exact (below_size (by repeat (first | (with_reducible first | exact HB.out | apply below_alloc | apply pw_below_drewN | apply below_drew1) | exact HB.out))) : w.heap.size ≤ gb128))
                have n5_ := Aside0.mk ((by rw [hg]; exact (below_size (by repeat (first | (with_reducible first | exact HB.out | apply below_alloc | apply pw_below_drewN | apply below_drew1) | exact HB.out))) : w.heap.size ≤ gb128))
                clear HO_3
                clear HO127
                clear HB
                have HO_3 := n0_
                have HO127 := n1_
                have HB := n2_
                have BK128 := n3_
                have GW128 := n4_
                have GE128 := n5_
                clear n0_ n1_ n2_ n3_ n4_ n5_
                clear hb hbox hg
                refine hK.out _ _ ⟨((HB.out.cell (World.block_lt_of_cell? w _ hw121_0)).trans hw121_0), ((HB.out.cell (World.block_lt_of_cell? w _ hw121_1)).trans hw121_1), ((HB.out.cell (World.block_lt_of_cell? w _ hw121_2)).trans hw121_2), ((HB.out.cell (World.block_lt_of_cell? w _ hw121_3)).trans hw121_3), ((HB.out.cell (World.block_lt_of_cell? w _ hw121_4)).trans hw121_4), ((HB.out.cell (World.block_lt_of_cell? w _ hw121_5)).trans hw121_5), ((HB.out.cell (World.block_lt_of_cell? w _ hw121_6)).trans hw121_6), ((HB.out.cell (World.block_lt_of_cell? w _ hw121_7)).trans hw121_7), ((HB.out.cell (World.block_lt_of_cell? w _ hw122_0)).trans hw122_0), ((HB.out.cell (World.block_lt_of_cell? w _ hw122_1)).trans hw122_1), ((HB.out.cell (World.block_lt_of_cell? w _ hw122_2)).trans hw122_2), ((HB.out.cell (World.block_lt_of_cell? w _ hw122_3)).trans hw122_3), ((HB.out.cell (World.block_lt_of_cell? w _ hw122_4)).trans hw122_4), ((HB.out.cell (World.block_lt_of_cell? w _ hw122_5)).trans hw122_5), ((HB.out.cell (World.block_lt_of_cell? w _ hw122_6)).trans hw122_6), ((HB.out.cell (World.block_lt_of_cell? w _ hw122_7)).trans hw122_7), ((HB.out.cell (World.block_lt_of_cell? w _ hw123_0)).trans hw123_0), ((HB.out.cell (World.block_lt_of_cell? w _ hw123_1)).trans hw123_1), ((HB.out.cell (World.block_lt_of_cell? w _ hw123_2)).trans hw123_2), ((HB.out.cell (World.block_lt_of_cell? w _ hw123_3)).trans hw123_3), ((HB.out.cell (World.block_lt_of_cell? w _ hw123_4)).trans hw123_4), ((HB.out.cell (World.block_lt_of_cell? w _ hw123_5)).trans hw123_5), ((HB.out.cell (World.block_lt_of_cell? w _ hw123_6)).trans hw123_6), ((HB.out.cell (World.block_lt_of_cell? w _ hw123_7)).trans hw123_7), ((HB.out.cell (World.block_lt_of_cell? w _ hw124_0)).trans hw124_0), ((HB.out.cell (World.block_lt_of_cell? w _ hw124_1)).trans hw124_1), ((HB.out.cell (World.block_lt_of_cell? w _ hw124_2)).trans hw124_2), ((HB.out.cell (World.block_lt_of_cell? w _ hw124_3)).trans hw124_3), ((HB.out.cell (World.block_lt_of_cell? w _ hw124_4)).trans hw124_4), ((HB.out.cell (World.block_lt_of_cell? w _ hw124_5)).trans hw124_5), ((HB.out.cell (World.block_lt_of_cell? w _ hw124_6)).trans hw124_6), ((HB.out.cell (World.block_lt_of_cell? w _ hw124_7)).trans hw124_7)⟩ (fun hHeld => ?_)
                clear hK K
                refine norm_ (a' := ?_) ?_ ?_
                rotate_left
                · show Act.put _ (some 5) _ = _
                  simp only [Act.put, List.setIfInBounds_toArray, List.set_cons_zero, List.set_cons_succ, i64_w, i32_w]
                  rfl
                exact norm_ (by simp only [putAll, Act.put, List.setIfInBounds_toArray, List.set_cons_zero, List.set_cons_succ]) (hCont (.slice Ao8 t125.length co8, gb128) _ ⟨hHeld, (by (with_reducible repeat (first | apply Kd.R_alloc | apply Kd.R_drewN | apply Kd.R_drew)); exact Kd.R_mono HO127.out (fun _ hk => ⟨hk.1.2, hk.2⟩)), (by (with_reducible repeat (first | apply Kd.R_alloc | apply Kd.R_drewN | apply Kd.R_drew)); exact Kd.R_mono HO_3.out (fun _ hk => ⟨hk.1.2, hk.2⟩)), (by (with_reducible repeat (first | refine blk_drewN ?_ _ | refine blk_drew ?_ | refine blk_alloc ?_ _)); exact BK128.out), GW128.out, GE128.out, (by repeat (first | (with_reducible first | exact HB.out | apply below_alloc | apply pw_below_drewN | apply below_drew1 | refine below_set ?_ GE128.out) | exact HB.out))⟩)
              · skip
                refine box_step ?hg (N := 5) ?hd (cs := #[.int .i64 0, .string (⟨#[]⟩ : ByteArray), .int .i64 0, .int .i64 0, .slice none 0 0, .slice none 0 0, .slice none 0 0, .slice none 0 0]) (t := 47) ?hr ?_; (case hd => rfl); (case hg => rfl); (case hr => first | (go_simp; done) | (go_simp; rfl))
                intro gb128 hg w7 hbox hb
                have n0_ := Aside0.mk (Kd.R_below (Kd.R_elderB (by (with_reducible repeat (first | apply Kd.R_alloc | apply Kd.R_drewN | apply Kd.R_drew)); exact HO_3.out) gb128 (Nat.le_of_eq hg.symm)) hb)
                have n1_ := Aside0.mk (below_step (by repeat (first | (with_reducible first | exact HB.out | apply below_alloc | apply pw_below_drewN | apply below_drew1) | exact HB.out)) hb)
                have n2_ := Aside0.mk (hbox)
                have n3_ := Aside0.mk ((by rw [hg]; exact (below_size (by repeat (first | (with_reducible first | exact HB.out | apply below_alloc | apply pw_below_drewN | apply below_drew1) | exact HB.out))) : w.heap.size ≤ gb128))
                have n4_ := Aside0.mk ((by rw [hg]; exact (below_size (by repeat (first | (with_reducible first | exact HB.out | apply below_alloc | apply pw_below_drewN | apply below_drew1) | exact HB.out))) : w.heap.size ≤ gb128))
                clear HO_3
                clear HB
                have HO_3 := n0_
                have HB := n1_
                have BK128 := n2_
                have GW128 := n3_
                have GE128 := n4_
                clear n0_ n1_ n2_ n3_ n4_
                clear hb hbox hg
                refine hK.out _ _ ⟨((HB.out.cell (World.block_lt_of_cell? w _ hw121_0)).trans hw121_0), ((HB.out.cell (World.block_lt_of_cell? w _ hw121_1)).trans hw121_1), ((HB.out.cell (World.block_lt_of_cell? w _ hw121_2)).trans hw121_2), ((HB.out.cell (World.block_lt_of_cell? w _ hw121_3)).trans hw121_3), ((HB.out.cell (World.block_lt_of_cell? w _ hw121_4)).trans hw121_4), ((HB.out.cell (World.block_lt_of_cell? w _ hw121_5)).trans hw121_5), ((HB.out.cell (World.block_lt_of_cell? w _ hw121_6)).trans hw121_6), ((HB.out.cell (World.block_lt_of_cell? w _ hw121_7)).trans hw121_7), ((HB.out.cell (World.block_lt_of_cell? w _ hw122_0)).trans hw122_0), ((HB.out.cell (World.block_lt_of_cell? w _ hw122_1)).trans hw122_1), ((HB.out.cell (World.block_lt_of_cell? w _ hw122_2)).trans hw122_2), ((HB.out.cell (World.block_lt_of_cell? w _ hw122_3)).trans hw122_3), ((HB.out.cell (World.block_lt_of_cell? w _ hw122_4)).trans hw122_4), ((HB.out.cell (World.block_lt_of_cell? w _ hw122_5)).trans hw122_5), ((HB.out.cell (World.block_lt_of_cell? w _ hw122_6)).trans hw122_6), ((HB.out.cell (World.block_lt_of_cell? w _ hw122_7)).trans hw122_7), ((HB.out.cell (World.block_lt_of_cell? w _ hw123_0)).trans hw123_0), ((HB.out.cell (World.block_lt_of_cell? w _ hw123_1)).trans hw123_1), ((HB.out.cell (World.block_lt_of_cell? w _ hw123_2)).trans hw123_2), ((HB.out.cell (World.block_lt_of_cell? w _ hw123_3)).trans hw123_3), ((HB.out.cell (World.block_lt_of_cell? w _ hw123_4)).trans hw123_4), ((HB.out.cell (World.block_lt_of_cell? w _ hw123_5)).trans hw123_5), ((HB.out.cell (World.block_lt_of_cell? w _ hw123_6)).trans hw123_6), ((HB.out.cell (World.block_lt_of_cell? w _ hw123_7)).trans hw123_7), ((HB.out.cell (World.block_lt_of_cell? w _ hw124_0)).trans hw124_0), ((HB.out.cell (World.block_lt_of_cell? w _ hw124_1)).trans hw124_1), ((HB.out.cell (World.block_lt_of_cell? w _ hw124_2)).trans hw124_2), ((HB.out.cell (World.block_lt_of_cell? w _ hw124_3)).trans hw124_3), ((HB.out.cell (World.block_lt_of_cell? w _ hw124_4)).trans hw124_4), ((HB.out.cell (World.block_lt_of_cell? w _ hw124_5)).trans hw124_5), ((HB.out.cell (World.block_lt_of_cell? w _ hw124_6)).trans hw124_6), ((HB.out.cell (World.block_lt_of_cell? w _ hw124_7)).trans hw124_7)⟩ (fun hHeld => ?_)
                clear hK K
                refine norm_ (a' := ?_) ?_ ?_
                rotate_left
                · show Act.put _ (some 5) _ = _
                  simp only [Act.put, List.setIfInBounds_toArray, List.set_cons_zero, List.set_cons_succ, i64_w, i32_w]
                  rfl
                refine one_ (i := 20) (N := some 34) #[true, true, true, true, true, true, true, true, true, true, true, true, true, true, true, true, true, true, true, true, true, false, true, false] rfl rfl (one_of HT_.out (by kernel_rfl)) (by decide) (fun K hK => ?_)
                refine goes_ Tryd.func8 (by kernel_rfl) rfl #[.slice A121_7 ((rd_T54 l0 x11_1).f6).length c121_7] (by rfl) rfl rfl (by (try simp only [List.map_toArray, List.map_cons, List.map_nil]); first | done | rfl | (simp only [List.length_drop, List.length_take]; rfl)) ?_
                with_reducible refine (ih k1 (by have := HK1.out; omega) _ _ ((rd_T54 l0 x11_1).f6) t125 _ ?side1 ?side2 A5.out).mono ?_
                (case side1 => repeat (first | exact (Kd.C_below HR124_7.out HB.out) | (with_reducible refine Kd.C_alloc ?_ _) | (with_reducible refine Kd.C_drewN ?_ _) | (with_reducible refine Kd.C_drew ?_)))
                (case side2 => exact HC124_7.out)
                rintro e w8 ⟨v126, rfl, ho0, hb⟩
                (try (have nt_ := Aside0.mk (Kd.C_below HR121_4.out hb); clear HR121_4; have HR121_4 := nt_; clear nt_))
                (try (have nt_ := Aside0.mk (Kd.C_below HR121_5.out hb); clear HR121_5; have HR121_5 := nt_; clear nt_))
                (try (have nt_ := Aside0.mk (Kd.C_below HR121_6.out hb); clear HR121_6; have HR121_6 := nt_; clear nt_))
                (try (have nt_ := Aside0.mk (Kd.C_below HR121_7.out hb); clear HR121_7; have HR121_7 := nt_; clear nt_))
                (try (have nt_ := Aside0.mk (Kd.C_below HR122_4.out hb); clear HR122_4; have HR122_4 := nt_; clear nt_))
                (try (have nt_ := Aside0.mk (Kd.C_below HR122_5.out hb); clear HR122_5; have HR122_5 := nt_; clear nt_))
                (try (have nt_ := Aside0.mk (Kd.C_below HR122_6.out hb); clear HR122_6; have HR122_6 := nt_; clear nt_))
                (try (have nt_ := Aside0.mk (Kd.C_below HR122_7.out hb); clear HR122_7; have HR122_7 := nt_; clear nt_))
                (try (have nt_ := Aside0.mk (Kd.C_below HR123_4.out hb); clear HR123_4; have HR123_4 := nt_; clear nt_))
                (try (have nt_ := Aside0.mk (Kd.C_below HR123_5.out hb); clear HR123_5; have HR123_5 := nt_; clear nt_))
                (try (have nt_ := Aside0.mk (Kd.C_below HR123_6.out hb); clear HR123_6; have HR123_6 := nt_; clear nt_))
                (try (have nt_ := Aside0.mk (Kd.C_below HR123_7.out hb); clear HR123_7; have HR123_7 := nt_; clear nt_))
                (try (have nt_ := Aside0.mk (Kd.C_below HR124_4.out hb); clear HR124_4; have HR124_4 := nt_; clear nt_))
                (try (have nt_ := Aside0.mk (Kd.C_below HR124_5.out hb); clear HR124_5; have HR124_5 := nt_; clear nt_))
                (try (have nt_ := Aside0.mk (Kd.C_below HR124_6.out hb); clear HR124_6; have HR124_6 := nt_; clear nt_))
                (try (have nt_ := Aside0.mk (Kd.C_below HR124_7.out hb); clear HR124_7; have HR124_7 := nt_; clear nt_))
                refine ⟨_, rfl, ?_⟩
                have n0_ := Aside0.mk (Kd.R_elder' (by (with_reducible repeat (first | apply Kd.R_alloc | apply Kd.R_drewN | apply Kd.R_drew)); exact HO_3.out) (Kd.R_base ho0) hb)
                have n1_ := Aside0.mk (Kd.R_lower (Kd.R_newB (Kd.R_new' ho0 (Kd.R_lt (by (with_reducible repeat (first | apply Kd.R_alloc | apply Kd.R_drewN | apply Kd.R_drew)); exact HO_3.out))) (g := gb128) (o := .cells #[.int .i64 0, .string (⟨#[]⟩ : ByteArray), .int .i64 0, .int .i64 0, .slice none 0 0, .slice none 0 0, .slice none 0 0, .slice none 0 0] 47 (0, 0)) (by (with_reducible repeat (first | refine blk_drewN ?_ _ | refine blk_drew ?_ | refine blk_alloc ?_ _)); exact BK128.out)) (below_size (by repeat (first | (with_reducible first | exact HB.out | apply below_alloc | apply pw_below_drewN | apply below_drew1 | refine below_set ?_ GE128.out) | exact HB.out))))
                have n2_ := Aside0.mk (blk_below (g := gb128) (o := .cells #[.int .i64 0, .string (⟨#[]⟩ : ByteArray), .int .i64 0, .int .i64 0, .slice none 0 0, .slice none 0 0, .slice none 0 0, .slice none 0 0] 47 (0, 0)) (by (with_reducible repeat (first | refine blk_drewN ?_ _ | refine blk_drew ?_ | refine blk_alloc ?_ _)); exact BK128.out) hb)
                have n3_ := Aside0.mk (below_step (by repeat (first | (with_reducible first | exact HB.out | apply below_alloc | apply pw_below_drewN | apply below_drew1 | refine below_set ?_ GE128.out) | exact HB.out)) hb)
                clear HO_3
                clear BK128
                clear HB
                have HO_3 := n0_
                have HO127 := n1_
                have BK128 := n2_
                have HB := n3_
                clear n0_ n1_ n2_ n3_
                (try clear hb)
                (try clear hb2)
                (try clear hk)
                (try clear hi)
                (try clear ho0)
                obtain ⟨Ao9, co9, eo9⟩ := Kd.R_slice HO127.out
                (first | subst eo9 | (injection eo9 with f1_ f2_ f3_; have f4_ := f1_.symm; have f5_ := f3_.symm; clear f1_ f2_ f3_; subst f4_; subst f5_))
                refine hK.out _ _ ⟨((HB.out.cell (World.block_lt_of_cell? w _ hw121_0)).trans hw121_0), ((HB.out.cell (World.block_lt_of_cell? w _ hw121_1)).trans hw121_1), ((HB.out.cell (World.block_lt_of_cell? w _ hw121_2)).trans hw121_2), ((HB.out.cell (World.block_lt_of_cell? w _ hw121_3)).trans hw121_3), ((HB.out.cell (World.block_lt_of_cell? w _ hw121_4)).trans hw121_4), ((HB.out.cell (World.block_lt_of_cell? w _ hw121_5)).trans hw121_5), ((HB.out.cell (World.block_lt_of_cell? w _ hw121_6)).trans hw121_6), ((HB.out.cell (World.block_lt_of_cell? w _ hw121_7)).trans hw121_7), ((HB.out.cell (World.block_lt_of_cell? w _ hw122_0)).trans hw122_0), ((HB.out.cell (World.block_lt_of_cell? w _ hw122_1)).trans hw122_1), ((HB.out.cell (World.block_lt_of_cell? w _ hw122_2)).trans hw122_2), ((HB.out.cell (World.block_lt_of_cell? w _ hw122_3)).trans hw122_3), ((HB.out.cell (World.block_lt_of_cell? w _ hw122_4)).trans hw122_4), ((HB.out.cell (World.block_lt_of_cell? w _ hw122_5)).trans hw122_5), ((HB.out.cell (World.block_lt_of_cell? w _ hw122_6)).trans hw122_6), ((HB.out.cell (World.block_lt_of_cell? w _ hw122_7)).trans hw122_7), ((HB.out.cell (World.block_lt_of_cell? w _ hw123_0)).trans hw123_0), ((HB.out.cell (World.block_lt_of_cell? w _ hw123_1)).trans hw123_1), ((HB.out.cell (World.block_lt_of_cell? w _ hw123_2)).trans hw123_2), ((HB.out.cell (World.block_lt_of_cell? w _ hw123_3)).trans hw123_3), ((HB.out.cell (World.block_lt_of_cell? w _ hw123_4)).trans hw123_4), ((HB.out.cell (World.block_lt_of_cell? w _ hw123_5)).trans hw123_5), ((HB.out.cell (World.block_lt_of_cell? w _ hw123_6)).trans hw123_6), ((HB.out.cell (World.block_lt_of_cell? w _ hw123_7)).trans hw123_7), ((HB.out.cell (World.block_lt_of_cell? w _ hw124_0)).trans hw124_0), ((HB.out.cell (World.block_lt_of_cell? w _ hw124_1)).trans hw124_1), ((HB.out.cell (World.block_lt_of_cell? w _ hw124_2)).trans hw124_2), ((HB.out.cell (World.block_lt_of_cell? w _ hw124_3)).trans hw124_3), ((HB.out.cell (World.block_lt_of_cell? w _ hw124_4)).trans hw124_4), ((HB.out.cell (World.block_lt_of_cell? w _ hw124_5)).trans hw124_5), ((HB.out.cell (World.block_lt_of_cell? w _ hw124_6)).trans hw124_6), ((HB.out.cell (World.block_lt_of_cell? w _ hw124_7)).trans hw124_7)⟩ (fun hHeld => ?_)
                clear hK K
                refine norm_ (a' := ?_) ?_ ?_
                rotate_left
                · show Act.put _ (some 34) _ = _
                  simp only [Act.put, List.setIfInBounds_toArray, List.set_cons_zero, List.set_cons_succ, i64_w, i32_w]
                  rfl
                refine pure_ (i := 21) (N := some 35) (v := ?_) (a' := ?_) #[true, true, true, true, true, true, true, true, true, true, true, true, true, true, true, true, true, true, true, true, true, true, true, false] rfl rfl (any_of HT_.out (by kernel_rfl)) (fun _ _ _ h => h) (Or.inl ⟨by rfl, ?_⟩) ?_ ?_
                rotate_left
                · intro w'
                  go_simp
                  with_reducible rfl
                rotate_left
                · simp only [Act.put, List.setIfInBounds_toArray, List.set_cons_zero, List.set_cons_succ, i64_w, i32_w]
                  rfl
                exact norm_ (by simp only [putAll, Act.put, List.setIfInBounds_toArray, List.set_cons_zero, List.set_cons_succ]) (hCont (.slice Ao9 t125.length co9, gb128) _ ⟨hHeld, (by (with_reducible repeat (first | apply Kd.R_alloc | apply Kd.R_drewN | apply Kd.R_drew)); exact Kd.R_mono HO127.out (fun _ hk => ⟨hk.1.2, hk.2⟩)), (by (with_reducible repeat (first | apply Kd.R_alloc | apply Kd.R_drewN | apply Kd.R_drew)); exact Kd.R_mono HO_3.out (fun _ hk => ⟨hk.2, hk.1.2⟩)), (by (with_reducible repeat (first | refine blk_drewN ?_ _ | refine blk_drew ?_ | refine blk_alloc ?_ _)); exact BK128.out), GW128.out, GE128.out, (by repeat (first | (with_reducible first | exact HB.out | apply below_alloc | apply pw_below_drewN | apply below_drew1 | refine below_set ?_ GE128.out) | exact HB.out))⟩)
            rintro ⟨v126, gb128⟩ w10 ⟨hS_, h0_, h1_, h2_, h3_, h4_, h5_⟩
            have n0_ : Aside0 (Kd.R k47 47 w10 w.heap.size (fun k_ => some k_ ≠ (u3 : Value).ownBlock ∧ k_ ≠ gb128) v126 t125) := ⟨h0_⟩
            have n1_ : Aside0 (Kd.R k47 47 w10 w.heap.size (fun k_ => some k_ ≠ (v126 : Value).ownBlock ∧ k_ ≠ gb128) u3 x3_1) := ⟨h1_⟩
            have n2_ : Aside0 (w10.heap[gb128]? = some (.cells #[.int .i64 0, .string (⟨#[]⟩ : ByteArray), .int .i64 0, .int .i64 0, .slice none 0 0, .slice none 0 0, .slice none 0 0, .slice none 0 0] 47 (0, 0))) := ⟨h2_⟩
            have n3_ : Aside0 (w.heap.size ≤ gb128) := ⟨h3_⟩
            have n4_ : Aside0 (w.heap.size ≤ gb128) := ⟨h4_⟩
            have n5_ : Aside0 (Below w.heap.size w w10) := ⟨h5_⟩
            clear HO_3
            clear HB
            clear h0_ h1_ h2_ h3_ h4_ h5_
            have HO127 := n0_
            have HO_3 := n1_
            have BK128 := n2_
            have GW128 := n3_
            have GE128 := n4_
            have HB := n5_
            clear n0_ n1_ n2_ n3_ n4_ n5_
            have hHeld : w10.cell? (ad121.add ((x11_1).toNat * 8)) = some (.int .i64 ((rd_T54 l0 x11_1).f0)) ∧ w10.cell? ⟨(ad121.add ((x11_1).toNat * 8)).block, (ad121.add ((x11_1).toNat * 8)).off + 1, none⟩ = some (.string ((rd_T54 l0 x11_1).f1)) ∧ w10.cell? ⟨(ad121.add ((x11_1).toNat * 8)).block, (ad121.add ((x11_1).toNat * 8)).off + 2, none⟩ = some (.int .i64 ((rd_T54 l0 x11_1).f2.f0)) ∧ w10.cell? ⟨(ad121.add ((x11_1).toNat * 8)).block, (ad121.add ((x11_1).toNat * 8)).off + 3, none⟩ = some (.int .i64 ((rd_T54 l0 x11_1).f2.f1)) ∧ w10.cell? ⟨(ad121.add ((x11_1).toNat * 8)).block, (ad121.add ((x11_1).toNat * 8)).off + 4, none⟩ = some (.slice A121_4 ((rd_T54 l0 x11_1).f3).length c121_4) ∧ w10.cell? ⟨(ad121.add ((x11_1).toNat * 8)).block, (ad121.add ((x11_1).toNat * 8)).off + 5, none⟩ = some (.slice A121_5 ((rd_T54 l0 x11_1).f4).length c121_5) ∧ w10.cell? ⟨(ad121.add ((x11_1).toNat * 8)).block, (ad121.add ((x11_1).toNat * 8)).off + 6, none⟩ = some (.slice A121_6 ((rd_T54 l0 x11_1).f5).length c121_6) ∧ w10.cell? ⟨(ad121.add ((x11_1).toNat * 8)).block, (ad121.add ((x11_1).toNat * 8)).off + 7, none⟩ = some (.slice A121_7 ((rd_T54 l0 x11_1).f6).length c121_7) ∧ w10.cell? (ad121.add ((x11_1).toNat * 8)) = some (.int .i64 ((rd_T54 l0 x11_1).f0)) ∧ w10.cell? ⟨(ad121.add ((x11_1).toNat * 8)).block, (ad121.add ((x11_1).toNat * 8)).off + 1, none⟩ = some (.string ((rd_T54 l0 x11_1).f1)) ∧ w10.cell? ⟨(ad121.add ((x11_1).toNat * 8)).block, (ad121.add ((x11_1).toNat * 8)).off + 2, none⟩ = some (.int .i64 ((rd_T54 l0 x11_1).f2.f0)) ∧ w10.cell? ⟨(ad121.add ((x11_1).toNat * 8)).block, (ad121.add ((x11_1).toNat * 8)).off + 3, none⟩ = some (.int .i64 ((rd_T54 l0 x11_1).f2.f1)) ∧ w10.cell? ⟨(ad121.add ((x11_1).toNat * 8)).block, (ad121.add ((x11_1).toNat * 8)).off + 4, none⟩ = some (.slice A121_4 ((rd_T54 l0 x11_1).f3).length c121_4) ∧ w10.cell? ⟨(ad121.add ((x11_1).toNat * 8)).block, (ad121.add ((x11_1).toNat * 8)).off + 5, none⟩ = some (.slice A121_5 ((rd_T54 l0 x11_1).f4).length c121_5) ∧ w10.cell? ⟨(ad121.add ((x11_1).toNat * 8)).block, (ad121.add ((x11_1).toNat * 8)).off + 6, none⟩ = some (.slice A121_6 ((rd_T54 l0 x11_1).f5).length c121_6) ∧ w10.cell? ⟨(ad121.add ((x11_1).toNat * 8)).block, (ad121.add ((x11_1).toNat * 8)).off + 7, none⟩ = some (.slice A121_7 ((rd_T54 l0 x11_1).f6).length c121_7) ∧ w10.cell? (ad121.add ((x11_1).toNat * 8)) = some (.int .i64 ((rd_T54 l0 x11_1).f0)) ∧ w10.cell? ⟨(ad121.add ((x11_1).toNat * 8)).block, (ad121.add ((x11_1).toNat * 8)).off + 1, none⟩ = some (.string ((rd_T54 l0 x11_1).f1)) ∧ w10.cell? ⟨(ad121.add ((x11_1).toNat * 8)).block, (ad121.add ((x11_1).toNat * 8)).off + 2, none⟩ = some (.int .i64 ((rd_T54 l0 x11_1).f2.f0)) ∧ w10.cell? ⟨(ad121.add ((x11_1).toNat * 8)).block, (ad121.add ((x11_1).toNat * 8)).off + 3, none⟩ = some (.int .i64 ((rd_T54 l0 x11_1).f2.f1)) ∧ w10.cell? ⟨(ad121.add ((x11_1).toNat * 8)).block, (ad121.add ((x11_1).toNat * 8)).off + 4, none⟩ = some (.slice A121_4 ((rd_T54 l0 x11_1).f3).length c121_4) ∧ w10.cell? ⟨(ad121.add ((x11_1).toNat * 8)).block, (ad121.add ((x11_1).toNat * 8)).off + 5, none⟩ = some (.slice A121_5 ((rd_T54 l0 x11_1).f4).length c121_5) ∧ w10.cell? ⟨(ad121.add ((x11_1).toNat * 8)).block, (ad121.add ((x11_1).toNat * 8)).off + 6, none⟩ = some (.slice A121_6 ((rd_T54 l0 x11_1).f5).length c121_6) ∧ w10.cell? ⟨(ad121.add ((x11_1).toNat * 8)).block, (ad121.add ((x11_1).toNat * 8)).off + 7, none⟩ = some (.slice A121_7 ((rd_T54 l0 x11_1).f6).length c121_7) ∧ w10.cell? (ad121.add ((x11_1).toNat * 8)) = some (.int .i64 ((rd_T54 l0 x11_1).f0)) ∧ w10.cell? ⟨(ad121.add ((x11_1).toNat * 8)).block, (ad121.add ((x11_1).toNat * 8)).off + 1, none⟩ = some (.string ((rd_T54 l0 x11_1).f1)) ∧ w10.cell? ⟨(ad121.add ((x11_1).toNat * 8)).block, (ad121.add ((x11_1).toNat * 8)).off + 2, none⟩ = some (.int .i64 ((rd_T54 l0 x11_1).f2.f0)) ∧ w10.cell? ⟨(ad121.add ((x11_1).toNat * 8)).block, (ad121.add ((x11_1).toNat * 8)).off + 3, none⟩ = some (.int .i64 ((rd_T54 l0 x11_1).f2.f1)) ∧ w10.cell? ⟨(ad121.add ((x11_1).toNat * 8)).block, (ad121.add ((x11_1).toNat * 8)).off + 4, none⟩ = some (.slice A121_4 ((rd_T54 l0 x11_1).f3).length c121_4) ∧ w10.cell? ⟨(ad121.add ((x11_1).toNat * 8)).block, (ad121.add ((x11_1).toNat * 8)).off + 5, none⟩ = some (.slice A121_5 ((rd_T54 l0 x11_1).f4).length c121_5) ∧ w10.cell? ⟨(ad121.add ((x11_1).toNat * 8)).block, (ad121.add ((x11_1).toNat * 8)).off + 6, none⟩ = some (.slice A121_6 ((rd_T54 l0 x11_1).f5).length c121_6) ∧ w10.cell? ⟨(ad121.add ((x11_1).toNat * 8)).block, (ad121.add ((x11_1).toNat * 8)).off + 7, none⟩ = some (.slice A121_7 ((rd_T54 l0 x11_1).f6).length c121_7) := hS_
            obtain ⟨Ao11, co11, eo11⟩ := Kd.R_slice HO127.out
            (first | subst eo11 | (injection eo11 with f1_ f2_ f3_; have f4_ := f1_.symm; have f5_ := f3_.symm; clear f1_ f2_ f3_; subst f4_; subst f5_))
            refine norm_ (a' := ?_) ?_ ?_
            rotate_left
            · simp only [putAll, Act.put, List.setIfInBounds_toArray, List.set_cons_zero, List.set_cons_succ]
              rfl
            refine one_ (i := 23) (N := none) #[true, true, true, true, true, true, true, true, true, true, true, true, true, true, true, true, true, true, true, true, true, true, true, true] rfl rfl (one_of HT_.out (by kernel_rfl)) (by decide) (fun K hK => ?_)
            have hs12 : w10.cell? ⟨gb128, 0, none⟩ = some (.int .i64 0) := (blk_cell BK128.out 0).trans rfl
            have hfs12 := blk_frozen BK128.out 0
            have hs13 : w10.cell? ⟨gb128, 1, none⟩ = some (.string (⟨#[]⟩ : ByteArray)) := (blk_cell BK128.out 1).trans rfl
            have hfs13 := blk_frozen BK128.out 1
            have hs14 : w10.cell? ⟨gb128, 2, none⟩ = some (.int .i64 0) := (blk_cell BK128.out 2).trans rfl
            have hfs14 := blk_frozen BK128.out 2
            have hs15 : w10.cell? ⟨gb128, 3, none⟩ = some (.int .i64 0) := (blk_cell BK128.out 3).trans rfl
            have hfs15 := blk_frozen BK128.out 3
            have hs16 : w10.cell? ⟨gb128, 4, none⟩ = some (.slice none 0 0) := (blk_cell BK128.out 4).trans rfl
            have hfs16 := blk_frozen BK128.out 4
            have hs17 : w10.cell? ⟨gb128, 5, none⟩ = some (.slice none 0 0) := (blk_cell BK128.out 5).trans rfl
            have hfs17 := blk_frozen BK128.out 5
            have hs18 : w10.cell? ⟨gb128, 6, none⟩ = some (.slice none 0 0) := (blk_cell BK128.out 6).trans rfl
            have hfs18 := blk_frozen BK128.out 6
            have hs19 : w10.cell? ⟨gb128, 7, none⟩ = some (.slice none 0 0) := (blk_cell BK128.out 7).trans rfl
            have hfs19 := blk_frozen BK128.out 7
            refine skip_ (w1 := ?_) (by rfl) rfl ?_ ?_
            rotate_left
            · go_simp
              rfl
            refine hK.out _ _ ⟨((cell_far (p := ⟨gb128, _, none⟩) (Go.Proofs.YtbhfecciegfdjaaDoor.MyWords.far_ne hw121_0 GW128.out) _).trans (((cell_far (p := ⟨gb128, _, none⟩) (Go.Proofs.YtbhfecciegfdjaaDoor.MyWords.far_ne hw121_0 GW128.out) _).trans (((cell_far (p := ⟨gb128, _, none⟩) (Go.Proofs.YtbhfecciegfdjaaDoor.MyWords.far_ne hw121_0 GW128.out) _).trans (((cell_far (p := ⟨gb128, _, none⟩) (Go.Proofs.YtbhfecciegfdjaaDoor.MyWords.far_ne hw121_0 GW128.out) _).trans (((cell_far (p := ⟨gb128, _, none⟩) (Go.Proofs.YtbhfecciegfdjaaDoor.MyWords.far_ne hw121_0 GW128.out) _).trans (((cell_far (p := ⟨gb128, _, none⟩) (Go.Proofs.YtbhfecciegfdjaaDoor.MyWords.far_ne hw121_0 GW128.out) _).trans (((cell_far (p := ⟨gb128, _, none⟩) (Go.Proofs.YtbhfecciegfdjaaDoor.MyWords.far_ne hw121_0 GW128.out) _).trans (((cell_far (p := ⟨gb128, _, none⟩) (Go.Proofs.YtbhfecciegfdjaaDoor.MyWords.far_ne hw121_0 GW128.out) _).trans (hHeld.1)))))))))))))))), ((cell_far (p := ⟨gb128, _, none⟩) (Go.Proofs.YtbhfecciegfdjaaDoor.MyWords.far_ne hw121_1 GW128.out) _).trans (((cell_far (p := ⟨gb128, _, none⟩) (Go.Proofs.YtbhfecciegfdjaaDoor.MyWords.far_ne hw121_1 GW128.out) _).trans (((cell_far (p := ⟨gb128, _, none⟩) (Go.Proofs.YtbhfecciegfdjaaDoor.MyWords.far_ne hw121_1 GW128.out) _).trans (((cell_far (p := ⟨gb128, _, none⟩) (Go.Proofs.YtbhfecciegfdjaaDoor.MyWords.far_ne hw121_1 GW128.out) _).trans (((cell_far (p := ⟨gb128, _, none⟩) (Go.Proofs.YtbhfecciegfdjaaDoor.MyWords.far_ne hw121_1 GW128.out) _).trans (((cell_far (p := ⟨gb128, _, none⟩) (Go.Proofs.YtbhfecciegfdjaaDoor.MyWords.far_ne hw121_1 GW128.out) _).trans (((cell_far (p := ⟨gb128, _, none⟩) (Go.Proofs.YtbhfecciegfdjaaDoor.MyWords.far_ne hw121_1 GW128.out) _).trans (((cell_far (p := ⟨gb128, _, none⟩) (Go.Proofs.YtbhfecciegfdjaaDoor.MyWords.far_ne hw121_1 GW128.out) _).trans (hHeld.2.1)))))))))))))))), ((cell_far (p := ⟨gb128, _, none⟩) (Go.Proofs.YtbhfecciegfdjaaDoor.MyWords.far_ne hw121_2 GW128.out) _).trans (((cell_far (p := ⟨gb128, _, none⟩) (Go.Proofs.YtbhfecciegfdjaaDoor.MyWords.far_ne hw121_2 GW128.out) _).trans (((cell_far (p := ⟨gb128, _, none⟩) (Go.Proofs.YtbhfecciegfdjaaDoor.MyWords.far_ne hw121_2 GW128.out) _).trans (((cell_far (p := ⟨gb128, _, none⟩) (Go.Proofs.YtbhfecciegfdjaaDoor.MyWords.far_ne hw121_2 GW128.out) _).trans (((cell_far (p := ⟨gb128, _, none⟩) (Go.Proofs.YtbhfecciegfdjaaDoor.MyWords.far_ne hw121_2 GW128.out) _).trans (((cell_far (p := ⟨gb128, _, none⟩) (Go.Proofs.YtbhfecciegfdjaaDoor.MyWords.far_ne hw121_2 GW128.out) _).trans (((cell_far (p := ⟨gb128, _, none⟩) (Go.Proofs.YtbhfecciegfdjaaDoor.MyWords.far_ne hw121_2 GW128.out) _).trans (((cell_far (p := ⟨gb128, _, none⟩) (Go.Proofs.YtbhfecciegfdjaaDoor.MyWords.far_ne hw121_2 GW128.out) _).trans (hHeld.2.2.1)))))))))))))))), ((cell_far (p := ⟨gb128, _, none⟩) (Go.Proofs.YtbhfecciegfdjaaDoor.MyWords.far_ne hw121_3 GW128.out) _).trans (((cell_far (p := ⟨gb128, _, none⟩) (Go.Proofs.YtbhfecciegfdjaaDoor.MyWords.far_ne hw121_3 GW128.out) _).trans (((cell_far (p := ⟨gb128, _, none⟩) (Go.Proofs.YtbhfecciegfdjaaDoor.MyWords.far_ne hw121_3 GW128.out) _).trans (((cell_far (p := ⟨gb128, _, none⟩) (Go.Proofs.YtbhfecciegfdjaaDoor.MyWords.far_ne hw121_3 GW128.out) _).trans (((cell_far (p := ⟨gb128, _, none⟩) (Go.Proofs.YtbhfecciegfdjaaDoor.MyWords.far_ne hw121_3 GW128.out) _).trans (((cell_far (p := ⟨gb128, _, none⟩) (Go.Proofs.YtbhfecciegfdjaaDoor.MyWords.far_ne hw121_3 GW128.out) _).trans (((cell_far (p := ⟨gb128, _, none⟩) (Go.Proofs.YtbhfecciegfdjaaDoor.MyWords.far_ne hw121_3 GW128.out) _).trans (((cell_far (p := ⟨gb128, _, none⟩) (Go.Proofs.YtbhfecciegfdjaaDoor.MyWords.far_ne hw121_3 GW128.out) _).trans (hHeld.2.2.2.1)))))))))))))))), ((cell_far (p := ⟨gb128, _, none⟩) (Go.Proofs.YtbhfecciegfdjaaDoor.MyWords.far_ne hw121_4 GW128.out) _).trans (((cell_far (p := ⟨gb128, _, none⟩) (Go.Proofs.YtbhfecciegfdjaaDoor.MyWords.far_ne hw121_4 GW128.out) _).trans (((cell_far (p := ⟨gb128, _, none⟩) (Go.Proofs.YtbhfecciegfdjaaDoor.MyWords.far_ne hw121_4 GW128.out) _).trans (((cell_far (p := ⟨gb128, _, none⟩) (Go.Proofs.YtbhfecciegfdjaaDoor.MyWords.far_ne hw121_4 GW128.out) _).trans (((cell_far (p := ⟨gb128, _, none⟩) (Go.Proofs.YtbhfecciegfdjaaDoor.MyWords.far_ne hw121_4 GW128.out) _).trans (((cell_far (p := ⟨gb128, _, none⟩) (Go.Proofs.YtbhfecciegfdjaaDoor.MyWords.far_ne hw121_4 GW128.out) _).trans (((cell_far (p := ⟨gb128, _, none⟩) (Go.Proofs.YtbhfecciegfdjaaDoor.MyWords.far_ne hw121_4 GW128.out) _).trans (((cell_far (p := ⟨gb128, _, none⟩) (Go.Proofs.YtbhfecciegfdjaaDoor.MyWords.far_ne hw121_4 GW128.out) _).trans (hHeld.2.2.2.2.1)))))))))))))))), ((cell_far (p := ⟨gb128, _, none⟩) (Go.Proofs.YtbhfecciegfdjaaDoor.MyWords.far_ne hw121_5 GW128.out) _).trans (((cell_far (p := ⟨gb128, _, none⟩) (Go.Proofs.YtbhfecciegfdjaaDoor.MyWords.far_ne hw121_5 GW128.out) _).trans (((cell_far (p := ⟨gb128, _, none⟩) (Go.Proofs.YtbhfecciegfdjaaDoor.MyWords.far_ne hw121_5 GW128.out) _).trans (((cell_far (p := ⟨gb128, _, none⟩) (Go.Proofs.YtbhfecciegfdjaaDoor.MyWords.far_ne hw121_5 GW128.out) _).trans (((cell_far (p := ⟨gb128, _, none⟩) (Go.Proofs.YtbhfecciegfdjaaDoor.MyWords.far_ne hw121_5 GW128.out) _).trans (((cell_far (p := ⟨gb128, _, none⟩) (Go.Proofs.YtbhfecciegfdjaaDoor.MyWords.far_ne hw121_5 GW128.out) _).trans (((cell_far (p := ⟨gb128, _, none⟩) (Go.Proofs.YtbhfecciegfdjaaDoor.MyWords.far_ne hw121_5 GW128.out) _).trans (((cell_far (p := ⟨gb128, _, none⟩) (Go.Proofs.YtbhfecciegfdjaaDoor.MyWords.far_ne hw121_5 GW128.out) _).trans (hHeld.2.2.2.2.2.1)))))))))))))))), ((cell_far (p := ⟨gb128, _, none⟩) (Go.Proofs.YtbhfecciegfdjaaDoor.MyWords.far_ne hw121_6 GW128.out) _).trans (((cell_far (p := ⟨gb128, _, none⟩) (Go.Proofs.YtbhfecciegfdjaaDoor.MyWords.far_ne hw121_6 GW128.out) _).trans (((cell_far (p := ⟨gb128, _, none⟩) (Go.Proofs.YtbhfecciegfdjaaDoor.MyWords.far_ne hw121_6 GW128.out) _).trans (((cell_far (p := ⟨gb128, _, none⟩) (Go.Proofs.YtbhfecciegfdjaaDoor.MyWords.far_ne hw121_6 GW128.out) _).trans (((cell_far (p := ⟨gb128, _, none⟩) (Go.Proofs.YtbhfecciegfdjaaDoor.MyWords.far_ne hw121_6 GW128.out) _).trans (((cell_far (p := ⟨gb128, _, none⟩) (Go.Proofs.YtbhfecciegfdjaaDoor.MyWords.far_ne hw121_6 GW128.out) _).trans (((cell_far (p := ⟨gb128, _, none⟩) (Go.Proofs.YtbhfecciegfdjaaDoor.MyWords.far_ne hw121_6 GW128.out) _).trans (((cell_far (p := ⟨gb128, _, none⟩) (Go.Proofs.YtbhfecciegfdjaaDoor.MyWords.far_ne hw121_6 GW128.out) _).trans (hHeld.2.2.2.2.2.2.1)))))))))))))))), ((cell_far (p := ⟨gb128, _, none⟩) (Go.Proofs.YtbhfecciegfdjaaDoor.MyWords.far_ne hw121_7 GW128.out) _).trans (((cell_far (p := ⟨gb128, _, none⟩) (Go.Proofs.YtbhfecciegfdjaaDoor.MyWords.far_ne hw121_7 GW128.out) _).trans (((cell_far (p := ⟨gb128, _, none⟩) (Go.Proofs.YtbhfecciegfdjaaDoor.MyWords.far_ne hw121_7 GW128.out) _).trans (((cell_far (p := ⟨gb128, _, none⟩) (Go.Proofs.YtbhfecciegfdjaaDoor.MyWords.far_ne hw121_7 GW128.out) _).trans (((cell_far (p := ⟨gb128, _, none⟩) (Go.Proofs.YtbhfecciegfdjaaDoor.MyWords.far_ne hw121_7 GW128.out) _).trans (((cell_far (p := ⟨gb128, _, none⟩) (Go.Proofs.YtbhfecciegfdjaaDoor.MyWords.far_ne hw121_7 GW128.out) _).trans (((cell_far (p := ⟨gb128, _, none⟩) (Go.Proofs.YtbhfecciegfdjaaDoor.MyWords.far_ne hw121_7 GW128.out) _).trans (((cell_far (p := ⟨gb128, _, none⟩) (Go.Proofs.YtbhfecciegfdjaaDoor.MyWords.far_ne hw121_7 GW128.out) _).trans (hHeld.2.2.2.2.2.2.2.1)))))))))))))))), ((cell_far (p := ⟨gb128, _, none⟩) (Go.Proofs.YtbhfecciegfdjaaDoor.MyWords.far_ne hw122_0 GW128.out) _).trans (((cell_far (p := ⟨gb128, _, none⟩) (Go.Proofs.YtbhfecciegfdjaaDoor.MyWords.far_ne hw122_0 GW128.out) _).trans (((cell_far (p := ⟨gb128, _, none⟩) (Go.Proofs.YtbhfecciegfdjaaDoor.MyWords.far_ne hw122_0 GW128.out) _).trans (((cell_far (p := ⟨gb128, _, none⟩) (Go.Proofs.YtbhfecciegfdjaaDoor.MyWords.far_ne hw122_0 GW128.out) _).trans (((cell_far (p := ⟨gb128, _, none⟩) (Go.Proofs.YtbhfecciegfdjaaDoor.MyWords.far_ne hw122_0 GW128.out) _).trans (((cell_far (p := ⟨gb128, _, none⟩) (Go.Proofs.YtbhfecciegfdjaaDoor.MyWords.far_ne hw122_0 GW128.out) _).trans (((cell_far (p := ⟨gb128, _, none⟩) (Go.Proofs.YtbhfecciegfdjaaDoor.MyWords.far_ne hw122_0 GW128.out) _).trans (((cell_far (p := ⟨gb128, _, none⟩) (Go.Proofs.YtbhfecciegfdjaaDoor.MyWords.far_ne hw122_0 GW128.out) _).trans (hHeld.2.2.2.2.2.2.2.2.1)))))))))))))))), ((cell_far (p := ⟨gb128, _, none⟩) (Go.Proofs.YtbhfecciegfdjaaDoor.MyWords.far_ne hw122_1 GW128.out) _).trans (((cell_far (p := ⟨gb128, _, none⟩) (Go.Proofs.YtbhfecciegfdjaaDoor.MyWords.far_ne hw122_1 GW128.out) _).trans (((cell_far (p := ⟨gb128, _, none⟩) (Go.Proofs.YtbhfecciegfdjaaDoor.MyWords.far_ne hw122_1 GW128.out) _).trans (((cell_far (p := ⟨gb128, _, none⟩) (Go.Proofs.YtbhfecciegfdjaaDoor.MyWords.far_ne hw122_1 GW128.out) _).trans (((cell_far (p := ⟨gb128, _, none⟩) (Go.Proofs.YtbhfecciegfdjaaDoor.MyWords.far_ne hw122_1 GW128.out) _).trans (((cell_far (p := ⟨gb128, _, none⟩) (Go.Proofs.YtbhfecciegfdjaaDoor.MyWords.far_ne hw122_1 GW128.out) _).trans (((cell_far (p := ⟨gb128, _, none⟩) (Go.Proofs.YtbhfecciegfdjaaDoor.MyWords.far_ne hw122_1 GW128.out) _).trans (((cell_far (p := ⟨gb128, _, none⟩) (Go.Proofs.YtbhfecciegfdjaaDoor.MyWords.far_ne hw122_1 GW128.out) _).trans (hHeld.2.2.2.2.2.2.2.2.2.1)))))))))))))))), ((cell_far (p := ⟨gb128, _, none⟩) (Go.Proofs.YtbhfecciegfdjaaDoor.MyWords.far_ne hw122_2 GW128.out) _).trans (((cell_far (p := ⟨gb128, _, none⟩) (Go.Proofs.YtbhfecciegfdjaaDoor.MyWords.far_ne hw122_2 GW128.out) _).trans (((cell_far (p := ⟨gb128, _, none⟩) (Go.Proofs.YtbhfecciegfdjaaDoor.MyWords.far_ne hw122_2 GW128.out) _).trans (((cell_far (p := ⟨gb128, _, none⟩) (Go.Proofs.YtbhfecciegfdjaaDoor.MyWords.far_ne hw122_2 GW128.out) _).trans (((cell_far (p := ⟨gb128, _, none⟩) (Go.Proofs.YtbhfecciegfdjaaDoor.MyWords.far_ne hw122_2 GW128.out) _).trans (((cell_far (p := ⟨gb128, _, none⟩) (Go.Proofs.YtbhfecciegfdjaaDoor.MyWords.far_ne hw122_2 GW128.out) _).trans (((cell_far (p := ⟨gb128, _, none⟩) (Go.Proofs.YtbhfecciegfdjaaDoor.MyWords.far_ne hw122_2 GW128.out) _).trans (((cell_far (p := ⟨gb128, _, none⟩) (Go.Proofs.YtbhfecciegfdjaaDoor.MyWords.far_ne hw122_2 GW128.out) _).trans (hHeld.2.2.2.2.2.2.2.2.2.2.1)))))))))))))))), ((cell_far (p := ⟨gb128, _, none⟩) (Go.Proofs.YtbhfecciegfdjaaDoor.MyWords.far_ne hw122_3 GW128.out) _).trans (((cell_far (p := ⟨gb128, _, none⟩) (Go.Proofs.YtbhfecciegfdjaaDoor.MyWords.far_ne hw122_3 GW128.out) _).trans (((cell_far (p := ⟨gb128, _, none⟩) (Go.Proofs.YtbhfecciegfdjaaDoor.MyWords.far_ne hw122_3 GW128.out) _).trans (((cell_far (p := ⟨gb128, _, none⟩) (Go.Proofs.YtbhfecciegfdjaaDoor.MyWords.far_ne hw122_3 GW128.out) _).trans (((cell_far (p := ⟨gb128, _, none⟩) (Go.Proofs.YtbhfecciegfdjaaDoor.MyWords.far_ne hw122_3 GW128.out) _).trans (((cell_far (p := ⟨gb128, _, none⟩) (Go.Proofs.YtbhfecciegfdjaaDoor.MyWords.far_ne hw122_3 GW128.out) _).trans (((cell_far (p := ⟨gb128, _, none⟩) (Go.Proofs.YtbhfecciegfdjaaDoor.MyWords.far_ne hw122_3 GW128.out) _).trans (((cell_far (p := ⟨gb128, _, none⟩) (Go.Proofs.YtbhfecciegfdjaaDoor.MyWords.far_ne hw122_3 GW128.out) _).trans (hHeld.2.2.2.2.2.2.2.2.2.2.2.1)))))))))))))))), ((cell_far (p := ⟨gb128, _, none⟩) (Go.Proofs.YtbhfecciegfdjaaDoor.MyWords.far_ne hw122_4 GW128.out) _).trans (((cell_far (p := ⟨gb128, _, none⟩) (Go.Proofs.YtbhfecciegfdjaaDoor.MyWords.far_ne hw122_4 GW128.out) _).trans (((cell_far (p := ⟨gb128, _, none⟩) (Go.Proofs.YtbhfecciegfdjaaDoor.MyWords.far_ne hw122_4 GW128.out) _).trans (((cell_far (p := ⟨gb128, _, none⟩) (Go.Proofs.YtbhfecciegfdjaaDoor.MyWords.far_ne hw122_4 GW128.out) _).trans (((cell_far (p := ⟨gb128, _, none⟩) (Go.Proofs.YtbhfecciegfdjaaDoor.MyWords.far_ne hw122_4 GW128.out) _).trans (((cell_far (p := ⟨gb128, _, none⟩) (Go.Proofs.YtbhfecciegfdjaaDoor.MyWords.far_ne hw122_4 GW128.out) _).trans (((cell_far (p := ⟨gb128, _, none⟩) (Go.Proofs.YtbhfecciegfdjaaDoor.MyWords.far_ne hw122_4 GW128.out) _).trans (((cell_far (p := ⟨gb128, _, none⟩) (Go.Proofs.YtbhfecciegfdjaaDoor.MyWords.far_ne hw122_4 GW128.out) _).trans (hHeld.2.2.2.2.2.2.2.2.2.2.2.2.1)))))))))))))))), ((cell_far (p := ⟨gb128, _, none⟩) (Go.Proofs.YtbhfecciegfdjaaDoor.MyWords.far_ne hw122_5 GW128.out) _).trans (((cell_far (p := ⟨gb128, _, none⟩) (Go.Proofs.YtbhfecciegfdjaaDoor.MyWords.far_ne hw122_5 GW128.out) _).trans (((cell_far (p := ⟨gb128, _, none⟩) (Go.Proofs.YtbhfecciegfdjaaDoor.MyWords.far_ne hw122_5 GW128.out) _).trans (((cell_far (p := ⟨gb128, _, none⟩) (Go.Proofs.YtbhfecciegfdjaaDoor.MyWords.far_ne hw122_5 GW128.out) _).trans (((cell_far (p := ⟨gb128, _, none⟩) (Go.Proofs.YtbhfecciegfdjaaDoor.MyWords.far_ne hw122_5 GW128.out) _).trans (((cell_far (p := ⟨gb128, _, none⟩) (Go.Proofs.YtbhfecciegfdjaaDoor.MyWords.far_ne hw122_5 GW128.out) _).trans (((cell_far (p := ⟨gb128, _, none⟩) (Go.Proofs.YtbhfecciegfdjaaDoor.MyWords.far_ne hw122_5 GW128.out) _).trans (((cell_far (p := ⟨gb128, _, none⟩) (Go.Proofs.YtbhfecciegfdjaaDoor.MyWords.far_ne hw122_5 GW128.out) _).trans (hHeld.2.2.2.2.2.2.2.2.2.2.2.2.2.1)))))))))))))))), ((cell_far (p := ⟨gb128, _, none⟩) (Go.Proofs.YtbhfecciegfdjaaDoor.MyWords.far_ne hw122_6 GW128.out) _).trans (((cell_far (p := ⟨gb128, _, none⟩) (Go.Proofs.YtbhfecciegfdjaaDoor.MyWords.far_ne hw122_6 GW128.out) _).trans (((cell_far (p := ⟨gb128, _, none⟩) (Go.Proofs.YtbhfecciegfdjaaDoor.MyWords.far_ne hw122_6 GW128.out) _).trans (((cell_far (p := ⟨gb128, _, none⟩) (Go.Proofs.YtbhfecciegfdjaaDoor.MyWords.far_ne hw122_6 GW128.out) _).trans (((cell_far (p := ⟨gb128, _, none⟩) (Go.Proofs.YtbhfecciegfdjaaDoor.MyWords.far_ne hw122_6 GW128.out) _).trans (((cell_far (p := ⟨gb128, _, none⟩) (Go.Proofs.YtbhfecciegfdjaaDoor.MyWords.far_ne hw122_6 GW128.out) _).trans (((cell_far (p := ⟨gb128, _, none⟩) (Go.Proofs.YtbhfecciegfdjaaDoor.MyWords.far_ne hw122_6 GW128.out) _).trans (((cell_far (p := ⟨gb128, _, none⟩) (Go.Proofs.YtbhfecciegfdjaaDoor.MyWords.far_ne hw122_6 GW128.out) _).trans (hHeld.2.2.2.2.2.2.2.2.2.2.2.2.2.2.1)))))))))))))))), ((cell_far (p := ⟨gb128, _, none⟩) (Go.Proofs.YtbhfecciegfdjaaDoor.MyWords.far_ne hw122_7 GW128.out) _).trans (((cell_far (p := ⟨gb128, _, none⟩) (Go.Proofs.YtbhfecciegfdjaaDoor.MyWords.far_ne hw122_7 GW128.out) _).trans (((cell_far (p := ⟨gb128, _, none⟩) (Go.Proofs.YtbhfecciegfdjaaDoor.MyWords.far_ne hw122_7 GW128.out) _).trans (((cell_far (p := ⟨gb128, _, none⟩) (Go.Proofs.YtbhfecciegfdjaaDoor.MyWords.far_ne hw122_7 GW128.out) _).trans (((cell_far (p := ⟨gb128, _, none⟩) (Go.Proofs.YtbhfecciegfdjaaDoor.MyWords.far_ne hw122_7 GW128.out) _).trans (((cell_far (p := ⟨gb128, _, none⟩) (Go.Proofs.YtbhfecciegfdjaaDoor.MyWords.far_ne hw122_7 GW128.out) _).trans (((cell_far (p := ⟨gb128, _, none⟩) (Go.Proofs.YtbhfecciegfdjaaDoor.MyWords.far_ne hw122_7 GW128.out) _).trans (((cell_far (p := ⟨gb128, _, none⟩) (Go.Proofs.YtbhfecciegfdjaaDoor.MyWords.far_ne hw122_7 GW128.out) _).trans (hHeld.2.2.2.2.2.2.2.2.2.2.2.2.2.2.2.1)))))))))))))))), ((cell_far (p := ⟨gb128, _, none⟩) (Go.Proofs.YtbhfecciegfdjaaDoor.MyWords.far_ne hw123_0 GW128.out) _).trans (((cell_far (p := ⟨gb128, _, none⟩) (Go.Proofs.YtbhfecciegfdjaaDoor.MyWords.far_ne hw123_0 GW128.out) _).trans (((cell_far (p := ⟨gb128, _, none⟩) (Go.Proofs.YtbhfecciegfdjaaDoor.MyWords.far_ne hw123_0 GW128.out) _).trans (((cell_far (p := ⟨gb128, _, none⟩) (Go.Proofs.YtbhfecciegfdjaaDoor.MyWords.far_ne hw123_0 GW128.out) _).trans (((cell_far (p := ⟨gb128, _, none⟩) (Go.Proofs.YtbhfecciegfdjaaDoor.MyWords.far_ne hw123_0 GW128.out) _).trans (((cell_far (p := ⟨gb128, _, none⟩) (Go.Proofs.YtbhfecciegfdjaaDoor.MyWords.far_ne hw123_0 GW128.out) _).trans (((cell_far (p := ⟨gb128, _, none⟩) (Go.Proofs.YtbhfecciegfdjaaDoor.MyWords.far_ne hw123_0 GW128.out) _).trans (((cell_far (p := ⟨gb128, _, none⟩) (Go.Proofs.YtbhfecciegfdjaaDoor.MyWords.far_ne hw123_0 GW128.out) _).trans (hHeld.2.2.2.2.2.2.2.2.2.2.2.2.2.2.2.2.1)))))))))))))))), ((cell_far (p := ⟨gb128, _, none⟩) (Go.Proofs.YtbhfecciegfdjaaDoor.MyWords.far_ne hw123_1 GW128.out) _).trans (((cell_far (p := ⟨gb128, _, none⟩) (Go.Proofs.YtbhfecciegfdjaaDoor.MyWords.far_ne hw123_1 GW128.out) _).trans (((cell_far (p := ⟨gb128, _, none⟩) (Go.Proofs.YtbhfecciegfdjaaDoor.MyWords.far_ne hw123_1 GW128.out) _).trans (((cell_far (p := ⟨gb128, _, none⟩) (Go.Proofs.YtbhfecciegfdjaaDoor.MyWords.far_ne hw123_1 GW128.out) _).trans (((cell_far (p := ⟨gb128, _, none⟩) (Go.Proofs.YtbhfecciegfdjaaDoor.MyWords.far_ne hw123_1 GW128.out) _).trans (((cell_far (p := ⟨gb128, _, none⟩) (Go.Proofs.YtbhfecciegfdjaaDoor.MyWords.far_ne hw123_1 GW128.out) _).trans (((cell_far (p := ⟨gb128, _, none⟩) (Go.Proofs.YtbhfecciegfdjaaDoor.MyWords.far_ne hw123_1 GW128.out) _).trans (((cell_far (p := ⟨gb128, _, none⟩) (Go.Proofs.YtbhfecciegfdjaaDoor.MyWords.far_ne hw123_1 GW128.out) _).trans (hHeld.2.2.2.2.2.2.2.2.2.2.2.2.2.2.2.2.2.1)))))))))))))))), ((cell_far (p := ⟨gb128, _, none⟩) (Go.Proofs.YtbhfecciegfdjaaDoor.MyWords.far_ne hw123_2 GW128.out) _).trans (((cell_far (p := ⟨gb128, _, none⟩) (Go.Proofs.YtbhfecciegfdjaaDoor.MyWords.far_ne hw123_2 GW128.out) _).trans (((cell_far (p := ⟨gb128, _, none⟩) (Go.Proofs.YtbhfecciegfdjaaDoor.MyWords.far_ne hw123_2 GW128.out) _).trans (((cell_far (p := ⟨gb128, _, none⟩) (Go.Proofs.YtbhfecciegfdjaaDoor.MyWords.far_ne hw123_2 GW128.out) _).trans (((cell_far (p := ⟨gb128, _, none⟩) (Go.Proofs.YtbhfecciegfdjaaDoor.MyWords.far_ne hw123_2 GW128.out) _).trans (((cell_far (p := ⟨gb128, _, none⟩) (Go.Proofs.YtbhfecciegfdjaaDoor.MyWords.far_ne hw123_2 GW128.out) _).trans (((cell_far (p := ⟨gb128, _, none⟩) (Go.Proofs.YtbhfecciegfdjaaDoor.MyWords.far_ne hw123_2 GW128.out) _).trans (((cell_far (p := ⟨gb128, _, none⟩) (Go.Proofs.YtbhfecciegfdjaaDoor.MyWords.far_ne hw123_2 GW128.out) _).trans (hHeld.2.2.2.2.2.2.2.2.2.2.2.2.2.2.2.2.2.2.1)))))))))))))))), ((cell_far (p := ⟨gb128, _, none⟩) (Go.Proofs.YtbhfecciegfdjaaDoor.MyWords.far_ne hw123_3 GW128.out) _).trans (((cell_far (p := ⟨gb128, _, none⟩) (Go.Proofs.YtbhfecciegfdjaaDoor.MyWords.far_ne hw123_3 GW128.out) _).trans (((cell_far (p := ⟨gb128, _, none⟩) (Go.Proofs.YtbhfecciegfdjaaDoor.MyWords.far_ne hw123_3 GW128.out) _).trans (((cell_far (p := ⟨gb128, _, none⟩) (Go.Proofs.YtbhfecciegfdjaaDoor.MyWords.far_ne hw123_3 GW128.out) _).trans (((cell_far (p := ⟨gb128, _, none⟩) (Go.Proofs.YtbhfecciegfdjaaDoor.MyWords.far_ne hw123_3 GW128.out) _).trans (((cell_far (p := ⟨gb128, _, none⟩) (Go.Proofs.YtbhfecciegfdjaaDoor.MyWords.far_ne hw123_3 GW128.out) _).trans (((cell_far (p := ⟨gb128, _, none⟩) (Go.Proofs.YtbhfecciegfdjaaDoor.MyWords.far_ne hw123_3 GW128.out) _).trans (((cell_far (p := ⟨gb128, _, none⟩) (Go.Proofs.YtbhfecciegfdjaaDoor.MyWords.far_ne hw123_3 GW128.out) _).trans (hHeld.2.2.2.2.2.2.2.2.2.2.2.2.2.2.2.2.2.2.2.1)))))))))))))))), ((cell_far (p := ⟨gb128, _, none⟩) (Go.Proofs.YtbhfecciegfdjaaDoor.MyWords.far_ne hw123_4 GW128.out) _).trans (((cell_far (p := ⟨gb128, _, none⟩) (Go.Proofs.YtbhfecciegfdjaaDoor.MyWords.far_ne hw123_4 GW128.out) _).trans (((cell_far (p := ⟨gb128, _, none⟩) (Go.Proofs.YtbhfecciegfdjaaDoor.MyWords.far_ne hw123_4 GW128.out) _).trans (((cell_far (p := ⟨gb128, _, none⟩) (Go.Proofs.YtbhfecciegfdjaaDoor.MyWords.far_ne hw123_4 GW128.out) _).trans (((cell_far (p := ⟨gb128, _, none⟩) (Go.Proofs.YtbhfecciegfdjaaDoor.MyWords.far_ne hw123_4 GW128.out) _).trans (((cell_far (p := ⟨gb128, _, none⟩) (Go.Proofs.YtbhfecciegfdjaaDoor.MyWords.far_ne hw123_4 GW128.out) _).trans (((cell_far (p := ⟨gb128, _, none⟩) (Go.Proofs.YtbhfecciegfdjaaDoor.MyWords.far_ne hw123_4 GW128.out) _).trans (((cell_far (p := ⟨gb128, _, none⟩) (Go.Proofs.YtbhfecciegfdjaaDoor.MyWords.far_ne hw123_4 GW128.out) _).trans (hHeld.2.2.2.2.2.2.2.2.2.2.2.2.2.2.2.2.2.2.2.2.1)))))))))))))))), ((cell_far (p := ⟨gb128, _, none⟩) (Go.Proofs.YtbhfecciegfdjaaDoor.MyWords.far_ne hw123_5 GW128.out) _).trans (((cell_far (p := ⟨gb128, _, none⟩) (Go.Proofs.YtbhfecciegfdjaaDoor.MyWords.far_ne hw123_5 GW128.out) _).trans (((cell_far (p := ⟨gb128, _, none⟩) (Go.Proofs.YtbhfecciegfdjaaDoor.MyWords.far_ne hw123_5 GW128.out) _).trans (((cell_far (p := ⟨gb128, _, none⟩) (Go.Proofs.YtbhfecciegfdjaaDoor.MyWords.far_ne hw123_5 GW128.out) _).trans (((cell_far (p := ⟨gb128, _, none⟩) (Go.Proofs.YtbhfecciegfdjaaDoor.MyWords.far_ne hw123_5 GW128.out) _).trans (((cell_far (p := ⟨gb128, _, none⟩) (Go.Proofs.YtbhfecciegfdjaaDoor.MyWords.far_ne hw123_5 GW128.out) _).trans (((cell_far (p := ⟨gb128, _, none⟩) (Go.Proofs.YtbhfecciegfdjaaDoor.MyWords.far_ne hw123_5 GW128.out) _).trans (((cell_far (p := ⟨gb128, _, none⟩) (Go.Proofs.YtbhfecciegfdjaaDoor.MyWords.far_ne hw123_5 GW128.out) _).trans (hHeld.2.2.2.2.2.2.2.2.2.2.2.2.2.2.2.2.2.2.2.2.2.1)))))))))))))))), ((cell_far (p := ⟨gb128, _, none⟩) (Go.Proofs.YtbhfecciegfdjaaDoor.MyWords.far_ne hw123_6 GW128.out) _).trans (((cell_far (p := ⟨gb128, _, none⟩) (Go.Proofs.YtbhfecciegfdjaaDoor.MyWords.far_ne hw123_6 GW128.out) _).trans (((cell_far (p := ⟨gb128, _, none⟩) (Go.Proofs.YtbhfecciegfdjaaDoor.MyWords.far_ne hw123_6 GW128.out) _).trans (((cell_far (p := ⟨gb128, _, none⟩) (Go.Proofs.YtbhfecciegfdjaaDoor.MyWords.far_ne hw123_6 GW128.out) _).trans (((cell_far (p := ⟨gb128, _, none⟩) (Go.Proofs.YtbhfecciegfdjaaDoor.MyWords.far_ne hw123_6 GW128.out) _).trans (((cell_far (p := ⟨gb128, _, none⟩) (Go.Proofs.YtbhfecciegfdjaaDoor.MyWords.far_ne hw123_6 GW128.out) _).trans (((cell_far (p := ⟨gb128, _, none⟩) (Go.Proofs.YtbhfecciegfdjaaDoor.MyWords.far_ne hw123_6 GW128.out) _).trans (((cell_far (p := ⟨gb128, _, none⟩) (Go.Proofs.YtbhfecciegfdjaaDoor.MyWords.far_ne hw123_6 GW128.out) _).trans (hHeld.2.2.2.2.2.2.2.2.2.2.2.2.2.2.2.2.2.2.2.2.2.2.1)))))))))))))))), ((cell_far (p := ⟨gb128, _, none⟩) (Go.Proofs.YtbhfecciegfdjaaDoor.MyWords.far_ne hw123_7 GW128.out) _).trans (((cell_far (p := ⟨gb128, _, none⟩) (Go.Proofs.YtbhfecciegfdjaaDoor.MyWords.far_ne hw123_7 GW128.out) _).trans (((cell_far (p := ⟨gb128, _, none⟩) (Go.Proofs.YtbhfecciegfdjaaDoor.MyWords.far_ne hw123_7 GW128.out) _).trans (((cell_far (p := ⟨gb128, _, none⟩) (Go.Proofs.YtbhfecciegfdjaaDoor.MyWords.far_ne hw123_7 GW128.out) _).trans (((cell_far (p := ⟨gb128, _, none⟩) (Go.Proofs.YtbhfecciegfdjaaDoor.MyWords.far_ne hw123_7 GW128.out) _).trans (((cell_far (p := ⟨gb128, _, none⟩) (Go.Proofs.YtbhfecciegfdjaaDoor.MyWords.far_ne hw123_7 GW128.out) _).trans (((cell_far (p := ⟨gb128, _, none⟩) (Go.Proofs.YtbhfecciegfdjaaDoor.MyWords.far_ne hw123_7 GW128.out) _).trans (((cell_far (p := ⟨gb128, _, none⟩) (Go.Proofs.YtbhfecciegfdjaaDoor.MyWords.far_ne hw123_7 GW128.out) _).trans (hHeld.2.2.2.2.2.2.2.2.2.2.2.2.2.2.2.2.2.2.2.2.2.2.2.1)))))))))))))))), ((cell_far (p := ⟨gb128, _, none⟩) (Go.Proofs.YtbhfecciegfdjaaDoor.MyWords.far_ne hw124_0 GW128.out) _).trans (((cell_far (p := ⟨gb128, _, none⟩) (Go.Proofs.YtbhfecciegfdjaaDoor.MyWords.far_ne hw124_0 GW128.out) _).trans (((cell_far (p := ⟨gb128, _, none⟩) (Go.Proofs.YtbhfecciegfdjaaDoor.MyWords.far_ne hw124_0 GW128.out) _).trans (((cell_far (p := ⟨gb128, _, none⟩) (Go.Proofs.YtbhfecciegfdjaaDoor.MyWords.far_ne hw124_0 GW128.out) _).trans (((cell_far (p := ⟨gb128, _, none⟩) (Go.Proofs.YtbhfecciegfdjaaDoor.MyWords.far_ne hw124_0 GW128.out) _).trans (((cell_far (p := ⟨gb128, _, none⟩) (Go.Proofs.YtbhfecciegfdjaaDoor.MyWords.far_ne hw124_0 GW128.out) _).trans (((cell_far (p := ⟨gb128, _, none⟩) (Go.Proofs.YtbhfecciegfdjaaDoor.MyWords.far_ne hw124_0 GW128.out) _).trans (((cell_far (p := ⟨gb128, _, none⟩) (Go.Proofs.YtbhfecciegfdjaaDoor.MyWords.far_ne hw124_0 GW128.out) _).trans (hHeld.2.2.2.2.2.2.2.2.2.2.2.2.2.2.2.2.2.2.2.2.2.2.2.2.1)))))))))))))))), ((cell_far (p := ⟨gb128, _, none⟩) (Go.Proofs.YtbhfecciegfdjaaDoor.MyWords.far_ne hw124_1 GW128.out) _).trans (((cell_far (p := ⟨gb128, _, none⟩) (Go.Proofs.YtbhfecciegfdjaaDoor.MyWords.far_ne hw124_1 GW128.out) _).trans (((cell_far (p := ⟨gb128, _, none⟩) (Go.Proofs.YtbhfecciegfdjaaDoor.MyWords.far_ne hw124_1 GW128.out) _).trans (((cell_far (p := ⟨gb128, _, none⟩) (Go.Proofs.YtbhfecciegfdjaaDoor.MyWords.far_ne hw124_1 GW128.out) _).trans (((cell_far (p := ⟨gb128, _, none⟩) (Go.Proofs.YtbhfecciegfdjaaDoor.MyWords.far_ne hw124_1 GW128.out) _).trans (((cell_far (p := ⟨gb128, _, none⟩) (Go.Proofs.YtbhfecciegfdjaaDoor.MyWords.far_ne hw124_1 GW128.out) _).trans (((cell_far (p := ⟨gb128, _, none⟩) (Go.Proofs.YtbhfecciegfdjaaDoor.MyWords.far_ne hw124_1 GW128.out) _).trans (((cell_far (p := ⟨gb128, _, none⟩) (Go.Proofs.YtbhfecciegfdjaaDoor.MyWords.far_ne hw124_1 GW128.out) _).trans (hHeld.2.2.2.2.2.2.2.2.2.2.2.2.2.2.2.2.2.2.2.2.2.2.2.2.2.1)))))))))))))))), ((cell_far (p := ⟨gb128, _, none⟩) (Go.Proofs.YtbhfecciegfdjaaDoor.MyWords.far_ne hw124_2 GW128.out) _).trans (((cell_far (p := ⟨gb128, _, none⟩) (Go.Proofs.YtbhfecciegfdjaaDoor.MyWords.far_ne hw124_2 GW128.out) _).trans (((cell_far (p := ⟨gb128, _, none⟩) (Go.Proofs.YtbhfecciegfdjaaDoor.MyWords.far_ne hw124_2 GW128.out) _).trans (((cell_far (p := ⟨gb128, _, none⟩) (Go.Proofs.YtbhfecciegfdjaaDoor.MyWords.far_ne hw124_2 GW128.out) _).trans (((cell_far (p := ⟨gb128, _, none⟩) (Go.Proofs.YtbhfecciegfdjaaDoor.MyWords.far_ne hw124_2 GW128.out) _).trans (((cell_far (p := ⟨gb128, _, none⟩) (Go.Proofs.YtbhfecciegfdjaaDoor.MyWords.far_ne hw124_2 GW128.out) _).trans (((cell_far (p := ⟨gb128, _, none⟩) (Go.Proofs.YtbhfecciegfdjaaDoor.MyWords.far_ne hw124_2 GW128.out) _).trans (((cell_far (p := ⟨gb128, _, none⟩) (Go.Proofs.YtbhfecciegfdjaaDoor.MyWords.far_ne hw124_2 GW128.out) _).trans (hHeld.2.2.2.2.2.2.2.2.2.2.2.2.2.2.2.2.2.2.2.2.2.2.2.2.2.2.1)))))))))))))))), ((cell_far (p := ⟨gb128, _, none⟩) (Go.Proofs.YtbhfecciegfdjaaDoor.MyWords.far_ne hw124_3 GW128.out) _).trans (((cell_far (p := ⟨gb128, _, none⟩) (Go.Proofs.YtbhfecciegfdjaaDoor.MyWords.far_ne hw124_3 GW128.out) _).trans (((cell_far (p := ⟨gb128, _, none⟩) (Go.Proofs.YtbhfecciegfdjaaDoor.MyWords.far_ne hw124_3 GW128.out) _).trans (((cell_far (p := ⟨gb128, _, none⟩) (Go.Proofs.YtbhfecciegfdjaaDoor.MyWords.far_ne hw124_3 GW128.out) _).trans (((cell_far (p := ⟨gb128, _, none⟩) (Go.Proofs.YtbhfecciegfdjaaDoor.MyWords.far_ne hw124_3 GW128.out) _).trans (((cell_far (p := ⟨gb128, _, none⟩) (Go.Proofs.YtbhfecciegfdjaaDoor.MyWords.far_ne hw124_3 GW128.out) _).trans (((cell_far (p := ⟨gb128, _, none⟩) (Go.Proofs.YtbhfecciegfdjaaDoor.MyWords.far_ne hw124_3 GW128.out) _).trans (((cell_far (p := ⟨gb128, _, none⟩) (Go.Proofs.YtbhfecciegfdjaaDoor.MyWords.far_ne hw124_3 GW128.out) _).trans (hHeld.2.2.2.2.2.2.2.2.2.2.2.2.2.2.2.2.2.2.2.2.2.2.2.2.2.2.2.1)))))))))))))))), ((cell_far (p := ⟨gb128, _, none⟩) (Go.Proofs.YtbhfecciegfdjaaDoor.MyWords.far_ne hw124_4 GW128.out) _).trans (((cell_far (p := ⟨gb128, _, none⟩) (Go.Proofs.YtbhfecciegfdjaaDoor.MyWords.far_ne hw124_4 GW128.out) _).trans (((cell_far (p := ⟨gb128, _, none⟩) (Go.Proofs.YtbhfecciegfdjaaDoor.MyWords.far_ne hw124_4 GW128.out) _).trans (((cell_far (p := ⟨gb128, _, none⟩) (Go.Proofs.YtbhfecciegfdjaaDoor.MyWords.far_ne hw124_4 GW128.out) _).trans (((cell_far (p := ⟨gb128, _, none⟩) (Go.Proofs.YtbhfecciegfdjaaDoor.MyWords.far_ne hw124_4 GW128.out) _).trans (((cell_far (p := ⟨gb128, _, none⟩) (Go.Proofs.YtbhfecciegfdjaaDoor.MyWords.far_ne hw124_4 GW128.out) _).trans (((cell_far (p := ⟨gb128, _, none⟩) (Go.Proofs.YtbhfecciegfdjaaDoor.MyWords.far_ne hw124_4 GW128.out) _).trans (((cell_far (p := ⟨gb128, _, none⟩) (Go.Proofs.YtbhfecciegfdjaaDoor.MyWords.far_ne hw124_4 GW128.out) _).trans (hHeld.2.2.2.2.2.2.2.2.2.2.2.2.2.2.2.2.2.2.2.2.2.2.2.2.2.2.2.2.1)))))))))))))))), ((cell_far (p := ⟨gb128, _, none⟩) (Go.Proofs.YtbhfecciegfdjaaDoor.MyWords.far_ne hw124_5 GW128.out) _).trans (((cell_far (p := ⟨gb128, _, none⟩) (Go.Proofs.YtbhfecciegfdjaaDoor.MyWords.far_ne hw124_5 GW128.out) _).trans (((cell_far (p := ⟨gb128, _, none⟩) (Go.Proofs.YtbhfecciegfdjaaDoor.MyWords.far_ne hw124_5 GW128.out) _).trans (((cell_far (p := ⟨gb128, _, none⟩) (Go.Proofs.YtbhfecciegfdjaaDoor.MyWords.far_ne hw124_5 GW128.out) _).trans (((cell_far (p := ⟨gb128, _, none⟩) (Go.Proofs.YtbhfecciegfdjaaDoor.MyWords.far_ne hw124_5 GW128.out) _).trans (((cell_far (p := ⟨gb128, _, none⟩) (Go.Proofs.YtbhfecciegfdjaaDoor.MyWords.far_ne hw124_5 GW128.out) _).trans (((cell_far (p := ⟨gb128, _, none⟩) (Go.Proofs.YtbhfecciegfdjaaDoor.MyWords.far_ne hw124_5 GW128.out) _).trans (((cell_far (p := ⟨gb128, _, none⟩) (Go.Proofs.YtbhfecciegfdjaaDoor.MyWords.far_ne hw124_5 GW128.out) _).trans (hHeld.2.2.2.2.2.2.2.2.2.2.2.2.2.2.2.2.2.2.2.2.2.2.2.2.2.2.2.2.2.1)))))))))))))))), ((cell_far (p := ⟨gb128, _, none⟩) (Go.Proofs.YtbhfecciegfdjaaDoor.MyWords.far_ne hw124_6 GW128.out) _).trans (((cell_far (p := ⟨gb128, _, none⟩) (Go.Proofs.YtbhfecciegfdjaaDoor.MyWords.far_ne hw124_6 GW128.out) _).trans (((cell_far (p := ⟨gb128, _, none⟩) (Go.Proofs.YtbhfecciegfdjaaDoor.MyWords.far_ne hw124_6 GW128.out) _).trans (((cell_far (p := ⟨gb128, _, none⟩) (Go.Proofs.YtbhfecciegfdjaaDoor.MyWords.far_ne hw124_6 GW128.out) _).trans (((cell_far (p := ⟨gb128, _, none⟩) (Go.Proofs.YtbhfecciegfdjaaDoor.MyWords.far_ne hw124_6 GW128.out) _).trans (((cell_far (p := ⟨gb128, _, none⟩) (Go.Proofs.YtbhfecciegfdjaaDoor.MyWords.far_ne hw124_6 GW128.out) _).trans (((cell_far (p := ⟨gb128, _, none⟩) (Go.Proofs.YtbhfecciegfdjaaDoor.MyWords.far_ne hw124_6 GW128.out) _).trans (((cell_far (p := ⟨gb128, _, none⟩) (Go.Proofs.YtbhfecciegfdjaaDoor.MyWords.far_ne hw124_6 GW128.out) _).trans (hHeld.2.2.2.2.2.2.2.2.2.2.2.2.2.2.2.2.2.2.2.2.2.2.2.2.2.2.2.2.2.2.1)))))))))))))))), ((cell_far (p := ⟨gb128, _, none⟩) (Go.Proofs.YtbhfecciegfdjaaDoor.MyWords.far_ne hw124_7 GW128.out) _).trans (((cell_far (p := ⟨gb128, _, none⟩) (Go.Proofs.YtbhfecciegfdjaaDoor.MyWords.far_ne hw124_7 GW128.out) _).trans (((cell_far (p := ⟨gb128, _, none⟩) (Go.Proofs.YtbhfecciegfdjaaDoor.MyWords.far_ne hw124_7 GW128.out) _).trans (((cell_far (p := ⟨gb128, _, none⟩) (Go.Proofs.YtbhfecciegfdjaaDoor.MyWords.far_ne hw124_7 GW128.out) _).trans (((cell_far (p := ⟨gb128, _, none⟩) (Go.Proofs.YtbhfecciegfdjaaDoor.MyWords.far_ne hw124_7 GW128.out) _).trans (((cell_far (p := ⟨gb128, _, none⟩) (Go.Proofs.YtbhfecciegfdjaaDoor.MyWords.far_ne hw124_7 GW128.out) _).trans (((cell_far (p := ⟨gb128, _, none⟩) (Go.Proofs.YtbhfecciegfdjaaDoor.MyWords.far_ne hw124_7 GW128.out) _).trans (((cell_far (p := ⟨gb128, _, none⟩) (Go.Proofs.YtbhfecciegfdjaaDoor.MyWords.far_ne hw124_7 GW128.out) _).trans (hHeld.2.2.2.2.2.2.2.2.2.2.2.2.2.2.2.2.2.2.2.2.2.2.2.2.2.2.2.2.2.2.2))))))))))))))))⟩ (fun hHeld => ?_)
            clear hK K
            refine done_ (done_of HT_.out (by kernel_rfl)) ?_
            have p129 : 0 ≤ (x11_1 : Int) := of_decide_eq_true (by first | (with_reducible assumption) | assumption)
            have q129 : x11_1 < (l0.length : Int) := of_decide_eq_true (by first | (with_reducible assumption) | assumption)
            obtain ⟨ad129, A129_4, c129_4, A129_5, c129_5, A129_6, c129_6, A129_7, c129_7, e129, hx129_0, hx129_1, hx129_2, hx129_3, hx129_4, hx129_5, hx129_6, hx129_7, hl129_4, hi129_4, hl129_5, hi129_5, hl129_6, hi129_6, hl129_7, hi129_7⟩ := at_T54 HR0.out x11_1 p129 q129
            obtain rfl : ad121 = ad129 := (by injection e129)
            have hn129_0 : ad121.block ≠ gb128 := Nat.ne_of_lt (Nat.lt_of_lt_of_le (by have := World.block_lt_of_cell? _ _ hx129_0; first | rwa [add_block] at this | exact this) GW128.out)
            have hn129_1 : ad121.block ≠ gb128 := Nat.ne_of_lt (Nat.lt_of_lt_of_le (by have := World.block_lt_of_cell? _ _ hx129_0; first | rwa [add_block] at this | exact this) GW128.out)
            have hn129_2 : ad121.block ≠ gb128 := Nat.ne_of_lt (Nat.lt_of_lt_of_le (by have := World.block_lt_of_cell? _ _ hx129_0; first | rwa [add_block] at this | exact this) GW128.out)
            have hn129_3 : ad121.block ≠ gb128 := Nat.ne_of_lt (Nat.lt_of_lt_of_le (by have := World.block_lt_of_cell? _ _ hx129_0; first | rwa [add_block] at this | exact this) GW128.out)
            have hn129_4 : ad121.block ≠ gb128 := Nat.ne_of_lt (Nat.lt_of_lt_of_le (by have := World.block_lt_of_cell? _ _ hx129_0; first | rwa [add_block] at this | exact this) GW128.out)
            have hn129_5 : ad121.block ≠ gb128 := Nat.ne_of_lt (Nat.lt_of_lt_of_le (by have := World.block_lt_of_cell? _ _ hx129_0; first | rwa [add_block] at this | exact this) GW128.out)
            have hn129_6 : ad121.block ≠ gb128 := Nat.ne_of_lt (Nat.lt_of_lt_of_le (by have := World.block_lt_of_cell? _ _ hx129_0; first | rwa [add_block] at this | exact this) GW128.out)
            have hn129_7 : ad121.block ≠ gb128 := Nat.ne_of_lt (Nat.lt_of_lt_of_le (by have := World.block_lt_of_cell? _ _ hx129_0; first | rwa [add_block] at this | exact this) GW128.out)
            replace hx129_0 := (HB.out.cell (World.block_lt_of_cell? w _ hx129_0)).trans hx129_0
            replace hx129_1 := (HB.out.cell (World.block_lt_of_cell? w _ hx129_1)).trans hx129_1
            replace hx129_2 := (HB.out.cell (World.block_lt_of_cell? w _ hx129_2)).trans hx129_2
            replace hx129_3 := (HB.out.cell (World.block_lt_of_cell? w _ hx129_3)).trans hx129_3
            replace hx129_4 := (HB.out.cell (World.block_lt_of_cell? w _ hx129_4)).trans hx129_4
            replace hx129_5 := (HB.out.cell (World.block_lt_of_cell? w _ hx129_5)).trans hx129_5
            replace hx129_6 := (HB.out.cell (World.block_lt_of_cell? w _ hx129_6)).trans hx129_6
            replace hx129_7 := (HB.out.cell (World.block_lt_of_cell? w _ hx129_7)).trans hx129_7
            have HR129_4 := Aside0.mk hi129_4
            have HC129_4 := Aside0.mk hl129_4
            clear hi129_4 hl129_4
            have HR129_5 := Aside0.mk hi129_5
            have HC129_5 := Aside0.mk hl129_5
            clear hi129_5 hl129_5
            have HR129_6 := Aside0.mk hi129_6
            have HC129_6 := Aside0.mk hl129_6
            clear hi129_6 hl129_6
            have HR129_7 := Aside0.mk hi129_7
            have HC129_7 := Aside0.mk hl129_7
            clear hi129_7 hl129_7
            replace hx129_0 := (cell_far (p := ⟨gb128, 0, none⟩) (by first | (rw [add_block]; exact hn129_0) | (show (Addr.add _ _).block ≠ _; rw [add_block]; exact hn129_0) | exact hn129_0) (.int .i64 ((rd_T54 l0 x11_1).f0))).trans hx129_0
            replace hx129_1 := (cell_far (p := ⟨gb128, 0, none⟩) (by first | (rw [add_block]; exact hn129_0) | (show (Addr.add _ _).block ≠ _; rw [add_block]; exact hn129_0) | exact hn129_0) (.int .i64 ((rd_T54 l0 x11_1).f0))).trans hx129_1
            replace hx129_2 := (cell_far (p := ⟨gb128, 0, none⟩) (by first | (rw [add_block]; exact hn129_0) | (show (Addr.add _ _).block ≠ _; rw [add_block]; exact hn129_0) | exact hn129_0) (.int .i64 ((rd_T54 l0 x11_1).f0))).trans hx129_2
            replace hx129_3 := (cell_far (p := ⟨gb128, 0, none⟩) (by first | (rw [add_block]; exact hn129_0) | (show (Addr.add _ _).block ≠ _; rw [add_block]; exact hn129_0) | exact hn129_0) (.int .i64 ((rd_T54 l0 x11_1).f0))).trans hx129_3
            replace hx129_4 := (cell_far (p := ⟨gb128, 0, none⟩) (by first | (rw [add_block]; exact hn129_0) | (show (Addr.add _ _).block ≠ _; rw [add_block]; exact hn129_0) | exact hn129_0) (.int .i64 ((rd_T54 l0 x11_1).f0))).trans hx129_4
            replace hx129_5 := (cell_far (p := ⟨gb128, 0, none⟩) (by first | (rw [add_block]; exact hn129_0) | (show (Addr.add _ _).block ≠ _; rw [add_block]; exact hn129_0) | exact hn129_0) (.int .i64 ((rd_T54 l0 x11_1).f0))).trans hx129_5
            replace hx129_6 := (cell_far (p := ⟨gb128, 0, none⟩) (by first | (rw [add_block]; exact hn129_0) | (show (Addr.add _ _).block ≠ _; rw [add_block]; exact hn129_0) | exact hn129_0) (.int .i64 ((rd_T54 l0 x11_1).f0))).trans hx129_6
            replace hx129_7 := (cell_far (p := ⟨gb128, 0, none⟩) (by first | (rw [add_block]; exact hn129_0) | (show (Addr.add _ _).block ≠ _; rw [add_block]; exact hn129_0) | exact hn129_0) (.int .i64 ((rd_T54 l0 x11_1).f0))).trans hx129_7
            replace hx129_0 := (cell_far (p := ⟨gb128, 1, none⟩) (by first | (rw [add_block]; exact hn129_1) | (show (Addr.add _ _).block ≠ _; rw [add_block]; exact hn129_1) | exact hn129_1) (.string ((rd_T54 l0 x11_1).f1))).trans hx129_0
            replace hx129_1 := (cell_far (p := ⟨gb128, 1, none⟩) (by first | (rw [add_block]; exact hn129_1) | (show (Addr.add _ _).block ≠ _; rw [add_block]; exact hn129_1) | exact hn129_1) (.string ((rd_T54 l0 x11_1).f1))).trans hx129_1
            replace hx129_2 := (cell_far (p := ⟨gb128, 1, none⟩) (by first | (rw [add_block]; exact hn129_1) | (show (Addr.add _ _).block ≠ _; rw [add_block]; exact hn129_1) | exact hn129_1) (.string ((rd_T54 l0 x11_1).f1))).trans hx129_2
            replace hx129_3 := (cell_far (p := ⟨gb128, 1, none⟩) (by first | (rw [add_block]; exact hn129_1) | (show (Addr.add _ _).block ≠ _; rw [add_block]; exact hn129_1) | exact hn129_1) (.string ((rd_T54 l0 x11_1).f1))).trans hx129_3
            replace hx129_4 := (cell_far (p := ⟨gb128, 1, none⟩) (by first | (rw [add_block]; exact hn129_1) | (show (Addr.add _ _).block ≠ _; rw [add_block]; exact hn129_1) | exact hn129_1) (.string ((rd_T54 l0 x11_1).f1))).trans hx129_4
            replace hx129_5 := (cell_far (p := ⟨gb128, 1, none⟩) (by first | (rw [add_block]; exact hn129_1) | (show (Addr.add _ _).block ≠ _; rw [add_block]; exact hn129_1) | exact hn129_1) (.string ((rd_T54 l0 x11_1).f1))).trans hx129_5
            replace hx129_6 := (cell_far (p := ⟨gb128, 1, none⟩) (by first | (rw [add_block]; exact hn129_1) | (show (Addr.add _ _).block ≠ _; rw [add_block]; exact hn129_1) | exact hn129_1) (.string ((rd_T54 l0 x11_1).f1))).trans hx129_6
            replace hx129_7 := (cell_far (p := ⟨gb128, 1, none⟩) (by first | (rw [add_block]; exact hn129_1) | (show (Addr.add _ _).block ≠ _; rw [add_block]; exact hn129_1) | exact hn129_1) (.string ((rd_T54 l0 x11_1).f1))).trans hx129_7
            replace hx129_0 := (cell_far (p := ⟨gb128, 2, none⟩) (by first | (rw [add_block]; exact hn129_2) | (show (Addr.add _ _).block ≠ _; rw [add_block]; exact hn129_2) | exact hn129_2) (.int .i64 ((rd_T54 l0 x11_1).f2.f0))).trans hx129_0
            replace hx129_1 := (cell_far (p := ⟨gb128, 2, none⟩) (by first | (rw [add_block]; exact hn129_2) | (show (Addr.add _ _).block ≠ _; rw [add_block]; exact hn129_2) | exact hn129_2) (.int .i64 ((rd_T54 l0 x11_1).f2.f0))).trans hx129_1
            replace hx129_2 := (cell_far (p := ⟨gb128, 2, none⟩) (by first | (rw [add_block]; exact hn129_2) | (show (Addr.add _ _).block ≠ _; rw [add_block]; exact hn129_2) | exact hn129_2) (.int .i64 ((rd_T54 l0 x11_1).f2.f0))).trans hx129_2
            replace hx129_3 := (cell_far (p := ⟨gb128, 2, none⟩) (by first | (rw [add_block]; exact hn129_2) | (show (Addr.add _ _).block ≠ _; rw [add_block]; exact hn129_2) | exact hn129_2) (.int .i64 ((rd_T54 l0 x11_1).f2.f0))).trans hx129_3
            replace hx129_4 := (cell_far (p := ⟨gb128, 2, none⟩) (by first | (rw [add_block]; exact hn129_2) | (show (Addr.add _ _).block ≠ _; rw [add_block]; exact hn129_2) | exact hn129_2) (.int .i64 ((rd_T54 l0 x11_1).f2.f0))).trans hx129_4
            replace hx129_5 := (cell_far (p := ⟨gb128, 2, none⟩) (by first | (rw [add_block]; exact hn129_2) | (show (Addr.add _ _).block ≠ _; rw [add_block]; exact hn129_2) | exact hn129_2) (.int .i64 ((rd_T54 l0 x11_1).f2.f0))).trans hx129_5
            replace hx129_6 := (cell_far (p := ⟨gb128, 2, none⟩) (by first | (rw [add_block]; exact hn129_2) | (show (Addr.add _ _).block ≠ _; rw [add_block]; exact hn129_2) | exact hn129_2) (.int .i64 ((rd_T54 l0 x11_1).f2.f0))).trans hx129_6
            replace hx129_7 := (cell_far (p := ⟨gb128, 2, none⟩) (by first | (rw [add_block]; exact hn129_2) | (show (Addr.add _ _).block ≠ _; rw [add_block]; exact hn129_2) | exact hn129_2) (.int .i64 ((rd_T54 l0 x11_1).f2.f0))).trans hx129_7
            replace hx129_0 := (cell_far (p := ⟨gb128, 3, none⟩) (by first | (rw [add_block]; exact hn129_3) | (show (Addr.add _ _).block ≠ _; rw [add_block]; exact hn129_3) | exact hn129_3) (.int .i64 ((rd_T54 l0 x11_1).f2.f1))).trans hx129_0
            replace hx129_1 := (cell_far (p := ⟨gb128, 3, none⟩) (by first | (rw [add_block]; exact hn129_3) | (show (Addr.add _ _).block ≠ _; rw [add_block]; exact hn129_3) | exact hn129_3) (.int .i64 ((rd_T54 l0 x11_1).f2.f1))).trans hx129_1
            replace hx129_2 := (cell_far (p := ⟨gb128, 3, none⟩) (by first | (rw [add_block]; exact hn129_3) | (show (Addr.add _ _).block ≠ _; rw [add_block]; exact hn129_3) | exact hn129_3) (.int .i64 ((rd_T54 l0 x11_1).f2.f1))).trans hx129_2
            replace hx129_3 := (cell_far (p := ⟨gb128, 3, none⟩) (by first | (rw [add_block]; exact hn129_3) | (show (Addr.add _ _).block ≠ _; rw [add_block]; exact hn129_3) | exact hn129_3) (.int .i64 ((rd_T54 l0 x11_1).f2.f1))).trans hx129_3
            replace hx129_4 := (cell_far (p := ⟨gb128, 3, none⟩) (by first | (rw [add_block]; exact hn129_3) | (show (Addr.add _ _).block ≠ _; rw [add_block]; exact hn129_3) | exact hn129_3) (.int .i64 ((rd_T54 l0 x11_1).f2.f1))).trans hx129_4
            replace hx129_5 := (cell_far (p := ⟨gb128, 3, none⟩) (by first | (rw [add_block]; exact hn129_3) | (show (Addr.add _ _).block ≠ _; rw [add_block]; exact hn129_3) | exact hn129_3) (.int .i64 ((rd_T54 l0 x11_1).f2.f1))).trans hx129_5
            replace hx129_6 := (cell_far (p := ⟨gb128, 3, none⟩) (by first | (rw [add_block]; exact hn129_3) | (show (Addr.add _ _).block ≠ _; rw [add_block]; exact hn129_3) | exact hn129_3) (.int .i64 ((rd_T54 l0 x11_1).f2.f1))).trans hx129_6
            replace hx129_7 := (cell_far (p := ⟨gb128, 3, none⟩) (by first | (rw [add_block]; exact hn129_3) | (show (Addr.add _ _).block ≠ _; rw [add_block]; exact hn129_3) | exact hn129_3) (.int .i64 ((rd_T54 l0 x11_1).f2.f1))).trans hx129_7
            replace hx129_0 := (cell_far (p := ⟨gb128, 4, none⟩) (by first | (rw [add_block]; exact hn129_4) | (show (Addr.add _ _).block ≠ _; rw [add_block]; exact hn129_4) | exact hn129_4) (.slice none 0 0)).trans hx129_0
            replace hx129_1 := (cell_far (p := ⟨gb128, 4, none⟩) (by first | (rw [add_block]; exact hn129_4) | (show (Addr.add _ _).block ≠ _; rw [add_block]; exact hn129_4) | exact hn129_4) (.slice none 0 0)).trans hx129_1
            replace hx129_2 := (cell_far (p := ⟨gb128, 4, none⟩) (by first | (rw [add_block]; exact hn129_4) | (show (Addr.add _ _).block ≠ _; rw [add_block]; exact hn129_4) | exact hn129_4) (.slice none 0 0)).trans hx129_2
            replace hx129_3 := (cell_far (p := ⟨gb128, 4, none⟩) (by first | (rw [add_block]; exact hn129_4) | (show (Addr.add _ _).block ≠ _; rw [add_block]; exact hn129_4) | exact hn129_4) (.slice none 0 0)).trans hx129_3
            replace hx129_4 := (cell_far (p := ⟨gb128, 4, none⟩) (by first | (rw [add_block]; exact hn129_4) | (show (Addr.add _ _).block ≠ _; rw [add_block]; exact hn129_4) | exact hn129_4) (.slice none 0 0)).trans hx129_4
            replace hx129_5 := (cell_far (p := ⟨gb128, 4, none⟩) (by first | (rw [add_block]; exact hn129_4) | (show (Addr.add _ _).block ≠ _; rw [add_block]; exact hn129_4) | exact hn129_4) (.slice none 0 0)).trans hx129_5
            replace hx129_6 := (cell_far (p := ⟨gb128, 4, none⟩) (by first | (rw [add_block]; exact hn129_4) | (show (Addr.add _ _).block ≠ _; rw [add_block]; exact hn129_4) | exact hn129_4) (.slice none 0 0)).trans hx129_6
            replace hx129_7 := (cell_far (p := ⟨gb128, 4, none⟩) (by first | (rw [add_block]; exact hn129_4) | (show (Addr.add _ _).block ≠ _; rw [add_block]; exact hn129_4) | exact hn129_4) (.slice none 0 0)).trans hx129_7
            replace hx129_0 := (cell_far (p := ⟨gb128, 5, none⟩) (by first | (rw [add_block]; exact hn129_5) | (show (Addr.add _ _).block ≠ _; rw [add_block]; exact hn129_5) | exact hn129_5) (.slice none 0 0)).trans hx129_0
            replace hx129_1 := (cell_far (p := ⟨gb128, 5, none⟩) (by first | (rw [add_block]; exact hn129_5) | (show (Addr.add _ _).block ≠ _; rw [add_block]; exact hn129_5) | exact hn129_5) (.slice none 0 0)).trans hx129_1
            replace hx129_2 := (cell_far (p := ⟨gb128, 5, none⟩) (by first | (rw [add_block]; exact hn129_5) | (show (Addr.add _ _).block ≠ _; rw [add_block]; exact hn129_5) | exact hn129_5) (.slice none 0 0)).trans hx129_2
            replace hx129_3 := (cell_far (p := ⟨gb128, 5, none⟩) (by first | (rw [add_block]; exact hn129_5) | (show (Addr.add _ _).block ≠ _; rw [add_block]; exact hn129_5) | exact hn129_5) (.slice none 0 0)).trans hx129_3
            replace hx129_4 := (cell_far (p := ⟨gb128, 5, none⟩) (by first | (rw [add_block]; exact hn129_5) | (show (Addr.add _ _).block ≠ _; rw [add_block]; exact hn129_5) | exact hn129_5) (.slice none 0 0)).trans hx129_4
            replace hx129_5 := (cell_far (p := ⟨gb128, 5, none⟩) (by first | (rw [add_block]; exact hn129_5) | (show (Addr.add _ _).block ≠ _; rw [add_block]; exact hn129_5) | exact hn129_5) (.slice none 0 0)).trans hx129_5
            replace hx129_6 := (cell_far (p := ⟨gb128, 5, none⟩) (by first | (rw [add_block]; exact hn129_5) | (show (Addr.add _ _).block ≠ _; rw [add_block]; exact hn129_5) | exact hn129_5) (.slice none 0 0)).trans hx129_6
            replace hx129_7 := (cell_far (p := ⟨gb128, 5, none⟩) (by first | (rw [add_block]; exact hn129_5) | (show (Addr.add _ _).block ≠ _; rw [add_block]; exact hn129_5) | exact hn129_5) (.slice none 0 0)).trans hx129_7
            replace hx129_0 := (cell_far (p := ⟨gb128, 6, none⟩) (by first | (rw [add_block]; exact hn129_6) | (show (Addr.add _ _).block ≠ _; rw [add_block]; exact hn129_6) | exact hn129_6) (.slice none 0 0)).trans hx129_0
            replace hx129_1 := (cell_far (p := ⟨gb128, 6, none⟩) (by first | (rw [add_block]; exact hn129_6) | (show (Addr.add _ _).block ≠ _; rw [add_block]; exact hn129_6) | exact hn129_6) (.slice none 0 0)).trans hx129_1
            replace hx129_2 := (cell_far (p := ⟨gb128, 6, none⟩) (by first | (rw [add_block]; exact hn129_6) | (show (Addr.add _ _).block ≠ _; rw [add_block]; exact hn129_6) | exact hn129_6) (.slice none 0 0)).trans hx129_2
            replace hx129_3 := (cell_far (p := ⟨gb128, 6, none⟩) (by first | (rw [add_block]; exact hn129_6) | (show (Addr.add _ _).block ≠ _; rw [add_block]; exact hn129_6) | exact hn129_6) (.slice none 0 0)).trans hx129_3
            replace hx129_4 := (cell_far (p := ⟨gb128, 6, none⟩) (by first | (rw [add_block]; exact hn129_6) | (show (Addr.add _ _).block ≠ _; rw [add_block]; exact hn129_6) | exact hn129_6) (.slice none 0 0)).trans hx129_4
            replace hx129_5 := (cell_far (p := ⟨gb128, 6, none⟩) (by first | (rw [add_block]; exact hn129_6) | (show (Addr.add _ _).block ≠ _; rw [add_block]; exact hn129_6) | exact hn129_6) (.slice none 0 0)).trans hx129_5
            replace hx129_6 := (cell_far (p := ⟨gb128, 6, none⟩) (by first | (rw [add_block]; exact hn129_6) | (show (Addr.add _ _).block ≠ _; rw [add_block]; exact hn129_6) | exact hn129_6) (.slice none 0 0)).trans hx129_6
            replace hx129_7 := (cell_far (p := ⟨gb128, 6, none⟩) (by first | (rw [add_block]; exact hn129_6) | (show (Addr.add _ _).block ≠ _; rw [add_block]; exact hn129_6) | exact hn129_6) (.slice none 0 0)).trans hx129_7
            replace hx129_0 := (cell_far (p := ⟨gb128, 7, none⟩) (by first | (rw [add_block]; exact hn129_7) | (show (Addr.add _ _).block ≠ _; rw [add_block]; exact hn129_7) | exact hn129_7) (.slice Ao11 t125.length co11)).trans hx129_0
            replace hx129_1 := (cell_far (p := ⟨gb128, 7, none⟩) (by first | (rw [add_block]; exact hn129_7) | (show (Addr.add _ _).block ≠ _; rw [add_block]; exact hn129_7) | exact hn129_7) (.slice Ao11 t125.length co11)).trans hx129_1
            replace hx129_2 := (cell_far (p := ⟨gb128, 7, none⟩) (by first | (rw [add_block]; exact hn129_7) | (show (Addr.add _ _).block ≠ _; rw [add_block]; exact hn129_7) | exact hn129_7) (.slice Ao11 t125.length co11)).trans hx129_2
            replace hx129_3 := (cell_far (p := ⟨gb128, 7, none⟩) (by first | (rw [add_block]; exact hn129_7) | (show (Addr.add _ _).block ≠ _; rw [add_block]; exact hn129_7) | exact hn129_7) (.slice Ao11 t125.length co11)).trans hx129_3
            replace hx129_4 := (cell_far (p := ⟨gb128, 7, none⟩) (by first | (rw [add_block]; exact hn129_7) | (show (Addr.add _ _).block ≠ _; rw [add_block]; exact hn129_7) | exact hn129_7) (.slice Ao11 t125.length co11)).trans hx129_4
            replace hx129_5 := (cell_far (p := ⟨gb128, 7, none⟩) (by first | (rw [add_block]; exact hn129_7) | (show (Addr.add _ _).block ≠ _; rw [add_block]; exact hn129_7) | exact hn129_7) (.slice Ao11 t125.length co11)).trans hx129_5
            replace hx129_6 := (cell_far (p := ⟨gb128, 7, none⟩) (by first | (rw [add_block]; exact hn129_7) | (show (Addr.add _ _).block ≠ _; rw [add_block]; exact hn129_7) | exact hn129_7) (.slice Ao11 t125.length co11)).trans hx129_6
            replace hx129_7 := (cell_far (p := ⟨gb128, 7, none⟩) (by first | (rw [add_block]; exact hn129_7) | (show (Addr.add _ _).block ≠ _; rw [add_block]; exact hn129_7) | exact hn129_7) (.slice Ao11 t125.length co11)).trans hx129_7
            clear hn129_0
            clear hn129_1
            clear hn129_2
            clear hn129_3
            clear hn129_4
            clear hn129_5
            clear hn129_6
            clear hn129_7
            replace p129 := eq_true p129
            replace q129 := eq_true q129
            try go_wp2
            go_loopg [42] k1 (fun kq v42 w' => ∃ (x42_2 : Int) (x129004_2 : List (S56)) (u129004 : Value), v42 = .int .i64 x42_2 ∧ Aside0 (courierlaw05_Theirs.l1 kq l0 x3_1 x11_1 (l0.length : Int) x11_1 (((rd_T54 l0 x11_1).f3).length : Int) x42_2 ((rd_T54 l0 x11_1).f0) ((rd_T54 l0 x11_1).f1) ((rd_T54 l0 x11_1).f2.f0) ((rd_T54 l0 x11_1).f2.f1) x129004_2 t125 = some r) ∧ Aside0 (kq ≤ k1) ∧ Aside0 (Kd.R k47 47 w' w.heap.size (fun k_ => some k_ ≠ (u129004 : Value).ownBlock ∧ some k_ ≠ ((.slice Ao11 t125.length co11) : Value).ownBlock ∧ k_ ≠ gb128) u3 x3_1) ∧ Aside0 (Kd.R k56 56 w' w.heap.size (fun _ => True) u129004 x129004_2) ∧ Aside0 (Kd.R k47 47 w' w.heap.size (fun k_ => some k_ ≠ (u3 : Value).ownBlock ∧ some k_ ≠ (u129004 : Value).ownBlock ∧ k_ ≠ gb128) (.slice Ao11 t125.length co11) t125) ∧ Aside0 (w'.heap[gb128]? = some (.cells #[.int .i64 ((rd_T54 l0 x11_1).f0), .string ((rd_T54 l0 x11_1).f1), .int .i64 ((rd_T54 l0 x11_1).f2.f0), .int .i64 ((rd_T54 l0 x11_1).f2.f1), u129004, (.slice none 0 0), (.slice none 0 0), (.slice Ao11 t125.length co11)] 47 (0, 0))) ∧ Aside0 (Below w.heap.size w w'))
            case atStart => exact ⟨(0), (([] : List (S56))), (.slice none 0 0), (by first | rfl | (simp; done) | (simp [*]; done)), H', ⟨Nat.le_refl _⟩, ⟨by (with_reducible repeat (first | apply Kd.R_alloc | apply Kd.R_drewN | apply Kd.R_drew)); exact Kd.R_mono (Kd.R_far (p := ⟨gb128, 7, none⟩) (Kd.R_far (p := ⟨gb128, 6, none⟩) (Kd.R_far (p := ⟨gb128, 5, none⟩) (Kd.R_far (p := ⟨gb128, 4, none⟩) (Kd.R_far (p := ⟨gb128, 3, none⟩) (Kd.R_far (p := ⟨gb128, 2, none⟩) (Kd.R_far (p := ⟨gb128, 1, none⟩) (Kd.R_far (p := ⟨gb128, 0, none⟩) (Kd.R_mono HO_3.out (fun k_ hk => (⟨hk, hk.2⟩ : _ ∧ k_ ≠ gb128))) (fun _ hk => hk.2) (.int .i64 ((rd_T54 l0 x11_1).f0))) (fun _ hk => hk.2) (.string ((rd_T54 l0 x11_1).f1))) (fun _ hk => hk.2) (.int .i64 ((rd_T54 l0 x11_1).f2.f0))) (fun _ hk => hk.2) (.int .i64 ((rd_T54 l0 x11_1).f2.f1))) (fun _ hk => hk.2) (.slice none 0 0)) (fun _ hk => hk.2) (.slice none 0 0)) (fun _ hk => hk.2) (.slice none 0 0)) (fun _ hk => hk.2) (.slice Ao11 t125.length co11)) (fun _ hk => ⟨(by simp [Value.ownBlock]), ⟨hk.1.1, hk.1.2⟩⟩)⟩, ⟨by first | exact Kd.R_nil _ _ _ _ _ | exact Kd.N_nil _ _ _ _ _ | exact Kd.V_nil _ _ _ _ _ | exact Kd.Q_nil _ _ _ _ _ | exact Kd.S_nil _ _ _ _ _⟩, ⟨by (with_reducible repeat (first | apply Kd.R_alloc | apply Kd.R_drewN | apply Kd.R_drew)); exact Kd.R_mono (Kd.R_far (p := ⟨gb128, 7, none⟩) (Kd.R_far (p := ⟨gb128, 6, none⟩) (Kd.R_far (p := ⟨gb128, 5, none⟩) (Kd.R_far (p := ⟨gb128, 4, none⟩) (Kd.R_far (p := ⟨gb128, 3, none⟩) (Kd.R_far (p := ⟨gb128, 2, none⟩) (Kd.R_far (p := ⟨gb128, 1, none⟩) (Kd.R_far (p := ⟨gb128, 0, none⟩) (Kd.R_mono HO127.out (fun k_ hk => (⟨hk, hk.2⟩ : _ ∧ k_ ≠ gb128))) (fun _ hk => hk.2) (.int .i64 ((rd_T54 l0 x11_1).f0))) (fun _ hk => hk.2) (.string ((rd_T54 l0 x11_1).f1))) (fun _ hk => hk.2) (.int .i64 ((rd_T54 l0 x11_1).f2.f0))) (fun _ hk => hk.2) (.int .i64 ((rd_T54 l0 x11_1).f2.f1))) (fun _ hk => hk.2) (.slice none 0 0)) (fun _ hk => hk.2) (.slice none 0 0)) (fun _ hk => hk.2) (.slice none 0 0)) (fun _ hk => hk.2) (.slice Ao11 t125.length co11)) (fun _ hk => ⟨hk.1.1, ⟨(by simp [Value.ownBlock]), hk.1.2⟩⟩)⟩, ⟨by (with_reducible repeat (first | refine blk_drewN ?_ _ | refine blk_drew ?_ | refine blk_alloc ?_ _)); refine blk_put (cs := #[.int .i64 ((rd_T54 l0 x11_1).f0), .string ((rd_T54 l0 x11_1).f1), .int .i64 ((rd_T54 l0 x11_1).f2.f0), .int .i64 ((rd_T54 l0 x11_1).f2.f1), .slice none 0 0, .slice none 0 0, .slice none 0 0, .slice none 0 0]) ?_ 7 _ rfl; (with_reducible repeat (first | refine blk_drewN ?_ _ | refine blk_drew ?_ | refine blk_alloc ?_ _)); refine blk_put (cs := #[.int .i64 ((rd_T54 l0 x11_1).f0), .string ((rd_T54 l0 x11_1).f1), .int .i64 ((rd_T54 l0 x11_1).f2.f0), .int .i64 ((rd_T54 l0 x11_1).f2.f1), .slice none 0 0, .slice none 0 0, .slice none 0 0, .slice none 0 0]) ?_ 6 _ rfl; (with_reducible repeat (first | refine blk_drewN ?_ _ | refine blk_drew ?_ | refine blk_alloc ?_ _)); refine blk_put (cs := #[.int .i64 ((rd_T54 l0 x11_1).f0), .string ((rd_T54 l0 x11_1).f1), .int .i64 ((rd_T54 l0 x11_1).f2.f0), .int .i64 ((rd_T54 l0 x11_1).f2.f1), .slice none 0 0, .slice none 0 0, .slice none 0 0, .slice none 0 0]) ?_ 5 _ rfl; (with_reducible repeat (first | refine blk_drewN ?_ _ | refine blk_drew ?_ | refine blk_alloc ?_ _)); refine blk_put (cs := #[.int .i64 ((rd_T54 l0 x11_1).f0), .string ((rd_T54 l0 x11_1).f1), .int .i64 ((rd_T54 l0 x11_1).f2.f0), .int .i64 ((rd_T54 l0 x11_1).f2.f1), .slice none 0 0, .slice none 0 0, .slice none 0 0, .slice none 0 0]) ?_ 4 _ rfl; (with_reducible repeat (first | refine blk_drewN ?_ _ | refine blk_drew ?_ | refine blk_alloc ?_ _)); refine blk_put (cs := #[.int .i64 ((rd_T54 l0 x11_1).f0), .string ((rd_T54 l0 x11_1).f1), .int .i64 ((rd_T54 l0 x11_1).f2.f0), .int .i64 0, .slice none 0 0, .slice none 0 0, .slice none 0 0, .slice none 0 0]) ?_ 3 _ rfl; (with_reducible repeat (first | refine blk_drewN ?_ _ | refine blk_drew ?_ | refine blk_alloc ?_ _)); refine blk_put (cs := #[.int .i64 ((rd_T54 l0 x11_1).f0), .string ((rd_T54 l0 x11_1).f1), .int .i64 0, .int .i64 0, .slice none 0 0, .slice none 0 0, .slice none 0 0, .slice none 0 0]) ?_ 2 _ rfl; (with_reducible repeat (first | refine blk_drewN ?_ _ | refine blk_drew ?_ | refine blk_alloc ?_ _)); refine blk_put (cs := #[.int .i64 ((rd_T54 l0 x11_1).f0), .string (⟨#[]⟩ : ByteArray), .int .i64 0, .int .i64 0, .slice none 0 0, .slice none 0 0, .slice none 0 0, .slice none 0 0]) ?_ 1 _ rfl; (with_reducible repeat (first | refine blk_drewN ?_ _ | refine blk_drew ?_ | refine blk_alloc ?_ _)); refine blk_put (cs := #[.int .i64 0, .string (⟨#[]⟩ : ByteArray), .int .i64 0, .int .i64 0, .slice none 0 0, .slice none 0 0, .slice none 0 0, .slice none 0 0]) ?_ 0 _ rfl; (with_reducible repeat (first | refine blk_drewN ?_ _ | refine blk_drew ?_ | refine blk_alloc ?_ _)); exact BK128.out⟩, ⟨by repeat (first | (with_reducible first | exact HB.out | apply below_alloc | apply pw_below_drewN | apply below_drew1 | refine below_set ?_ GE128.out) | exact HB.out)⟩⟩
            case round =>
              clear H'
              try clear c1
              try clear p1
              try clear q1
              try clear hx1
              try clear p2
              try clear c8
              try clear c12
              try clear p12
              try clear q12
              try clear hx12
              try clear hx121_0
              try clear hx121_1
              try clear hx121_2
              try clear hx121_3
              try clear hx121_4
              try clear hx121_5
              try clear hx121_6
              try clear hx121_7
              try clear hx122_0
              try clear hx122_1
              try clear hx122_2
              try clear hx122_3
              try clear hx122_4
              try clear hx122_5
              try clear hx122_6
              try clear hx122_7
              try clear hx123_0
              try clear hx123_1
              try clear hx123_2
              try clear hx123_3
              try clear hx123_4
              try clear hx123_5
              try clear hx123_6
              try clear hx123_7
              try clear hx124_0
              try clear hx124_1
              try clear hx124_2
              try clear hx124_3
              try clear hx124_4
              try clear hx124_5
              try clear hx124_6
              try clear hx124_7
              try clear hx129_0
              try clear hx129_1
              try clear hx129_2
              try clear hx129_3
              try clear hx129_4
              try clear hx129_5
              try clear hx129_6
              try clear hx129_7
              try clear p122
              try clear p123
              try clear p124
              try clear p129
              try clear q122
              try clear q123
              try clear q124
              try clear q129
              obtain ⟨x42_2, x129004_2, u129004, rfl, HA, HK2, HO_3, HO_129004, HO_129007, BK128, HB⟩ := hrel
              cases gk with
              | zero => exact absurd HA.out (by simp [courierlaw05_Theirs.l1])
              | succ k2 =>
                have H := HA.out
                clear HA
                simp only [courierlaw05_Theirs.l1] at H
                by_cases c20 : x42_2 < (((rd_T54 l0 x11_1).f3).length : Int)
                · rw [if_pos c20] at H
                  have c20b0 : decide (x42_2 < (((rd_T54 l0 x11_1).f3).length : Int)) = true := decide_eq_true c20
                  clear c20
                  by_cases c21 : 0 ≤ x11_1
                  · rw [if_pos c21] at H
                    have c21b0 : decide (0 ≤ x11_1) = true := decide_eq_true c21
                    clear c21
                    by_cases c22 : x11_1 < (l0.length : Int)
                    · rw [if_pos c22] at H
                      have c22b0 : decide (x11_1 < (l0.length : Int)) = true := decide_eq_true c22
                      clear c22
                      by_cases c23 : 0 ≤ x42_2
                      · rw [if_pos c23] at H
                        have c23b0 : decide (0 ≤ x42_2) = true := decide_eq_true c23
                        clear c23
                        by_cases c24 : x42_2 < (((rd_T54 l0 x11_1).f3).length : Int)
                        · rw [if_pos c24] at H
                          have c24b0 : decide (x42_2 < (((rd_T54 l0 x11_1).f3).length : Int)) = true := decide_eq_true c24
                          clear c24
                          by_cases c25 : x129004_2.length < 2199023255552
                          · rw [if_pos c25] at H
                            have LMc25 := Aside0.mk c25
                            clear c25
                            obtain ⟨y132, hy132⟩ : ∃ y_ : List (S56), y_ = (x129004_2 ++ [(⟨(rd_T57 ((rd_T54 l0 x11_1).f3) x42_2).f0, (rd_T57 ((rd_T54 l0 x11_1).f3) x42_2).f1, (rd_T57 ((rd_T54 l0 x11_1).f3) x42_2).f2, (rd_T57 ((rd_T54 l0 x11_1).f3) x42_2).f3, (⟨(rd_T57 ((rd_T54 l0 x11_1).f3) x42_2).f4.f0, (rd_T57 ((rd_T54 l0 x11_1).f3) x42_2).f4.f1⟩ : S42)⟩ : S56)]) := ⟨_, rfl⟩
                            replace H : (courierlaw05_Theirs.l1 k2 l0 x3_1 x11_1 (l0.length : Int) x11_1 (((rd_T54 l0 x11_1).f3).length : Int) (wrap64 (x42_2 + 1)) ((rd_T54 l0 x11_1).f0) ((rd_T54 l0 x11_1).f1) ((rd_T54 l0 x11_1).f2.f0) ((rd_T54 l0 x11_1).f2.f1) y132 t125) = some r := by first | (rw [hy132]; with_reducible exact H) | (have H2_ := (Option.bind_some _ _).symm.trans H; rw [hy132]; with_reducible exact H2_) | (have H2_ := (Option.bind_some _ _).symm.trans H; with_reducible exact H2_) | with_reducible exact H | (rw [hy132]; exact H) | exact H
                            have Ny132 := Aside0.mk hy132
                            clear hy132
                            have H' := Aside0.mk H
                            clear H
                            try go_wp2
                            have n0_ := Aside0.mk (Kd.R_drew HO_3.out)
                            have n1_ := Aside0.mk (Kd.R_drew HO_129004.out)
                            have n2_ := Aside0.mk (Kd.R_drew HO_129007.out)
                            have n3_ := Aside0.mk (blk_drew BK128.out)
                            have n4_ := Aside0.mk (below_drew1 HB.out)
                            clear HO_3
                            clear HO_129004
                            clear HO_129007
                            clear BK128
                            clear HB
                            have HO_3 := n0_
                            have HO_129004 := n1_
                            have HO_129007 := n2_
                            have BK128 := n3_
                            have HB := n4_
                            clear n0_ n1_ n2_ n3_ n4_
                            have p130 : 0 ≤ (x11_1 : Int) := of_decide_eq_true (by first | (with_reducible assumption) | assumption)
                            have q130 : x11_1 < (l0.length : Int) := of_decide_eq_true (by first | (with_reducible assumption) | assumption)
                            obtain ⟨ad130, A130_4, c130_4, A130_5, c130_5, A130_6, c130_6, A130_7, c130_7, e130, hx130_0, hx130_1, hx130_2, hx130_3, hx130_4, hx130_5, hx130_6, hx130_7, hl130_4, hi130_4, hl130_5, hi130_5, hl130_6, hi130_6, hl130_7, hi130_7⟩ := at_T54 HR0.out x11_1 p130 q130
                            have hw130_7 := hx130_7
                            have hw130_6 := hx130_6
                            have hw130_5 := hx130_5
                            have hw130_4 := hx130_4
                            have hw130_3 := hx130_3
                            have hw130_2 := hx130_2
                            have hw130_1 := hx130_1
                            have hw130_0 := hx130_0
                            obtain rfl : ad121 = ad130 := (by injection e130)
                            replace hx130_0 := (HB.out.cell (World.block_lt_of_cell? w _ hx130_0)).trans hx130_0
                            replace hx130_1 := (HB.out.cell (World.block_lt_of_cell? w _ hx130_1)).trans hx130_1
                            replace hx130_2 := (HB.out.cell (World.block_lt_of_cell? w _ hx130_2)).trans hx130_2
                            replace hx130_3 := (HB.out.cell (World.block_lt_of_cell? w _ hx130_3)).trans hx130_3
                            replace hx130_4 := (HB.out.cell (World.block_lt_of_cell? w _ hx130_4)).trans hx130_4
                            replace hx130_5 := (HB.out.cell (World.block_lt_of_cell? w _ hx130_5)).trans hx130_5
                            replace hx130_6 := (HB.out.cell (World.block_lt_of_cell? w _ hx130_6)).trans hx130_6
                            replace hx130_7 := (HB.out.cell (World.block_lt_of_cell? w _ hx130_7)).trans hx130_7
                            have HR130_4 := Aside0.mk hi130_4
                            have HC130_4 := Aside0.mk hl130_4
                            clear hi130_4 hl130_4
                            have HR130_5 := Aside0.mk hi130_5
                            have HC130_5 := Aside0.mk hl130_5
                            clear hi130_5 hl130_5
                            have HR130_6 := Aside0.mk hi130_6
                            have HC130_6 := Aside0.mk hl130_6
                            clear hi130_6 hl130_6
                            have HR130_7 := Aside0.mk hi130_7
                            have HC130_7 := Aside0.mk hl130_7
                            clear hi130_7 hl130_7
                            replace p130 := eq_true p130
                            replace q130 := eq_true q130
                            have p131 : 0 ≤ (x42_2 : Int) := of_decide_eq_true (by first | (with_reducible assumption) | assumption)
                            have q131 : x42_2 < (((rd_T54 l0 x11_1).f3).length : Int) := of_decide_eq_true (by first | (with_reducible assumption) | assumption)
                            obtain ⟨ad131, e131, hx131_0, hx131_1, hx131_2, hx131_3, hx131_4, hx131_5⟩ := at_T57 HR130_4.out x42_2 p131 q131
                            have hw131_5 := hx131_5
                            have hw131_4 := hx131_4
                            have hw131_3 := hx131_3
                            have hw131_2 := hx131_2
                            have hw131_1 := hx131_1
                            have hw131_0 := hx131_0
                            cases e131
                            replace hx131_0 := (HB.out.cell (World.block_lt_of_cell? w _ hx131_0)).trans hx131_0
                            replace hx131_1 := (HB.out.cell (World.block_lt_of_cell? w _ hx131_1)).trans hx131_1
                            replace hx131_2 := (HB.out.cell (World.block_lt_of_cell? w _ hx131_2)).trans hx131_2
                            replace hx131_3 := (HB.out.cell (World.block_lt_of_cell? w _ hx131_3)).trans hx131_3
                            replace hx131_4 := (HB.out.cell (World.block_lt_of_cell? w _ hx131_4)).trans hx131_4
                            replace hx131_5 := (HB.out.cell (World.block_lt_of_cell? w _ hx131_5)).trans hx131_5
                            replace p131 := eq_true p131
                            replace q131 := eq_true q131
                            refine start_ (n := 14) (S := fun w' => w'.cell? ⟨gb128, 0, none⟩ = some (.int .i64 ((rd_T54 l0 x11_1).f0)) ∧ w'.cell? ⟨gb128, 1, none⟩ = some (.string ((rd_T54 l0 x11_1).f1)) ∧ w'.cell? ⟨gb128, 2, none⟩ = some (.int .i64 ((rd_T54 l0 x11_1).f2.f0)) ∧ w'.cell? ⟨gb128, 3, none⟩ = some (.int .i64 ((rd_T54 l0 x11_1).f2.f1)) ∧ w'.cell? ⟨gb128, 4, none⟩ = some (u129004) ∧ w'.cell? ⟨gb128, 5, none⟩ = some (.slice none 0 0) ∧ w'.cell? ⟨gb128, 6, none⟩ = some (.slice none 0 0) ∧ w'.cell? ⟨gb128, 7, none⟩ = some (.slice Ao11 t125.length co11) ∧ w'.cell? (ad121.add ((x11_1).toNat * 8)) = some (.int .i64 ((rd_T54 l0 x11_1).f0)) ∧ w'.cell? ⟨(ad121.add ((x11_1).toNat * 8)).block, (ad121.add ((x11_1).toNat * 8)).off + 1, none⟩ = some (.string ((rd_T54 l0 x11_1).f1)) ∧ w'.cell? ⟨(ad121.add ((x11_1).toNat * 8)).block, (ad121.add ((x11_1).toNat * 8)).off + 2, none⟩ = some (.int .i64 ((rd_T54 l0 x11_1).f2.f0)) ∧ w'.cell? ⟨(ad121.add ((x11_1).toNat * 8)).block, (ad121.add ((x11_1).toNat * 8)).off + 3, none⟩ = some (.int .i64 ((rd_T54 l0 x11_1).f2.f1)) ∧ w'.cell? ⟨(ad121.add ((x11_1).toNat * 8)).block, (ad121.add ((x11_1).toNat * 8)).off + 4, none⟩ = some (.slice (some ad131) ((rd_T54 l0 x11_1).f3).length c130_4) ∧ w'.cell? ⟨(ad121.add ((x11_1).toNat * 8)).block, (ad121.add ((x11_1).toNat * 8)).off + 5, none⟩ = some (.slice A130_5 ((rd_T54 l0 x11_1).f4).length c130_5) ∧ w'.cell? ⟨(ad121.add ((x11_1).toNat * 8)).block, (ad121.add ((x11_1).toNat * 8)).off + 6, none⟩ = some (.slice A130_6 ((rd_T54 l0 x11_1).f5).length c130_6) ∧ w'.cell? ⟨(ad121.add ((x11_1).toNat * 8)).block, (ad121.add ((x11_1).toNat * 8)).off + 7, none⟩ = some (.slice A130_7 ((rd_T54 l0 x11_1).f6).length c130_7) ∧ w'.cell? (ad131.add ((x42_2).toNat * 6)) = some (.bool ((rd_T57 ((rd_T54 l0 x11_1).f3) x42_2).f0)) ∧ w'.cell? ⟨(ad131.add ((x42_2).toNat * 6)).block, (ad131.add ((x42_2).toNat * 6)).off + 1, none⟩ = some (.string ((rd_T57 ((rd_T54 l0 x11_1).f3) x42_2).f1)) ∧ w'.cell? ⟨(ad131.add ((x42_2).toNat * 6)).block, (ad131.add ((x42_2).toNat * 6)).off + 2, none⟩ = some (.string ((rd_T57 ((rd_T54 l0 x11_1).f3) x42_2).f2)) ∧ w'.cell? ⟨(ad131.add ((x42_2).toNat * 6)).block, (ad131.add ((x42_2).toNat * 6)).off + 3, none⟩ = some (.int .i64 ((rd_T57 ((rd_T54 l0 x11_1).f3) x42_2).f3)) ∧ w'.cell? ⟨(ad131.add ((x42_2).toNat * 6)).block, (ad131.add ((x42_2).toNat * 6)).off + 4, none⟩ = some (.int .i64 ((rd_T57 ((rd_T54 l0 x11_1).f3) x42_2).f4.f0)) ∧ w'.cell? ⟨(ad131.add ((x42_2).toNat * 6)).block, (ad131.add ((x42_2).toNat * 6)).off + 5, none⟩ = some (.int .i64 ((rd_T57 ((rd_T54 l0 x11_1).f3) x42_2).f4.f1))) (ds := [13]) #[false, false, false, false, false, false, false, false, false, false, false, false, false, false] (by kernel_rfl) rfl rfl ⟨(blk_cell BK128.out 0).trans rfl, (blk_cell BK128.out 1).trans rfl, (blk_cell BK128.out 2).trans rfl, (blk_cell BK128.out 3).trans rfl, (blk_cell BK128.out 4).trans rfl, (blk_cell BK128.out 5).trans rfl, (blk_cell BK128.out 6).trans rfl, (blk_cell BK128.out 7).trans rfl, ((HB.out.cell (World.block_lt_of_cell? w _ hw130_0)).trans hw130_0), ((HB.out.cell (World.block_lt_of_cell? w _ hw130_1)).trans hw130_1), ((HB.out.cell (World.block_lt_of_cell? w _ hw130_2)).trans hw130_2), ((HB.out.cell (World.block_lt_of_cell? w _ hw130_3)).trans hw130_3), ((HB.out.cell (World.block_lt_of_cell? w _ hw130_4)).trans hw130_4), ((HB.out.cell (World.block_lt_of_cell? w _ hw130_5)).trans hw130_5), ((HB.out.cell (World.block_lt_of_cell? w _ hw130_6)).trans hw130_6), ((HB.out.cell (World.block_lt_of_cell? w _ hw130_7)).trans hw130_7), ((HB.out.cell (World.block_lt_of_cell? w _ hw131_0)).trans hw131_0), ((HB.out.cell (World.block_lt_of_cell? w _ hw131_1)).trans hw131_1), ((HB.out.cell (World.block_lt_of_cell? w _ hw131_2)).trans hw131_2), ((HB.out.cell (World.block_lt_of_cell? w _ hw131_3)).trans hw131_3), ((HB.out.cell (World.block_lt_of_cell? w _ hw131_4)).trans hw131_4), ((HB.out.cell (World.block_lt_of_cell? w _ hw131_5)).trans hw131_5)⟩ (fun hHeld => ?_); refine with_tabW courierlaw05_Theirs.tab9 courierlaw05_Theirs.bits9 (fun HT_ HW_ => ?_)
                            generalize wr.drew = w26 at HO_3 HO_129004 HO_129007 BK128 HB HR130_4 HR130_5 HR130_6 HR130_7 hx130_0 hx130_1 hx130_2 hx130_3 hx130_4 hx130_5 hx130_6 hx130_7 hx131_0 hx131_1 hx131_2 hx131_3 hx131_4 hx131_5 hHeld ⊢
                            refine pure_ (i := 0) (N := some 45) (v := ?_) (a' := ?_) #[true, false, false, false, false, false, false, false, false, false, false, false, false, false] rfl rfl (any_of HT_.out (by kernel_rfl)) (fun _ _ _ h => h) (Or.inl ⟨by rfl, ?_⟩) ?_ ?_
                            rotate_left
                            · intro w'
                              go_simp
                              with_reducible rfl
                            rotate_left
                            · simp only [Act.put, List.setIfInBounds_toArray, List.set_cons_zero, List.set_cons_succ, i64_w, i32_w]
                              rfl
                            refine pure_ (i := 2) (N := some 47) (v := ?_) (a' := ?_) #[true, false, true, false, false, false, false, false, false, false, false, false, false, false] rfl rfl (any_of HT_.out (by kernel_rfl)) (fun _ _ _ h => h) (Or.inl ⟨by rfl, ?_⟩) ?_ ?_
                            rotate_left
                            · intro w'
                              go_simp
                              with_reducible rfl
                            rotate_left
                            · simp only [Act.put, List.setIfInBounds_toArray, List.set_cons_zero, List.set_cons_succ, i64_w, i32_w]
                              rfl
                            refine pure_ (i := 3) (N := some 48) (v := ?_) (a' := ?_) #[true, false, true, true, false, false, false, false, false, false, false, false, false, false] rfl rfl (any_of HT_.out (by kernel_rfl)) (fun _ _ _ h => h) (Or.inl ⟨by rfl, ?_⟩) ?_ ?_
                            rotate_left
                            · intro w'
                              go_simp
                              with_reducible rfl
                            rotate_left
                            · simp only [Act.put, List.setIfInBounds_toArray, List.set_cons_zero, List.set_cons_succ, i64_w, i32_w]
                              rfl
                            refine pure_ (i := 4) (N := some 49) (v := ?_) (a' := ?_) #[true, false, true, true, true, false, false, false, false, false, false, false, false, false] rfl rfl (any_of HT_.out (by kernel_rfl)) (fun _ _ _ h => h) (Or.inl ⟨by rfl, ?_⟩) ?_ ?_
                            rotate_left
                            · intro w'
                              go_simp
                              with_reducible rfl
                            rotate_left
                            · simp only [Act.put, List.setIfInBounds_toArray, List.set_cons_zero, List.set_cons_succ, i64_w, i32_w]
                              rfl
                            refine pure_ (i := 5) (N := some 50) (v := ?_) (a' := ?_) #[true, false, true, true, true, true, false, false, false, false, false, false, false, false] rfl rfl (any_of HT_.out (by kernel_rfl)) (fun _ _ _ h => h) (Or.inl ⟨by rfl, ?_⟩) ?_ ?_
                            rotate_left
                            · intro w'
                              go_simp
                              with_reducible rfl
                            rotate_left
                            · simp only [Act.put, List.setIfInBounds_toArray, List.set_cons_zero, List.set_cons_succ, i64_w, i32_w]
                              rfl
                            refine pure_ (i := 7) (N := some 52) (v := ?_) (a' := ?_) #[true, false, true, true, true, true, false, true, false, false, false, false, false, false] rfl rfl (any_of HT_.out (by kernel_rfl)) (fun _ _ _ h => h) (Or.inl ⟨by rfl, ?_⟩) ?_ ?_
                            rotate_left
                            · intro w'
                              go_simp
                              with_reducible rfl
                            rotate_left
                            · simp only [Act.put, List.setIfInBounds_toArray, List.set_cons_zero, List.set_cons_succ, i64_w, i32_w]
                              rfl
                            refine take_ (i := 1) (N := some 46) (v := ?_) (a' := ?_) #[true, true, true, true, true, true, false, true, false, false, false, false, false, false] rfl rfl (take_ofW HT_.out HW_.out (by kernel_rfl)) (fun _ _ _ h => h) (Or.inl ⟨by rfl, ?_⟩) hHeld ?_ ?_
                            rotate_left
                            · rintro w' ⟨s0, s1, s2, s3, s4, s5, s6, s7, s8, s9, s10, s11, s12, s13, s14, s15, s16, s17, s18, s19, s20, s21⟩
                              go_simp
                              with_reducible rfl
                            rotate_left
                            · simp only [Act.put, List.setIfInBounds_toArray, List.set_cons_zero, List.set_cons_succ, i64_w, i32_w]
                              rfl
                            refine take_ (i := 6) (N := some 51) (v := ?_) (a' := ?_) #[true, true, true, true, true, true, true, true, false, false, false, false, false, false] rfl rfl (take_ofW HT_.out HW_.out (by kernel_rfl)) (fun _ _ _ h => h) (Or.inl ⟨by rfl, ?_⟩) hHeld ?_ ?_
                            rotate_left
                            · rintro w' ⟨s0, s1, s2, s3, s4, s5, s6, s7, s8, s9, s10, s11, s12, s13, s14, s15, s16, s17, s18, s19, s20, s21⟩
                              go_simp
                              with_reducible rfl
                            rotate_left
                            · simp only [Act.put, List.setIfInBounds_toArray, List.set_cons_zero, List.set_cons_succ, i64_w, i32_w]
                              rfl
                            refine pure_ (i := 8) (N := some 53) (v := ?_) (a' := ?_) #[true, true, true, true, true, true, true, true, true, false, false, false, false, false] rfl rfl (any_of HT_.out (by kernel_rfl)) (fun _ _ _ h => h) (Or.inl ⟨by rfl, ?_⟩) ?_ ?_
                            rotate_left
                            · intro w'
                              go_simp
                              with_reducible rfl
                            rotate_left
                            · simp only [Act.put, List.setIfInBounds_toArray, List.set_cons_zero, List.set_cons_succ, i64_w, i32_w]
                              rfl
                            refine take_ (i := 9) (N := some 54) (v := ?_) (a' := ?_) #[true, true, true, true, true, true, true, true, true, true, false, false, false, false] rfl rfl (take_ofW HT_.out HW_.out (by kernel_rfl)) (fun _ _ _ h => h) (Or.inl ⟨by rfl, ?_⟩) hHeld ?_ ?_
                            rotate_left
                            · rintro w' ⟨s0, s1, s2, s3, s4, s5, s6, s7, s8, s9, s10, s11, s12, s13, s14, s15, s16, s17, s18, s19, s20, s21⟩
                              go_simp
                              with_reducible rfl
                            rotate_left
                            · simp only [Act.put, List.setIfInBounds_toArray, List.set_cons_zero, List.set_cons_succ, i64_w, i32_w]
                              rfl
                            refine one_ (i := 10) (N := some 55) #[true, true, true, true, true, true, true, true, true, true, true, false, false, false] rfl rfl (one_of HT_.out (by kernel_rfl)) (by decide) (fun K hK => ?_)
                            refine value_ (w1 := ?_) (v := ?_) (by rfl) rfl ?_ ?_
                            rotate_left 2
                            · go_simp
                              constructor
                              · rfl
                              · rfl
                            refine hK.out _ _ ⟨(blk_cell (blk_alloc BK128.out _) 0).trans rfl, (blk_cell (blk_alloc BK128.out _) 1).trans rfl, (blk_cell (blk_alloc BK128.out _) 2).trans rfl, (blk_cell (blk_alloc BK128.out _) 3).trans rfl, (blk_cell (blk_alloc BK128.out _) 4).trans rfl, (blk_cell (blk_alloc BK128.out _) 5).trans rfl, (blk_cell (blk_alloc BK128.out _) 6).trans rfl, (blk_cell (blk_alloc BK128.out _) 7).trans rfl, (World.cell?_alloc_lt _ _ _ (World.block_lt_of_cell? _ _ (((HB.out.cell (World.block_lt_of_cell? w _ hw130_0)).trans hw130_0)))).trans (((HB.out.cell (World.block_lt_of_cell? w _ hw130_0)).trans hw130_0)), (World.cell?_alloc_lt _ _ _ (World.block_lt_of_cell? _ _ (((HB.out.cell (World.block_lt_of_cell? w _ hw130_1)).trans hw130_1)))).trans (((HB.out.cell (World.block_lt_of_cell? w _ hw130_1)).trans hw130_1)), (World.cell?_alloc_lt _ _ _ (World.block_lt_of_cell? _ _ (((HB.out.cell (World.block_lt_of_cell? w _ hw130_2)).trans hw130_2)))).trans (((HB.out.cell (World.block_lt_of_cell? w _ hw130_2)).trans hw130_2)), (World.cell?_alloc_lt _ _ _ (World.block_lt_of_cell? _ _ (((HB.out.cell (World.block_lt_of_cell? w _ hw130_3)).trans hw130_3)))).trans (((HB.out.cell (World.block_lt_of_cell? w _ hw130_3)).trans hw130_3)), (World.cell?_alloc_lt _ _ _ (World.block_lt_of_cell? _ _ (((HB.out.cell (World.block_lt_of_cell? w _ hw130_4)).trans hw130_4)))).trans (((HB.out.cell (World.block_lt_of_cell? w _ hw130_4)).trans hw130_4)), (World.cell?_alloc_lt _ _ _ (World.block_lt_of_cell? _ _ (((HB.out.cell (World.block_lt_of_cell? w _ hw130_5)).trans hw130_5)))).trans (((HB.out.cell (World.block_lt_of_cell? w _ hw130_5)).trans hw130_5)), (World.cell?_alloc_lt _ _ _ (World.block_lt_of_cell? _ _ (((HB.out.cell (World.block_lt_of_cell? w _ hw130_6)).trans hw130_6)))).trans (((HB.out.cell (World.block_lt_of_cell? w _ hw130_6)).trans hw130_6)), (World.cell?_alloc_lt _ _ _ (World.block_lt_of_cell? _ _ (((HB.out.cell (World.block_lt_of_cell? w _ hw130_7)).trans hw130_7)))).trans (((HB.out.cell (World.block_lt_of_cell? w _ hw130_7)).trans hw130_7)), (World.cell?_alloc_lt _ _ _ (World.block_lt_of_cell? _ _ (((HB.out.cell (World.block_lt_of_cell? w _ hw131_0)).trans hw131_0)))).trans (((HB.out.cell (World.block_lt_of_cell? w _ hw131_0)).trans hw131_0)), (World.cell?_alloc_lt _ _ _ (World.block_lt_of_cell? _ _ (((HB.out.cell (World.block_lt_of_cell? w _ hw131_1)).trans hw131_1)))).trans (((HB.out.cell (World.block_lt_of_cell? w _ hw131_1)).trans hw131_1)), (World.cell?_alloc_lt _ _ _ (World.block_lt_of_cell? _ _ (((HB.out.cell (World.block_lt_of_cell? w _ hw131_2)).trans hw131_2)))).trans (((HB.out.cell (World.block_lt_of_cell? w _ hw131_2)).trans hw131_2)), (World.cell?_alloc_lt _ _ _ (World.block_lt_of_cell? _ _ (((HB.out.cell (World.block_lt_of_cell? w _ hw131_3)).trans hw131_3)))).trans (((HB.out.cell (World.block_lt_of_cell? w _ hw131_3)).trans hw131_3)), (World.cell?_alloc_lt _ _ _ (World.block_lt_of_cell? _ _ (((HB.out.cell (World.block_lt_of_cell? w _ hw131_4)).trans hw131_4)))).trans (((HB.out.cell (World.block_lt_of_cell? w _ hw131_4)).trans hw131_4)), (World.cell?_alloc_lt _ _ _ (World.block_lt_of_cell? _ _ (((HB.out.cell (World.block_lt_of_cell? w _ hw131_5)).trans hw131_5)))).trans (((HB.out.cell (World.block_lt_of_cell? w _ hw131_5)).trans hw131_5))⟩ (fun hHeld => ?_)
                            clear hK K
                            refine norm_ (a' := ?_) ?_ ?_
                            rotate_left
                            · show Act.put _ (some 55) _ = _
                              simp only [Act.put, List.setIfInBounds_toArray, List.set_cons_zero, List.set_cons_succ, i64_w, i32_w]
                              rfl
                            refine one_ (i := 11) (N := some 56) #[true, true, true, true, true, true, true, true, true, true, true, true, false, false] rfl rfl (one_of HT_.out (by kernel_rfl)) (by decide) (fun K hK => ?_)
                            refine Kd.R_append_step k56 (w0 := w) w.heap.size (by rfl) (.tmp 46) (.tmp 55) 43 56 (.agg #[(.bool false), (.string ⟨#[]⟩), (.string ⟨#[]⟩), (.int .i64 0), (.int .i64 0), (.int .i64 0)]) 64 rfl Tryd.underlying43 info56 rfl (by decide) (by omega) u129004 x129004_2 (⟨(rd_T57 ((rd_T54 l0 x11_1).f3) x42_2).f0, (rd_T57 ((rd_T54 l0 x11_1).f3) x42_2).f1, (rd_T57 ((rd_T54 l0 x11_1).f3) x42_2).f2, (rd_T57 ((rd_T54 l0 x11_1).f3) x42_2).f3, (⟨(rd_T57 ((rd_T54 l0 x11_1).f3) x42_2).f4.f0, (rd_T57 ((rd_T54 l0 x11_1).f3) x42_2).f4.f1⟩ : S42)⟩ : S56) [.bool ((rd_T57 ((rd_T54 l0 x11_1).f3) x42_2).f0), .string ((rd_T57 ((rd_T54 l0 x11_1).f3) x42_2).f1), .string ((rd_T57 ((rd_T54 l0 x11_1).f3) x42_2).f2), .int .i64 ((rd_T57 ((rd_T54 l0 x11_1).f3) x42_2).f3), .int .i64 ((rd_T57 ((rd_T54 l0 x11_1).f3) x42_2).f4.f0), .int .i64 ((rd_T57 ((rd_T54 l0 x11_1).f3) x42_2).f4.f1)] (fun _ => True) (fun _ => False) rfl rfl ?aP (fun _ hk => hk.elim) ?aF ?aO ?aB ?aS ?aL ?_
                            (case aP => exact k56_mkM _ _ _ (⟨(rd_T57 ((rd_T54 l0 x11_1).f3) x42_2).f0, (rd_T57 ((rd_T54 l0 x11_1).f3) x42_2).f1, (rd_T57 ((rd_T54 l0 x11_1).f3) x42_2).f2, (rd_T57 ((rd_T54 l0 x11_1).f3) x42_2).f3, (⟨(rd_T57 ((rd_T54 l0 x11_1).f3) x42_2).f4.f0, (rd_T57 ((rd_T54 l0 x11_1).f3) x42_2).f4.f1⟩ : S42)⟩ : S56))
                            (case aB => exact (by repeat (first | (with_reducible first | exact HB.out | apply below_alloc | apply pw_below_drewN | apply below_drew1 | refine below_set ?_ GE128.out) | exact HB.out)))
                            (case aF => exact (fun _ _ => trivial))
                            (case aO => exact (by (with_reducible repeat (first | apply Kd.R_alloc | apply Kd.R_drewN | apply Kd.R_drew)); exact HO_129004.out))
                            (case aS => exact (below_size (by repeat (first | (with_reducible first | exact HB.out | apply below_alloc | apply pw_below_drewN | apply below_drew1 | refine below_set ?_ GE128.out) | exact HB.out))))
                            (case aL => have := LMc25.out; omega)
                            intro v133 w27 ho hb hg hat
                            rw [← Ny132.out] at ho
                            have n0_ := Aside0.mk (Kd.R_after (ok := (fun k_ => some k_ ≠ (.slice Ao11 t125.length co11 : Value).ownBlock ∧ k_ ≠ gb128)) (by (with_reducible repeat (first | apply Kd.R_alloc | apply Kd.R_drewN | apply Kd.R_drew)); exact Kd.R_mono HO_3.out (fun _ hk => ⟨⟨hk.2.1, hk.2.2⟩, hk.1⟩)) hg hat)
                            have n1_ := Aside0.mk (Kd.R_after (ok := (fun k_ => some k_ ≠ (u3 : Value).ownBlock ∧ k_ ≠ gb128)) (by (with_reducible repeat (first | apply Kd.R_alloc | apply Kd.R_drewN | apply Kd.R_drew)); exact Kd.R_mono HO_129007.out (fun _ hk => ⟨⟨hk.1, hk.2.2⟩, hk.2.1⟩)) hg hat)
                            have n2_ := Aside0.mk (blk_grown (g := gb128) (o := .cells #[.int .i64 ((rd_T54 l0 x11_1).f0), .string ((rd_T54 l0 x11_1).f1), .int .i64 ((rd_T54 l0 x11_1).f2.f0), .int .i64 ((rd_T54 l0 x11_1).f2.f1), u129004, .slice none 0 0, .slice none 0 0, .slice Ao11 t125.length co11] 47 (0, 0)) (by (with_reducible repeat (first | refine blk_drewN ?_ _ | refine blk_drew ?_ | refine blk_alloc ?_ _)); exact BK128.out) hg (Kd.R_ne HO_129004.out BK128.out (by decide)))
                            have n3_ := Aside0.mk (hb)
                            have n4_ := Aside0.mk (ho)
                            clear HO_3
                            clear HO_129007
                            clear BK128
                            clear HB
                            clear HO_129004
                            have HO_3 := n0_
                            have HO_129007 := n1_
                            have BK128 := n2_
                            have HB := n3_
                            have HO134 := n4_
                            clear n0_ n1_ n2_ n3_ n4_
                            clear ho hb hg hat
                            obtain ⟨Ao28, co28, eo28⟩ := Kd.R_slice HO134.out
                            (first | subst eo28 | (injection eo28 with f1_ f2_ f3_; have f4_ := f1_.symm; have f5_ := f3_.symm; clear f1_ f2_ f3_; subst f4_; subst f5_))
                            refine hK.out _ _ ⟨(blk_cell BK128.out 0).trans rfl, (blk_cell BK128.out 1).trans rfl, (blk_cell BK128.out 2).trans rfl, (blk_cell BK128.out 3).trans rfl, (blk_cell BK128.out 4).trans rfl, (blk_cell BK128.out 5).trans rfl, (blk_cell BK128.out 6).trans rfl, (blk_cell BK128.out 7).trans rfl, ((HB.out.cell (World.block_lt_of_cell? w _ hw130_0)).trans hw130_0), ((HB.out.cell (World.block_lt_of_cell? w _ hw130_1)).trans hw130_1), ((HB.out.cell (World.block_lt_of_cell? w _ hw130_2)).trans hw130_2), ((HB.out.cell (World.block_lt_of_cell? w _ hw130_3)).trans hw130_3), ((HB.out.cell (World.block_lt_of_cell? w _ hw130_4)).trans hw130_4), ((HB.out.cell (World.block_lt_of_cell? w _ hw130_5)).trans hw130_5), ((HB.out.cell (World.block_lt_of_cell? w _ hw130_6)).trans hw130_6), ((HB.out.cell (World.block_lt_of_cell? w _ hw130_7)).trans hw130_7), ((HB.out.cell (World.block_lt_of_cell? w _ hw131_0)).trans hw131_0), ((HB.out.cell (World.block_lt_of_cell? w _ hw131_1)).trans hw131_1), ((HB.out.cell (World.block_lt_of_cell? w _ hw131_2)).trans hw131_2), ((HB.out.cell (World.block_lt_of_cell? w _ hw131_3)).trans hw131_3), ((HB.out.cell (World.block_lt_of_cell? w _ hw131_4)).trans hw131_4), ((HB.out.cell (World.block_lt_of_cell? w _ hw131_5)).trans hw131_5)⟩ (fun hHeld => ?_)
                            clear hK K
                            refine norm_ (a' := ?_) ?_ ?_
                            rotate_left
                            · show Act.put _ (some 56) _ = _
                              simp only [Act.put, List.setIfInBounds_toArray, List.set_cons_zero, List.set_cons_succ, i64_w, i32_w]
                              rfl
                            refine pure_ (i := 12) (N := some 57) (v := ?_) (a' := ?_) #[true, true, true, true, true, true, true, true, true, true, true, true, true, false] rfl rfl (any_of HT_.out (by kernel_rfl)) (fun _ _ _ h => h) (Or.inl ⟨by rfl, ?_⟩) ?_ ?_
                            rotate_left
                            · intro w'
                              go_simp
                              with_reducible rfl
                            rotate_left
                            · simp only [Act.put, List.setIfInBounds_toArray, List.set_cons_zero, List.set_cons_succ, i64_w, i32_w]
                              rfl
                            refine last_ (i := 13) (N := none) #[true, true, true, true, true, true, true, true, true, true, true, true, true, true] rfl rfl (one_of HT_.out (by kernel_rfl)) (by decide) (fun K hK => ?_)
                            have hs29 : w27.cell? ⟨gb128, 4, none⟩ = some (u129004) := (blk_cell BK128.out 4).trans rfl
                            have hfs29 := blk_frozen BK128.out 4
                            refine skip_ (w1 := ?_) (by rfl) rfl ?_ ?_
                            rotate_left
                            · go_simp
                              rfl
                            refine hK.out _ _ ?_
                            clear hK K
                            refine done_ (done_of HT_.out (by kernel_rfl)) ?_
                            try go_wp2
                            go_roundg k2
                            case measure => have := HK1.out; have := HK2.out; omega
                            case rel => exact ⟨(wrap64 (x42_2 + 1)), (y132), (.slice Ao28 y132.length co28), (by first | rfl | (simp; done) | (simp [*]; done)), H', ⟨by have := HK1.out; have := HK2.out; omega⟩, ⟨by (with_reducible repeat (first | apply Kd.R_alloc | apply Kd.R_drewN | apply Kd.R_drew)); exact Kd.R_mono (Kd.R_far (p := ⟨gb128, 4, none⟩) (Kd.R_mono HO_3.out (fun k_ hk => (⟨hk, hk.1.2⟩ : _ ∧ k_ ≠ gb128))) (fun _ hk => hk.2) (.slice Ao28 y132.length co28)) (fun _ hk => ⟨hk.1.2, ⟨hk.1.1.1, hk.1.1.2⟩⟩)⟩, ⟨by (with_reducible repeat (first | apply Kd.R_alloc | apply Kd.R_drewN | apply Kd.R_drew)); exact Kd.R_mono (Kd.R_far (p := ⟨gb128, 4, none⟩) (Kd.R_types HO134.out BK128.out (by decide)) (fun _ hk => hk.2) (.slice Ao28 y132.length co28)) (fun _ hk => trivial)⟩, ⟨by (with_reducible repeat (first | apply Kd.R_alloc | apply Kd.R_drewN | apply Kd.R_drew)); exact Kd.R_mono (Kd.R_far (p := ⟨gb128, 4, none⟩) (Kd.R_mono HO_129007.out (fun k_ hk => (⟨hk, hk.1.2⟩ : _ ∧ k_ ≠ gb128))) (fun _ hk => hk.2) (.slice Ao28 y132.length co28)) (fun _ hk => ⟨hk.1.1.1, ⟨hk.1.2, hk.1.1.2⟩⟩)⟩, ⟨by (with_reducible repeat (first | refine blk_drewN ?_ _ | refine blk_drew ?_ | refine blk_alloc ?_ _)); refine blk_put (cs := #[.int .i64 ((rd_T54 l0 x11_1).f0), .string ((rd_T54 l0 x11_1).f1), .int .i64 ((rd_T54 l0 x11_1).f2.f0), .int .i64 ((rd_T54 l0 x11_1).f2.f1), u129004, .slice none 0 0, .slice none 0 0, .slice Ao11 t125.length co11]) ?_ 4 _ rfl; (with_reducible repeat (first | refine blk_drewN ?_ _ | refine blk_drew ?_ | refine blk_alloc ?_ _)); exact BK128.out⟩, ⟨by repeat (first | (with_reducible first | exact HB.out | apply below_alloc | apply pw_below_drewN | apply below_drew1 | refine below_set ?_ GE128.out) | exact HB.out)⟩⟩
                          · rw [if_neg c25] at H
                            exact absurd H (by simp)
                        · rw [if_neg c24] at H
                          exact absurd H (by simp)
                      · rw [if_neg c23] at H
                        exact absurd H (by simp)
                    · rw [if_neg c22] at H
                      exact absurd H (by simp)
                  · rw [if_neg c21] at H
                    exact absurd H (by simp)
                · rw [if_neg c20] at H
                  have c20b0 : decide (x42_2 < (((rd_T54 l0 x11_1).f3).length : Int)) = false := decide_eq_false c20
                  clear c20
                  by_cases c30 : 0 ≤ x11_1
                  · rw [if_pos c30] at H
                    have c30b0 : decide (0 ≤ x11_1) = true := decide_eq_true c30
                    clear c30
                    by_cases c31 : x11_1 < (l0.length : Int)
                    · rw [if_pos c31] at H
                      have c31b0 : decide (x11_1 < (l0.length : Int)) = true := decide_eq_true c31
                      clear c31
                      have H' := Aside0.mk H
                      clear H
                      have p135 : 0 ≤ (x11_1 : Int) := of_decide_eq_true (by first | (with_reducible assumption) | assumption)
                      have q135 : x11_1 < (l0.length : Int) := of_decide_eq_true (by first | (with_reducible assumption) | assumption)
                      obtain ⟨ad135, A135_4, c135_4, A135_5, c135_5, A135_6, c135_6, A135_7, c135_7, e135, hx135_0, hx135_1, hx135_2, hx135_3, hx135_4, hx135_5, hx135_6, hx135_7, hl135_4, hi135_4, hl135_5, hi135_5, hl135_6, hi135_6, hl135_7, hi135_7⟩ := at_T54 HR0.out x11_1 p135 q135
                      obtain rfl : ad121 = ad135 := (by injection e135)
                      replace hx135_0 := (HB.out.cell (World.block_lt_of_cell? w _ hx135_0)).trans hx135_0
                      replace hx135_1 := (HB.out.cell (World.block_lt_of_cell? w _ hx135_1)).trans hx135_1
                      replace hx135_2 := (HB.out.cell (World.block_lt_of_cell? w _ hx135_2)).trans hx135_2
                      replace hx135_3 := (HB.out.cell (World.block_lt_of_cell? w _ hx135_3)).trans hx135_3
                      replace hx135_4 := (HB.out.cell (World.block_lt_of_cell? w _ hx135_4)).trans hx135_4
                      replace hx135_5 := (HB.out.cell (World.block_lt_of_cell? w _ hx135_5)).trans hx135_5
                      replace hx135_6 := (HB.out.cell (World.block_lt_of_cell? w _ hx135_6)).trans hx135_6
                      replace hx135_7 := (HB.out.cell (World.block_lt_of_cell? w _ hx135_7)).trans hx135_7
                      have HR135_4 := Aside0.mk hi135_4
                      have HC135_4 := Aside0.mk hl135_4
                      clear hi135_4 hl135_4
                      have HR135_5 := Aside0.mk hi135_5
                      have HC135_5 := Aside0.mk hl135_5
                      clear hi135_5 hl135_5
                      have HR135_6 := Aside0.mk hi135_6
                      have HC135_6 := Aside0.mk hl135_6
                      clear hi135_6 hl135_6
                      have HR135_7 := Aside0.mk hi135_7
                      have HC135_7 := Aside0.mk hl135_7
                      clear hi135_7 hl135_7
                      replace p135 := eq_true p135
                      replace q135 := eq_true q135
                      go_wp2
                      go_loopg [65] k2 (fun kq v65 w' => ∃ (x65_3 : Int) (x129005_3 : List (S59)) (u129005 : Value), v65 = .int .i64 x65_3 ∧ Aside0 (courierlaw05_Theirs.l2 kq l0 x3_1 x11_1 (l0.length : Int) x11_1 (((rd_T54 l0 x11_1).f4).length : Int) x65_3 ((rd_T54 l0 x11_1).f0) ((rd_T54 l0 x11_1).f1) ((rd_T54 l0 x11_1).f2.f0) ((rd_T54 l0 x11_1).f2.f1) x129004_2 x129005_3 t125 = some r) ∧ Aside0 (kq ≤ k2) ∧ Aside0 (Kd.R k47 47 w' w.heap.size (fun k_ => some k_ ≠ (u129004 : Value).ownBlock ∧ some k_ ≠ (u129005 : Value).ownBlock ∧ some k_ ≠ ((.slice Ao11 t125.length co11) : Value).ownBlock ∧ k_ ≠ gb128) u3 x3_1) ∧ Aside0 (Kd.R k56 56 w' w.heap.size (fun _ => True) u129004 x129004_2) ∧ Aside0 (Kd.R k59 59 w' w.heap.size (fun _ => True) u129005 x129005_3) ∧ Aside0 (Kd.R k47 47 w' w.heap.size (fun k_ => some k_ ≠ (u3 : Value).ownBlock ∧ some k_ ≠ (u129004 : Value).ownBlock ∧ some k_ ≠ (u129005 : Value).ownBlock ∧ k_ ≠ gb128) (.slice Ao11 t125.length co11) t125) ∧ Aside0 (w'.heap[gb128]? = some (.cells #[.int .i64 ((rd_T54 l0 x11_1).f0), .string ((rd_T54 l0 x11_1).f1), .int .i64 ((rd_T54 l0 x11_1).f2.f0), .int .i64 ((rd_T54 l0 x11_1).f2.f1), u129004, u129005, (.slice none 0 0), (.slice Ao11 t125.length co11)] 47 (0, 0))) ∧ Aside0 (Below w.heap.size w w'))
                      case atStart => exact ⟨(0), (([] : List (S59))), (.slice none 0 0), (by first | rfl | (simp; done) | (simp [*]; done)), H', ⟨Nat.le_refl _⟩, ⟨by (with_reducible repeat (first | apply Kd.R_alloc | apply Kd.R_drewN | apply Kd.R_drew)); exact Kd.R_mono HO_3.out (fun _ hk => ⟨hk.1, ⟨(by simp [Value.ownBlock]), ⟨hk.2.1, hk.2.2⟩⟩⟩)⟩, ⟨by (with_reducible repeat (first | apply Kd.R_alloc | apply Kd.R_drewN | apply Kd.R_drew)); exact HO_129004.out⟩, ⟨by first | exact Kd.R_nil _ _ _ _ _ | exact Kd.N_nil _ _ _ _ _ | exact Kd.V_nil _ _ _ _ _ | exact Kd.Q_nil _ _ _ _ _ | exact Kd.S_nil _ _ _ _ _⟩, ⟨by (with_reducible repeat (first | apply Kd.R_alloc | apply Kd.R_drewN | apply Kd.R_drew)); exact Kd.R_mono HO_129007.out (fun _ hk => ⟨hk.1, ⟨hk.2.1, ⟨(by simp [Value.ownBlock]), hk.2.2⟩⟩⟩)⟩, ⟨by (with_reducible repeat (first | refine blk_drewN ?_ _ | refine blk_drew ?_ | refine blk_alloc ?_ _)); exact BK128.out⟩, ⟨by repeat (first | (with_reducible first | exact HB.out | apply below_alloc | apply pw_below_drewN | apply below_drew1 | refine below_set ?_ GE128.out) | exact HB.out)⟩⟩
                      case round =>
                        clear H'
                        try clear c1
                        try clear p1
                        try clear q1
                        try clear hx1
                        try clear c2
                        try clear p2
                        try clear c3
                        try clear p6
                        try clear c8
                        try clear c12
                        try clear p12
                        try clear q12
                        try clear hx12
                        try clear c13
                        try clear p13
                        try clear q13
                        try clear hx13
                        try clear c20
                        try clear c20b0
                        try clear c21
                        try clear c21b0
                        try clear c22
                        try clear c22b0
                        try clear c23
                        try clear c23b0
                        try clear c24
                        try clear c24b0
                        try clear c25
                        try clear c30
                        try clear c30b0
                        try clear c31
                        try clear c31b0
                        try clear hx121_0
                        try clear hx121_1
                        try clear hx121_2
                        try clear hx121_3
                        try clear hx121_4
                        try clear hx121_5
                        try clear hx121_6
                        try clear hx121_7
                        try clear hx122_0
                        try clear hx122_1
                        try clear hx122_2
                        try clear hx122_3
                        try clear hx122_4
                        try clear hx122_5
                        try clear hx122_6
                        try clear hx122_7
                        try clear hx123_0
                        try clear hx123_1
                        try clear hx123_2
                        try clear hx123_3
                        try clear hx123_4
                        try clear hx123_5
                        try clear hx123_6
                        try clear hx123_7
                        try clear hx124_0
                        try clear hx124_1
                        try clear hx124_2
                        try clear hx124_3
                        try clear hx124_4
                        try clear hx124_5
                        try clear hx124_6
                        try clear hx124_7
                        try clear hx129_0
                        try clear hx129_1
                        try clear hx129_2
                        try clear hx129_3
                        try clear hx129_4
                        try clear hx129_5
                        try clear hx129_6
                        try clear hx129_7
                        try clear hx130_0
                        try clear hx130_1
                        try clear hx130_2
                        try clear hx130_3
                        try clear hx130_4
                        try clear hx130_5
                        try clear hx130_6
                        try clear hx130_7
                        try clear hx131_0
                        try clear hx131_1
                        try clear hx131_2
                        try clear hx131_3
                        try clear hx131_4
                        try clear hx131_5
                        try clear hx135_0
                        try clear hx135_1
                        try clear hx135_2
                        try clear hx135_3
                        try clear hx135_4
                        try clear hx135_5
                        try clear hx135_6
                        try clear hx135_7
                        try clear p1
                        try clear p12
                        try clear p122
                        try clear p123
                        try clear p124
                        try clear p129
                        try clear p130
                        try clear p131
                        try clear p135
                        try clear p2
                        try clear q1
                        try clear q12
                        try clear q122
                        try clear q123
                        try clear q124
                        try clear q129
                        try clear q130
                        try clear q131
                        try clear q135
                        obtain ⟨x65_3, x129005_3, u129005, rfl, HA, HK3, HO_3, HO_129004, HO_129005, HO_129007, BK128, HB⟩ := hrel
                        cases gk with
                        | zero => exact absurd HA.out (by simp [courierlaw05_Theirs.l2])
                        | succ k3 =>
                          have H := HA.out
                          clear HA
                          simp only [courierlaw05_Theirs.l2] at H
                          by_cases c32 : x65_3 < (((rd_T54 l0 x11_1).f4).length : Int)
                          · rw [if_pos c32] at H
                            have c32b0 : decide (x65_3 < (((rd_T54 l0 x11_1).f4).length : Int)) = true := decide_eq_true c32
                            clear c32
                            by_cases c33 : 0 ≤ x11_1
                            · rw [if_pos c33] at H
                              have c33b0 : decide (0 ≤ x11_1) = true := decide_eq_true c33
                              clear c33
                              by_cases c34 : x11_1 < (l0.length : Int)
                              · rw [if_pos c34] at H
                                have c34b0 : decide (x11_1 < (l0.length : Int)) = true := decide_eq_true c34
                                clear c34
                                by_cases c35 : 0 ≤ x65_3
                                · rw [if_pos c35] at H
                                  have c35b0 : decide (0 ≤ x65_3) = true := decide_eq_true c35
                                  clear c35
                                  by_cases c36 : x65_3 < (((rd_T54 l0 x11_1).f4).length : Int)
                                  · rw [if_pos c36] at H
                                    have c36b0 : decide (x65_3 < (((rd_T54 l0 x11_1).f4).length : Int)) = true := decide_eq_true c36
                                    clear c36
                                    by_cases c37 : x129005_3.length < 3518437208883
                                    · rw [if_pos c37] at H
                                      have LMc37 := Aside0.mk c37
                                      clear c37
                                      obtain ⟨y138, hy138⟩ : ∃ y_ : List (S59), y_ = (x129005_3 ++ [(⟨(rd_T60 ((rd_T54 l0 x11_1).f4) x65_3).f0, (rd_T60 ((rd_T54 l0 x11_1).f4) x65_3).f1, (⟨(rd_T60 ((rd_T54 l0 x11_1).f4) x65_3).f2.f0, (rd_T60 ((rd_T54 l0 x11_1).f4) x65_3).f2.f1⟩ : S42)⟩ : S59)]) := ⟨_, rfl⟩
                                      replace H : (courierlaw05_Theirs.l2 k3 l0 x3_1 x11_1 (l0.length : Int) x11_1 (((rd_T54 l0 x11_1).f4).length : Int) (wrap64 (x65_3 + 1)) ((rd_T54 l0 x11_1).f0) ((rd_T54 l0 x11_1).f1) ((rd_T54 l0 x11_1).f2.f0) ((rd_T54 l0 x11_1).f2.f1) x129004_2 y138 t125) = some r := by first | (rw [hy138]; with_reducible exact H) | (have H2_ := (Option.bind_some _ _).symm.trans H; rw [hy138]; with_reducible exact H2_) | (have H2_ := (Option.bind_some _ _).symm.trans H; with_reducible exact H2_) | with_reducible exact H | (rw [hy138]; exact H) | exact H
                                      have Ny138 := Aside0.mk hy138
                                      clear hy138
                                      have H' := Aside0.mk H
                                      clear H
                                      try go_wp2
                                      have n0_ := Aside0.mk (Kd.R_drew HO_3.out)
                                      have n1_ := Aside0.mk (Kd.R_drew HO_129004.out)
                                      have n2_ := Aside0.mk (Kd.R_drew HO_129005.out)
                                      have n3_ := Aside0.mk (Kd.R_drew HO_129007.out)
                                      have n4_ := Aside0.mk (blk_drew BK128.out)
                                      have n5_ := Aside0.mk (below_drew1 HB.out)
                                      clear HO_3
                                      clear HO_129004
                                      clear HO_129005
                                      clear HO_129007
                                      clear BK128
                                      clear HB
                                      have HO_3 := n0_
                                      have HO_129004 := n1_
                                      have HO_129005 := n2_
                                      have HO_129007 := n3_
                                      have BK128 := n4_
                                      have HB := n5_
                                      clear n0_ n1_ n2_ n3_ n4_ n5_
                                      have p136 : 0 ≤ (x11_1 : Int) := of_decide_eq_true (by first | (with_reducible assumption) | assumption)
                                      have q136 : x11_1 < (l0.length : Int) := of_decide_eq_true (by first | (with_reducible assumption) | assumption)
                                      obtain ⟨ad136, A136_4, c136_4, A136_5, c136_5, A136_6, c136_6, A136_7, c136_7, e136, hx136_0, hx136_1, hx136_2, hx136_3, hx136_4, hx136_5, hx136_6, hx136_7, hl136_4, hi136_4, hl136_5, hi136_5, hl136_6, hi136_6, hl136_7, hi136_7⟩ := at_T54 HR0.out x11_1 p136 q136
                                      have hw136_7 := hx136_7
                                      have hw136_6 := hx136_6
                                      have hw136_5 := hx136_5
                                      have hw136_4 := hx136_4
                                      have hw136_3 := hx136_3
                                      have hw136_2 := hx136_2
                                      have hw136_1 := hx136_1
                                      have hw136_0 := hx136_0
                                      obtain rfl : ad121 = ad136 := (by injection e136)
                                      replace hx136_0 := (HB.out.cell (World.block_lt_of_cell? w _ hx136_0)).trans hx136_0
                                      replace hx136_1 := (HB.out.cell (World.block_lt_of_cell? w _ hx136_1)).trans hx136_1
                                      replace hx136_2 := (HB.out.cell (World.block_lt_of_cell? w _ hx136_2)).trans hx136_2
                                      replace hx136_3 := (HB.out.cell (World.block_lt_of_cell? w _ hx136_3)).trans hx136_3
                                      replace hx136_4 := (HB.out.cell (World.block_lt_of_cell? w _ hx136_4)).trans hx136_4
                                      replace hx136_5 := (HB.out.cell (World.block_lt_of_cell? w _ hx136_5)).trans hx136_5
                                      replace hx136_6 := (HB.out.cell (World.block_lt_of_cell? w _ hx136_6)).trans hx136_6
                                      replace hx136_7 := (HB.out.cell (World.block_lt_of_cell? w _ hx136_7)).trans hx136_7
                                      have HR136_4 := Aside0.mk hi136_4
                                      have HC136_4 := Aside0.mk hl136_4
                                      clear hi136_4 hl136_4
                                      have HR136_5 := Aside0.mk hi136_5
                                      have HC136_5 := Aside0.mk hl136_5
                                      clear hi136_5 hl136_5
                                      have HR136_6 := Aside0.mk hi136_6
                                      have HC136_6 := Aside0.mk hl136_6
                                      clear hi136_6 hl136_6
                                      have HR136_7 := Aside0.mk hi136_7
                                      have HC136_7 := Aside0.mk hl136_7
                                      clear hi136_7 hl136_7
                                      replace p136 := eq_true p136
                                      replace q136 := eq_true q136
                                      have p137 : 0 ≤ (x65_3 : Int) := of_decide_eq_true (by first | (with_reducible assumption) | assumption)
                                      have q137 : x65_3 < (((rd_T54 l0 x11_1).f4).length : Int) := of_decide_eq_true (by first | (with_reducible assumption) | assumption)
                                      obtain ⟨ad137, e137, hx137_0, hx137_1, hx137_2, hx137_3⟩ := at_T60 HR136_5.out x65_3 p137 q137
                                      have hw137_3 := hx137_3
                                      have hw137_2 := hx137_2
                                      have hw137_1 := hx137_1
                                      have hw137_0 := hx137_0
                                      cases e137
                                      replace hx137_0 := (HB.out.cell (World.block_lt_of_cell? w _ hx137_0)).trans hx137_0
                                      replace hx137_1 := (HB.out.cell (World.block_lt_of_cell? w _ hx137_1)).trans hx137_1
                                      replace hx137_2 := (HB.out.cell (World.block_lt_of_cell? w _ hx137_2)).trans hx137_2
                                      replace hx137_3 := (HB.out.cell (World.block_lt_of_cell? w _ hx137_3)).trans hx137_3
                                      replace p137 := eq_true p137
                                      replace q137 := eq_true q137
                                      refine start_ (n := 14) (S := fun w' => w'.cell? ⟨gb128, 0, none⟩ = some (.int .i64 ((rd_T54 l0 x11_1).f0)) ∧ w'.cell? ⟨gb128, 1, none⟩ = some (.string ((rd_T54 l0 x11_1).f1)) ∧ w'.cell? ⟨gb128, 2, none⟩ = some (.int .i64 ((rd_T54 l0 x11_1).f2.f0)) ∧ w'.cell? ⟨gb128, 3, none⟩ = some (.int .i64 ((rd_T54 l0 x11_1).f2.f1)) ∧ w'.cell? ⟨gb128, 4, none⟩ = some (u129004) ∧ w'.cell? ⟨gb128, 5, none⟩ = some (u129005) ∧ w'.cell? ⟨gb128, 6, none⟩ = some (.slice none 0 0) ∧ w'.cell? ⟨gb128, 7, none⟩ = some (.slice Ao11 t125.length co11) ∧ w'.cell? (ad121.add ((x11_1).toNat * 8)) = some (.int .i64 ((rd_T54 l0 x11_1).f0)) ∧ w'.cell? ⟨(ad121.add ((x11_1).toNat * 8)).block, (ad121.add ((x11_1).toNat * 8)).off + 1, none⟩ = some (.string ((rd_T54 l0 x11_1).f1)) ∧ w'.cell? ⟨(ad121.add ((x11_1).toNat * 8)).block, (ad121.add ((x11_1).toNat * 8)).off + 2, none⟩ = some (.int .i64 ((rd_T54 l0 x11_1).f2.f0)) ∧ w'.cell? ⟨(ad121.add ((x11_1).toNat * 8)).block, (ad121.add ((x11_1).toNat * 8)).off + 3, none⟩ = some (.int .i64 ((rd_T54 l0 x11_1).f2.f1)) ∧ w'.cell? ⟨(ad121.add ((x11_1).toNat * 8)).block, (ad121.add ((x11_1).toNat * 8)).off + 4, none⟩ = some (.slice A136_4 ((rd_T54 l0 x11_1).f3).length c136_4) ∧ w'.cell? ⟨(ad121.add ((x11_1).toNat * 8)).block, (ad121.add ((x11_1).toNat * 8)).off + 5, none⟩ = some (.slice (some ad137) ((rd_T54 l0 x11_1).f4).length c136_5) ∧ w'.cell? ⟨(ad121.add ((x11_1).toNat * 8)).block, (ad121.add ((x11_1).toNat * 8)).off + 6, none⟩ = some (.slice A136_6 ((rd_T54 l0 x11_1).f5).length c136_6) ∧ w'.cell? ⟨(ad121.add ((x11_1).toNat * 8)).block, (ad121.add ((x11_1).toNat * 8)).off + 7, none⟩ = some (.slice A136_7 ((rd_T54 l0 x11_1).f6).length c136_7) ∧ w'.cell? (ad137.add ((x65_3).toNat * 4)) = some (.string ((rd_T60 ((rd_T54 l0 x11_1).f4) x65_3).f0)) ∧ w'.cell? ⟨(ad137.add ((x65_3).toNat * 4)).block, (ad137.add ((x65_3).toNat * 4)).off + 1, none⟩ = some (.int .i64 ((rd_T60 ((rd_T54 l0 x11_1).f4) x65_3).f1)) ∧ w'.cell? ⟨(ad137.add ((x65_3).toNat * 4)).block, (ad137.add ((x65_3).toNat * 4)).off + 2, none⟩ = some (.int .i64 ((rd_T60 ((rd_T54 l0 x11_1).f4) x65_3).f2.f0)) ∧ w'.cell? ⟨(ad137.add ((x65_3).toNat * 4)).block, (ad137.add ((x65_3).toNat * 4)).off + 3, none⟩ = some (.int .i64 ((rd_T60 ((rd_T54 l0 x11_1).f4) x65_3).f2.f1))) (ds := [13]) #[false, false, false, false, false, false, false, false, false, false, false, false, false, false] (by kernel_rfl) rfl rfl ⟨(blk_cell BK128.out 0).trans rfl, (blk_cell BK128.out 1).trans rfl, (blk_cell BK128.out 2).trans rfl, (blk_cell BK128.out 3).trans rfl, (blk_cell BK128.out 4).trans rfl, (blk_cell BK128.out 5).trans rfl, (blk_cell BK128.out 6).trans rfl, (blk_cell BK128.out 7).trans rfl, ((HB.out.cell (World.block_lt_of_cell? w _ hw136_0)).trans hw136_0), ((HB.out.cell (World.block_lt_of_cell? w _ hw136_1)).trans hw136_1), ((HB.out.cell (World.block_lt_of_cell? w _ hw136_2)).trans hw136_2), ((HB.out.cell (World.block_lt_of_cell? w _ hw136_3)).trans hw136_3), ((HB.out.cell (World.block_lt_of_cell? w _ hw136_4)).trans hw136_4), ((HB.out.cell (World.block_lt_of_cell? w _ hw136_5)).trans hw136_5), ((HB.out.cell (World.block_lt_of_cell? w _ hw136_6)).trans hw136_6), ((HB.out.cell (World.block_lt_of_cell? w _ hw136_7)).trans hw136_7), ((HB.out.cell (World.block_lt_of_cell? w _ hw137_0)).trans hw137_0), ((HB.out.cell (World.block_lt_of_cell? w _ hw137_1)).trans hw137_1), ((HB.out.cell (World.block_lt_of_cell? w _ hw137_2)).trans hw137_2), ((HB.out.cell (World.block_lt_of_cell? w _ hw137_3)).trans hw137_3)⟩ (fun hHeld => ?_); refine with_tabW courierlaw05_Theirs.tab14 courierlaw05_Theirs.bits14 (fun HT_ HW_ => ?_)
                                      generalize wr.drew = w38 at HO_3 HO_129004 HO_129005 HO_129007 BK128 HB HR136_4 HR136_5 HR136_6 HR136_7 hx136_0 hx136_1 hx136_2 hx136_3 hx136_4 hx136_5 hx136_6 hx136_7 hx137_0 hx137_1 hx137_2 hx137_3 hHeld ⊢
                                      refine pure_ (i := 0) (N := some 68) (v := ?_) (a' := ?_) #[true, false, false, false, false, false, false, false, false, false, false, false, false, false] rfl rfl (any_of HT_.out (by kernel_rfl)) (fun _ _ _ h => h) (Or.inl ⟨by rfl, ?_⟩) ?_ ?_
                                      rotate_left
                                      · intro w'
                                        go_simp
                                        with_reducible rfl
                                      rotate_left
                                      · simp only [Act.put, List.setIfInBounds_toArray, List.set_cons_zero, List.set_cons_succ, i64_w, i32_w]
                                        rfl
                                      refine pure_ (i := 2) (N := some 70) (v := ?_) (a' := ?_) #[true, false, true, false, false, false, false, false, false, false, false, false, false, false] rfl rfl (any_of HT_.out (by kernel_rfl)) (fun _ _ _ h => h) (Or.inl ⟨by rfl, ?_⟩) ?_ ?_
                                      rotate_left
                                      · intro w'
                                        go_simp
                                        with_reducible rfl
                                      rotate_left
                                      · simp only [Act.put, List.setIfInBounds_toArray, List.set_cons_zero, List.set_cons_succ, i64_w, i32_w]
                                        rfl
                                      refine pure_ (i := 3) (N := some 71) (v := ?_) (a' := ?_) #[true, false, true, true, false, false, false, false, false, false, false, false, false, false] rfl rfl (any_of HT_.out (by kernel_rfl)) (fun _ _ _ h => h) (Or.inl ⟨by rfl, ?_⟩) ?_ ?_
                                      rotate_left
                                      · intro w'
                                        go_simp
                                        with_reducible rfl
                                      rotate_left
                                      · simp only [Act.put, List.setIfInBounds_toArray, List.set_cons_zero, List.set_cons_succ, i64_w, i32_w]
                                        rfl
                                      refine pure_ (i := 4) (N := some 72) (v := ?_) (a' := ?_) #[true, false, true, true, true, false, false, false, false, false, false, false, false, false] rfl rfl (any_of HT_.out (by kernel_rfl)) (fun _ _ _ h => h) (Or.inl ⟨by rfl, ?_⟩) ?_ ?_
                                      rotate_left
                                      · intro w'
                                        go_simp
                                        with_reducible rfl
                                      rotate_left
                                      · simp only [Act.put, List.setIfInBounds_toArray, List.set_cons_zero, List.set_cons_succ, i64_w, i32_w]
                                        rfl
                                      refine pure_ (i := 5) (N := some 73) (v := ?_) (a' := ?_) #[true, false, true, true, true, true, false, false, false, false, false, false, false, false] rfl rfl (any_of HT_.out (by kernel_rfl)) (fun _ _ _ h => h) (Or.inl ⟨by rfl, ?_⟩) ?_ ?_
                                      rotate_left
                                      · intro w'
                                        go_simp
                                        with_reducible rfl
                                      rotate_left
                                      · simp only [Act.put, List.setIfInBounds_toArray, List.set_cons_zero, List.set_cons_succ, i64_w, i32_w]
                                        rfl
                                      refine pure_ (i := 7) (N := some 75) (v := ?_) (a' := ?_) #[true, false, true, true, true, true, false, true, false, false, false, false, false, false] rfl rfl (any_of HT_.out (by kernel_rfl)) (fun _ _ _ h => h) (Or.inl ⟨by rfl, ?_⟩) ?_ ?_
                                      rotate_left
                                      · intro w'
                                        go_simp
                                        with_reducible rfl
                                      rotate_left
                                      · simp only [Act.put, List.setIfInBounds_toArray, List.set_cons_zero, List.set_cons_succ, i64_w, i32_w]
                                        rfl
                                      refine take_ (i := 1) (N := some 69) (v := ?_) (a' := ?_) #[true, true, true, true, true, true, false, true, false, false, false, false, false, false] rfl rfl (take_ofW HT_.out HW_.out (by kernel_rfl)) (fun _ _ _ h => h) (Or.inl ⟨by rfl, ?_⟩) hHeld ?_ ?_
                                      rotate_left
                                      · rintro w' ⟨s0, s1, s2, s3, s4, s5, s6, s7, s8, s9, s10, s11, s12, s13, s14, s15, s16, s17, s18, s19⟩
                                        go_simp
                                        with_reducible rfl
                                      rotate_left
                                      · simp only [Act.put, List.setIfInBounds_toArray, List.set_cons_zero, List.set_cons_succ, i64_w, i32_w]
                                        rfl
                                      refine take_ (i := 6) (N := some 74) (v := ?_) (a' := ?_) #[true, true, true, true, true, true, true, true, false, false, false, false, false, false] rfl rfl (take_ofW HT_.out HW_.out (by kernel_rfl)) (fun _ _ _ h => h) (Or.inl ⟨by rfl, ?_⟩) hHeld ?_ ?_
                                      rotate_left
                                      · rintro w' ⟨s0, s1, s2, s3, s4, s5, s6, s7, s8, s9, s10, s11, s12, s13, s14, s15, s16, s17, s18, s19⟩
                                        go_simp
                                        with_reducible rfl
                                      rotate_left
                                      · simp only [Act.put, List.setIfInBounds_toArray, List.set_cons_zero, List.set_cons_succ, i64_w, i32_w]
                                        rfl
                                      refine pure_ (i := 8) (N := some 76) (v := ?_) (a' := ?_) #[true, true, true, true, true, true, true, true, true, false, false, false, false, false] rfl rfl (any_of HT_.out (by kernel_rfl)) (fun _ _ _ h => h) (Or.inl ⟨by rfl, ?_⟩) ?_ ?_
                                      rotate_left
                                      · intro w'
                                        go_simp
                                        with_reducible rfl
                                      rotate_left
                                      · simp only [Act.put, List.setIfInBounds_toArray, List.set_cons_zero, List.set_cons_succ, i64_w, i32_w]
                                        rfl
                                      refine take_ (i := 9) (N := some 77) (v := ?_) (a' := ?_) #[true, true, true, true, true, true, true, true, true, true, false, false, false, false] rfl rfl (take_ofW HT_.out HW_.out (by kernel_rfl)) (fun _ _ _ h => h) (Or.inl ⟨by rfl, ?_⟩) hHeld ?_ ?_
                                      rotate_left
                                      · rintro w' ⟨s0, s1, s2, s3, s4, s5, s6, s7, s8, s9, s10, s11, s12, s13, s14, s15, s16, s17, s18, s19⟩
                                        go_simp
                                        with_reducible rfl
                                      rotate_left
                                      · simp only [Act.put, List.setIfInBounds_toArray, List.set_cons_zero, List.set_cons_succ, i64_w, i32_w]
                                        rfl
                                      refine one_ (i := 10) (N := some 78) #[true, true, true, true, true, true, true, true, true, true, true, false, false, false] rfl rfl (one_of HT_.out (by kernel_rfl)) (by decide) (fun K hK => ?_)
                                      refine value_ (w1 := ?_) (v := ?_) (by rfl) rfl ?_ ?_
                                      rotate_left 2
                                      · go_simp
                                        constructor
                                        · rfl
                                        · rfl
                                      refine hK.out _ _ ⟨(blk_cell (blk_alloc BK128.out _) 0).trans rfl, (blk_cell (blk_alloc BK128.out _) 1).trans rfl, (blk_cell (blk_alloc BK128.out _) 2).trans rfl, (blk_cell (blk_alloc BK128.out _) 3).trans rfl, (blk_cell (blk_alloc BK128.out _) 4).trans rfl, (blk_cell (blk_alloc BK128.out _) 5).trans rfl, (blk_cell (blk_alloc BK128.out _) 6).trans rfl, (blk_cell (blk_alloc BK128.out _) 7).trans rfl, (World.cell?_alloc_lt _ _ _ (World.block_lt_of_cell? _ _ (((HB.out.cell (World.block_lt_of_cell? w _ hw136_0)).trans hw136_0)))).trans (((HB.out.cell (World.block_lt_of_cell? w _ hw136_0)).trans hw136_0)), (World.cell?_alloc_lt _ _ _ (World.block_lt_of_cell? _ _ (((HB.out.cell (World.block_lt_of_cell? w _ hw136_1)).trans hw136_1)))).trans (((HB.out.cell (World.block_lt_of_cell? w _ hw136_1)).trans hw136_1)), (World.cell?_alloc_lt _ _ _ (World.block_lt_of_cell? _ _ (((HB.out.cell (World.block_lt_of_cell? w _ hw136_2)).trans hw136_2)))).trans (((HB.out.cell (World.block_lt_of_cell? w _ hw136_2)).trans hw136_2)), (World.cell?_alloc_lt _ _ _ (World.block_lt_of_cell? _ _ (((HB.out.cell (World.block_lt_of_cell? w _ hw136_3)).trans hw136_3)))).trans (((HB.out.cell (World.block_lt_of_cell? w _ hw136_3)).trans hw136_3)), (World.cell?_alloc_lt _ _ _ (World.block_lt_of_cell? _ _ (((HB.out.cell (World.block_lt_of_cell? w _ hw136_4)).trans hw136_4)))).trans (((HB.out.cell (World.block_lt_of_cell? w _ hw136_4)).trans hw136_4)), (World.cell?_alloc_lt _ _ _ (World.block_lt_of_cell? _ _ (((HB.out.cell (World.block_lt_of_cell? w _ hw136_5)).trans hw136_5)))).trans (((HB.out.cell (World.block_lt_of_cell? w _ hw136_5)).trans hw136_5)), (World.cell?_alloc_lt _ _ _ (World.block_lt_of_cell? _ _ (((HB.out.cell (World.block_lt_of_cell? w _ hw136_6)).trans hw136_6)))).trans (((HB.out.cell (World.block_lt_of_cell? w _ hw136_6)).trans hw136_6)), (World.cell?_alloc_lt _ _ _ (World.block_lt_of_cell? _ _ (((HB.out.cell (World.block_lt_of_cell? w _ hw136_7)).trans hw136_7)))).trans (((HB.out.cell (World.block_lt_of_cell? w _ hw136_7)).trans hw136_7)), (World.cell?_alloc_lt _ _ _ (World.block_lt_of_cell? _ _ (((HB.out.cell (World.block_lt_of_cell? w _ hw137_0)).trans hw137_0)))).trans (((HB.out.cell (World.block_lt_of_cell? w _ hw137_0)).trans hw137_0)), (World.cell?_alloc_lt _ _ _ (World.block_lt_of_cell? _ _ (((HB.out.cell (World.block_lt_of_cell? w _ hw137_1)).trans hw137_1)))).trans (((HB.out.cell (World.block_lt_of_cell? w _ hw137_1)).trans hw137_1)), (World.cell?_alloc_lt _ _ _ (World.block_lt_of_cell? _ _ (((HB.out.cell (World.block_lt_of_cell? w _ hw137_2)).trans hw137_2)))).trans (((HB.out.cell (World.block_lt_of_cell? w _ hw137_2)).trans hw137_2)), (World.cell?_alloc_lt _ _ _ (World.block_lt_of_cell? _ _ (((HB.out.cell (World.block_lt_of_cell? w _ hw137_3)).trans hw137_3)))).trans (((HB.out.cell (World.block_lt_of_cell? w _ hw137_3)).trans hw137_3))⟩ (fun hHeld => ?_)
                                      clear hK K
                                      refine norm_ (a' := ?_) ?_ ?_
                                      rotate_left
                                      · show Act.put _ (some 78) _ = _
                                        simp only [Act.put, List.setIfInBounds_toArray, List.set_cons_zero, List.set_cons_succ, i64_w, i32_w]
                                        rfl
                                      refine one_ (i := 11) (N := some 79) #[true, true, true, true, true, true, true, true, true, true, true, true, false, false] rfl rfl (one_of HT_.out (by kernel_rfl)) (by decide) (fun K hK => ?_)
                                      refine Kd.R_append_step k59 (w0 := w) w.heap.size (by rfl) (.tmp 69) (.tmp 78) 44 59 (.agg #[(.string ⟨#[]⟩), (.int .i64 0), (.int .i64 0), (.int .i64 0)]) 40 rfl Tryd.underlying44 info59 rfl (by decide) (by omega) u129005 x129005_3 (⟨(rd_T60 ((rd_T54 l0 x11_1).f4) x65_3).f0, (rd_T60 ((rd_T54 l0 x11_1).f4) x65_3).f1, (⟨(rd_T60 ((rd_T54 l0 x11_1).f4) x65_3).f2.f0, (rd_T60 ((rd_T54 l0 x11_1).f4) x65_3).f2.f1⟩ : S42)⟩ : S59) [.string ((rd_T60 ((rd_T54 l0 x11_1).f4) x65_3).f0), .int .i64 ((rd_T60 ((rd_T54 l0 x11_1).f4) x65_3).f1), .int .i64 ((rd_T60 ((rd_T54 l0 x11_1).f4) x65_3).f2.f0), .int .i64 ((rd_T60 ((rd_T54 l0 x11_1).f4) x65_3).f2.f1)] (fun _ => True) (fun _ => False) rfl rfl ?aP (fun _ hk => hk.elim) ?aF ?aO ?aB ?aS ?aL ?_
                                      (case aP => exact k59_mkM _ _ _ (⟨(rd_T60 ((rd_T54 l0 x11_1).f4) x65_3).f0, (rd_T60 ((rd_T54 l0 x11_1).f4) x65_3).f1, (⟨(rd_T60 ((rd_T54 l0 x11_1).f4) x65_3).f2.f0, (rd_T60 ((rd_T54 l0 x11_1).f4) x65_3).f2.f1⟩ : S42)⟩ : S59))
                                      (case aB => exact (by repeat (first | (with_reducible first | exact HB.out | apply below_alloc | apply pw_below_drewN | apply below_drew1 | refine below_set ?_ GE128.out) | exact HB.out)))
                                      (case aF => exact (fun _ _ => trivial))
                                      (case aO => exact (by (with_reducible repeat (first | apply Kd.R_alloc | apply Kd.R_drewN | apply Kd.R_drew)); exact HO_129005.out))
                                      (case aS => exact (below_size (by repeat (first | (with_reducible first | exact HB.out | apply below_alloc | apply pw_below_drewN | apply below_drew1 | refine below_set ?_ GE128.out) | exact HB.out))))
                                      (case aL => have := LMc37.out; omega)
                                      intro v139 w39 ho hb hg hat
                                      rw [← Ny138.out] at ho
                                      have n0_ := Aside0.mk (Kd.R_after (ok := (fun k_ => some k_ ≠ (u129004 : Value).ownBlock ∧ some k_ ≠ (.slice Ao11 t125.length co11 : Value).ownBlock ∧ k_ ≠ gb128)) (by (with_reducible repeat (first | apply Kd.R_alloc | apply Kd.R_drewN | apply Kd.R_drew)); exact Kd.R_mono HO_3.out (fun _ hk => ⟨⟨hk.1, ⟨hk.2.2.1, hk.2.2.2⟩⟩, hk.2.1⟩)) hg hat)
                                      have n1_ := Aside0.mk (Kd.R_over' (by (with_reducible repeat (first | apply Kd.R_alloc | apply Kd.R_drewN | apply Kd.R_drew)); exact HO_129004.out) (Kd.R_typed (by (with_reducible repeat (first | apply Kd.R_alloc | apply Kd.R_drewN | apply Kd.R_drew)); exact HO_129005.out)) (by decide) hg)
                                      have n2_ := Aside0.mk (Kd.R_after (ok := (fun k_ => some k_ ≠ (u3 : Value).ownBlock ∧ some k_ ≠ (u129004 : Value).ownBlock ∧ k_ ≠ gb128)) (by (with_reducible repeat (first | apply Kd.R_alloc | apply Kd.R_drewN | apply Kd.R_drew)); exact Kd.R_mono HO_129007.out (fun _ hk => ⟨⟨hk.1, ⟨hk.2.1, hk.2.2.2⟩⟩, hk.2.2.1⟩)) hg hat)
                                      have n3_ := Aside0.mk (blk_grown (g := gb128) (o := .cells #[.int .i64 ((rd_T54 l0 x11_1).f0), .string ((rd_T54 l0 x11_1).f1), .int .i64 ((rd_T54 l0 x11_1).f2.f0), .int .i64 ((rd_T54 l0 x11_1).f2.f1), u129004, u129005, .slice none 0 0, .slice Ao11 t125.length co11] 47 (0, 0)) (by (with_reducible repeat (first | refine blk_drewN ?_ _ | refine blk_drew ?_ | refine blk_alloc ?_ _)); exact BK128.out) hg (Kd.R_ne HO_129005.out BK128.out (by decide)))
                                      have n4_ := Aside0.mk (hb)
                                      have n5_ := Aside0.mk (ho)
                                      clear HO_3
                                      clear HO_129004
                                      clear HO_129007
                                      clear BK128
                                      clear HB
                                      clear HO_129005
                                      have HO_3 := n0_
                                      have HO_129004 := n1_
                                      have HO_129007 := n2_
                                      have BK128 := n3_
                                      have HB := n4_
                                      have HO140 := n5_
                                      clear n0_ n1_ n2_ n3_ n4_ n5_
                                      clear ho hb hg hat
                                      obtain ⟨Ao40, co40, eo40⟩ := Kd.R_slice HO140.out
                                      (first | subst eo40 | (injection eo40 with f1_ f2_ f3_; have f4_ := f1_.symm; have f5_ := f3_.symm; clear f1_ f2_ f3_; subst f4_; subst f5_))
                                      refine hK.out _ _ ⟨(blk_cell BK128.out 0).trans rfl, (blk_cell BK128.out 1).trans rfl, (blk_cell BK128.out 2).trans rfl, (blk_cell BK128.out 3).trans rfl, (blk_cell BK128.out 4).trans rfl, (blk_cell BK128.out 5).trans rfl, (blk_cell BK128.out 6).trans rfl, (blk_cell BK128.out 7).trans rfl, ((HB.out.cell (World.block_lt_of_cell? w _ hw136_0)).trans hw136_0), ((HB.out.cell (World.block_lt_of_cell? w _ hw136_1)).trans hw136_1), ((HB.out.cell (World.block_lt_of_cell? w _ hw136_2)).trans hw136_2), ((HB.out.cell (World.block_lt_of_cell? w _ hw136_3)).trans hw136_3), ((HB.out.cell (World.block_lt_of_cell? w _ hw136_4)).trans hw136_4), ((HB.out.cell (World.block_lt_of_cell? w _ hw136_5)).trans hw136_5), ((HB.out.cell (World.block_lt_of_cell? w _ hw136_6)).trans hw136_6), ((HB.out.cell (World.block_lt_of_cell? w _ hw136_7)).trans hw136_7), ((HB.out.cell (World.block_lt_of_cell? w _ hw137_0)).trans hw137_0), ((HB.out.cell (World.block_lt_of_cell? w _ hw137_1)).trans hw137_1), ((HB.out.cell (World.block_lt_of_cell? w _ hw137_2)).trans hw137_2), ((HB.out.cell (World.block_lt_of_cell? w _ hw137_3)).trans hw137_3)⟩ (fun hHeld => ?_)
                                      clear hK K
                                      refine norm_ (a' := ?_) ?_ ?_
                                      rotate_left
                                      · show Act.put _ (some 79) _ = _
                                        simp only [Act.put, List.setIfInBounds_toArray, List.set_cons_zero, List.set_cons_succ, i64_w, i32_w]
                                        rfl
                                      refine pure_ (i := 12) (N := some 80) (v := ?_) (a' := ?_) #[true, true, true, true, true, true, true, true, true, true, true, true, true, false] rfl rfl (any_of HT_.out (by kernel_rfl)) (fun _ _ _ h => h) (Or.inl ⟨by rfl, ?_⟩) ?_ ?_
                                      rotate_left
                                      · intro w'
                                        go_simp
                                        with_reducible rfl
                                      rotate_left
                                      · simp only [Act.put, List.setIfInBounds_toArray, List.set_cons_zero, List.set_cons_succ, i64_w, i32_w]
                                        rfl
                                      refine last_ (i := 13) (N := none) #[true, true, true, true, true, true, true, true, true, true, true, true, true, true] rfl rfl (one_of HT_.out (by kernel_rfl)) (by decide) (fun K hK => ?_)
                                      have hs41 : w39.cell? ⟨gb128, 5, none⟩ = some (u129005) := (blk_cell BK128.out 5).trans rfl
                                      have hfs41 := blk_frozen BK128.out 5
                                      refine skip_ (w1 := ?_) (by rfl) rfl ?_ ?_
                                      rotate_left
                                      · go_simp
                                        rfl
                                      refine hK.out _ _ ?_
                                      clear hK K
                                      refine done_ (done_of HT_.out (by kernel_rfl)) ?_
                                      try go_wp2
                                      go_roundg k3
                                      case measure => have := HK1.out; have := HK2.out; have := HK3.out; omega
                                      case rel => exact ⟨(wrap64 (x65_3 + 1)), (y138), (.slice Ao40 y138.length co40), (by first | rfl | (simp; done) | (simp [*]; done)), H', ⟨by have := HK1.out; have := HK2.out; have := HK3.out; omega⟩, ⟨by (with_reducible repeat (first | apply Kd.R_alloc | apply Kd.R_drewN | apply Kd.R_drew)); exact Kd.R_mono (Kd.R_far (p := ⟨gb128, 5, none⟩) (Kd.R_mono HO_3.out (fun k_ hk => (⟨hk, hk.1.2.2⟩ : _ ∧ k_ ≠ gb128))) (fun _ hk => hk.2) (.slice Ao40 y138.length co40)) (fun _ hk => ⟨hk.1.1.1, ⟨hk.1.2, ⟨hk.1.1.2.1, hk.1.1.2.2⟩⟩⟩)⟩, ⟨by (with_reducible repeat (first | apply Kd.R_alloc | apply Kd.R_drewN | apply Kd.R_drew)); exact Kd.R_mono (Kd.R_far (p := ⟨gb128, 5, none⟩) (Kd.R_types HO_129004.out BK128.out (by decide)) (fun _ hk => hk.2) (.slice Ao40 y138.length co40)) (fun _ hk => trivial)⟩, ⟨by (with_reducible repeat (first | apply Kd.R_alloc | apply Kd.R_drewN | apply Kd.R_drew)); exact Kd.R_mono (Kd.R_far (p := ⟨gb128, 5, none⟩) (Kd.R_types HO140.out BK128.out (by decide)) (fun _ hk => hk.2) (.slice Ao40 y138.length co40)) (fun _ hk => trivial)⟩, ⟨by (with_reducible repeat (first | apply Kd.R_alloc | apply Kd.R_drewN | apply Kd.R_drew)); exact Kd.R_mono (Kd.R_far (p := ⟨gb128, 5, none⟩) (Kd.R_mono HO_129007.out (fun k_ hk => (⟨hk, hk.1.2.2⟩ : _ ∧ k_ ≠ gb128))) (fun _ hk => hk.2) (.slice Ao40 y138.length co40)) (fun _ hk => ⟨hk.1.1.1, ⟨hk.1.1.2.1, ⟨hk.1.2, hk.1.1.2.2⟩⟩⟩)⟩, ⟨by (with_reducible repeat (first | refine blk_drewN ?_ _ | refine blk_drew ?_ | refine blk_alloc ?_ _)); refine blk_put (cs := #[.int .i64 ((rd_T54 l0 x11_1).f0), .string ((rd_T54 l0 x11_1).f1), .int .i64 ((rd_T54 l0 x11_1).f2.f0), .int .i64 ((rd_T54 l0 x11_1).f2.f1), u129004, u129005, .slice none 0 0, .slice Ao11 t125.length co11]) ?_ 5 _ rfl; (with_reducible repeat (first | refine blk_drewN ?_ _ | refine blk_drew ?_ | refine blk_alloc ?_ _)); exact BK128.out⟩, ⟨by repeat (first | (with_reducible first | exact HB.out | apply below_alloc | apply pw_below_drewN | apply below_drew1 | refine below_set ?_ GE128.out) | exact HB.out)⟩⟩
                                    · rw [if_neg c37] at H
                                      exact absurd H (by simp)
                                  · rw [if_neg c36] at H
                                    exact absurd H (by simp)
                                · rw [if_neg c35] at H
                                  exact absurd H (by simp)
                              · rw [if_neg c34] at H
                                exact absurd H (by simp)
                            · rw [if_neg c33] at H
                              exact absurd H (by simp)
                          · rw [if_neg c32] at H
                            have c32b0 : decide (x65_3 < (((rd_T54 l0 x11_1).f4).length : Int)) = false := decide_eq_false c32
                            clear c32
                            by_cases c42 : 0 ≤ x11_1
                            · rw [if_pos c42] at H
                              have c42b0 : decide (0 ≤ x11_1) = true := decide_eq_true c42
                              clear c42
                              by_cases c43 : x11_1 < (l0.length : Int)
                              · rw [if_pos c43] at H
                                have c43b0 : decide (x11_1 < (l0.length : Int)) = true := decide_eq_true c43
                                clear c43
                                have H' := Aside0.mk H
                                clear H
                                have p141 : 0 ≤ (x11_1 : Int) := of_decide_eq_true (by first | (with_reducible assumption) | assumption)
                                have q141 : x11_1 < (l0.length : Int) := of_decide_eq_true (by first | (with_reducible assumption) | assumption)
                                obtain ⟨ad141, A141_4, c141_4, A141_5, c141_5, A141_6, c141_6, A141_7, c141_7, e141, hx141_0, hx141_1, hx141_2, hx141_3, hx141_4, hx141_5, hx141_6, hx141_7, hl141_4, hi141_4, hl141_5, hi141_5, hl141_6, hi141_6, hl141_7, hi141_7⟩ := at_T54 HR0.out x11_1 p141 q141
                                obtain rfl : ad121 = ad141 := (by injection e141)
                                replace hx141_0 := (HB.out.cell (World.block_lt_of_cell? w _ hx141_0)).trans hx141_0
                                replace hx141_1 := (HB.out.cell (World.block_lt_of_cell? w _ hx141_1)).trans hx141_1
                                replace hx141_2 := (HB.out.cell (World.block_lt_of_cell? w _ hx141_2)).trans hx141_2
                                replace hx141_3 := (HB.out.cell (World.block_lt_of_cell? w _ hx141_3)).trans hx141_3
                                replace hx141_4 := (HB.out.cell (World.block_lt_of_cell? w _ hx141_4)).trans hx141_4
                                replace hx141_5 := (HB.out.cell (World.block_lt_of_cell? w _ hx141_5)).trans hx141_5
                                replace hx141_6 := (HB.out.cell (World.block_lt_of_cell? w _ hx141_6)).trans hx141_6
                                replace hx141_7 := (HB.out.cell (World.block_lt_of_cell? w _ hx141_7)).trans hx141_7
                                have HR141_4 := Aside0.mk hi141_4
                                have HC141_4 := Aside0.mk hl141_4
                                clear hi141_4 hl141_4
                                have HR141_5 := Aside0.mk hi141_5
                                have HC141_5 := Aside0.mk hl141_5
                                clear hi141_5 hl141_5
                                have HR141_6 := Aside0.mk hi141_6
                                have HC141_6 := Aside0.mk hl141_6
                                clear hi141_6 hl141_6
                                have HR141_7 := Aside0.mk hi141_7
                                have HC141_7 := Aside0.mk hl141_7
                                clear hi141_7 hl141_7
                                replace p141 := eq_true p141
                                replace q141 := eq_true q141
                                go_wp2
                                go_loopg [88] k3 (fun kq v88 w' => ∃ (x88_4 : Int) (x129006_4 : List (S62)) (u129006 : Value), v88 = .int .i64 x88_4 ∧ Aside0 (courierlaw05_Theirs.l3 kq l0 x3_1 x11_1 (l0.length : Int) x11_1 (((rd_T54 l0 x11_1).f5).length : Int) x88_4 ((rd_T54 l0 x11_1).f0) ((rd_T54 l0 x11_1).f1) ((rd_T54 l0 x11_1).f2.f0) ((rd_T54 l0 x11_1).f2.f1) x129004_2 x129005_3 x129006_4 t125 = some r) ∧ Aside0 (kq ≤ k3) ∧ Aside0 (Kd.R k47 47 w' w.heap.size (fun k_ => some k_ ≠ (u129004 : Value).ownBlock ∧ some k_ ≠ (u129005 : Value).ownBlock ∧ some k_ ≠ (u129006 : Value).ownBlock ∧ some k_ ≠ ((.slice Ao11 t125.length co11) : Value).ownBlock ∧ k_ ≠ gb128) u3 x3_1) ∧ Aside0 (Kd.R k56 56 w' w.heap.size (fun _ => True) u129004 x129004_2) ∧ Aside0 (Kd.R k59 59 w' w.heap.size (fun _ => True) u129005 x129005_3) ∧ Aside0 (Kd.R k62 62 w' w.heap.size (fun _ => True) u129006 x129006_4) ∧ Aside0 (Kd.R k47 47 w' w.heap.size (fun k_ => some k_ ≠ (u3 : Value).ownBlock ∧ some k_ ≠ (u129004 : Value).ownBlock ∧ some k_ ≠ (u129005 : Value).ownBlock ∧ some k_ ≠ (u129006 : Value).ownBlock ∧ k_ ≠ gb128) (.slice Ao11 t125.length co11) t125) ∧ Aside0 (w'.heap[gb128]? = some (.cells #[.int .i64 ((rd_T54 l0 x11_1).f0), .string ((rd_T54 l0 x11_1).f1), .int .i64 ((rd_T54 l0 x11_1).f2.f0), .int .i64 ((rd_T54 l0 x11_1).f2.f1), u129004, u129005, u129006, (.slice Ao11 t125.length co11)] 47 (0, 0))) ∧ Aside0 (Below w.heap.size w w'))
                                case atStart => exact ⟨(0), (([] : List (S62))), (.slice none 0 0), (by first | rfl | (simp; done) | (simp [*]; done)), H', ⟨Nat.le_refl _⟩, ⟨by (with_reducible repeat (first | apply Kd.R_alloc | apply Kd.R_drewN | apply Kd.R_drew)); exact Kd.R_mono HO_3.out (fun _ hk => ⟨hk.1, ⟨hk.2.1, ⟨(by simp [Value.ownBlock]), ⟨hk.2.2.1, hk.2.2.2⟩⟩⟩⟩)⟩, ⟨by (with_reducible repeat (first | apply Kd.R_alloc | apply Kd.R_drewN | apply Kd.R_drew)); exact HO_129004.out⟩, ⟨by (with_reducible repeat (first | apply Kd.R_alloc | apply Kd.R_drewN | apply Kd.R_drew)); exact HO_129005.out⟩, ⟨by first | exact Kd.R_nil _ _ _ _ _ | exact Kd.N_nil _ _ _ _ _ | exact Kd.V_nil _ _ _ _ _ | exact Kd.Q_nil _ _ _ _ _ | exact Kd.S_nil _ _ _ _ _⟩, ⟨by (with_reducible repeat (first | apply Kd.R_alloc | apply Kd.R_drewN | apply Kd.R_drew)); exact Kd.R_mono HO_129007.out (fun _ hk => ⟨hk.1, ⟨hk.2.1, ⟨hk.2.2.1, ⟨(by simp [Value.ownBlock]), hk.2.2.2⟩⟩⟩⟩)⟩, ⟨by (with_reducible repeat (first | refine blk_drewN ?_ _ | refine blk_drew ?_ | refine blk_alloc ?_ _)); exact BK128.out⟩, ⟨by repeat (first | (with_reducible first | exact HB.out | apply below_alloc | apply pw_below_drewN | apply below_drew1 | refine below_set ?_ GE128.out) | exact HB.out)⟩⟩
                                case round =>
                                  clear H'
                                  try clear c1
                                  try clear p1
                                  try clear q1
                                  try clear hx1
                                  try clear c2
                                  try clear p2
                                  try clear c3
                                  try clear c4
                                  try clear p6
                                  try clear c8
                                  try clear c12
                                  try clear p12
                                  try clear q12
                                  try clear hx12
                                  try clear c13
                                  try clear p13
                                  try clear q13
                                  try clear hx13
                                  try clear c14
                                  try clear p14
                                  try clear q14
                                  try clear hx14
                                  try clear c20
                                  try clear c20b0
                                  try clear c21
                                  try clear c21b0
                                  try clear c22
                                  try clear c22b0
                                  try clear c23
                                  try clear c23b0
                                  try clear c24
                                  try clear c24b0
                                  try clear c25
                                  try clear c30
                                  try clear c30b0
                                  try clear c31
                                  try clear c31b0
                                  try clear c32
                                  try clear c32b0
                                  try clear c33
                                  try clear c33b0
                                  try clear c34
                                  try clear c34b0
                                  try clear c35
                                  try clear c35b0
                                  try clear c36
                                  try clear c36b0
                                  try clear c37
                                  try clear c42
                                  try clear c42b0
                                  try clear c43
                                  try clear c43b0
                                  try clear hx121_0
                                  try clear hx121_1
                                  try clear hx121_2
                                  try clear hx121_3
                                  try clear hx121_4
                                  try clear hx121_5
                                  try clear hx121_6
                                  try clear hx121_7
                                  try clear hx122_0
                                  try clear hx122_1
                                  try clear hx122_2
                                  try clear hx122_3
                                  try clear hx122_4
                                  try clear hx122_5
                                  try clear hx122_6
                                  try clear hx122_7
                                  try clear hx123_0
                                  try clear hx123_1
                                  try clear hx123_2
                                  try clear hx123_3
                                  try clear hx123_4
                                  try clear hx123_5
                                  try clear hx123_6
                                  try clear hx123_7
                                  try clear hx124_0
                                  try clear hx124_1
                                  try clear hx124_2
                                  try clear hx124_3
                                  try clear hx124_4
                                  try clear hx124_5
                                  try clear hx124_6
                                  try clear hx124_7
                                  try clear hx129_0
                                  try clear hx129_1
                                  try clear hx129_2
                                  try clear hx129_3
                                  try clear hx129_4
                                  try clear hx129_5
                                  try clear hx129_6
                                  try clear hx129_7
                                  try clear hx130_0
                                  try clear hx130_1
                                  try clear hx130_2
                                  try clear hx130_3
                                  try clear hx130_4
                                  try clear hx130_5
                                  try clear hx130_6
                                  try clear hx130_7
                                  try clear hx131_0
                                  try clear hx131_1
                                  try clear hx131_2
                                  try clear hx131_3
                                  try clear hx131_4
                                  try clear hx131_5
                                  try clear hx135_0
                                  try clear hx135_1
                                  try clear hx135_2
                                  try clear hx135_3
                                  try clear hx135_4
                                  try clear hx135_5
                                  try clear hx135_6
                                  try clear hx135_7
                                  try clear hx136_0
                                  try clear hx136_1
                                  try clear hx136_2
                                  try clear hx136_3
                                  try clear hx136_4
                                  try clear hx136_5
                                  try clear hx136_6
                                  try clear hx136_7
                                  try clear hx137_0
                                  try clear hx137_1
                                  try clear hx137_2
                                  try clear hx137_3
                                  try clear hx141_0
                                  try clear hx141_1
                                  try clear hx141_2
                                  try clear hx141_3
                                  try clear hx141_4
                                  try clear hx141_5
                                  try clear hx141_6
                                  try clear hx141_7
                                  try clear p1
                                  try clear p12
                                  try clear p122
                                  try clear p123
                                  try clear p124
                                  try clear p129
                                  try clear p13
                                  try clear p130
                                  try clear p131
                                  try clear p135
                                  try clear p136
                                  try clear p137
                                  try clear p141
                                  try clear p2
                                  try clear p6
                                  try clear q1
                                  try clear q12
                                  try clear q122
                                  try clear q123
                                  try clear q124
                                  try clear q129
                                  try clear q13
                                  try clear q130
                                  try clear q131
                                  try clear q135
                                  try clear q136
                                  try clear q137
                                  try clear q141
                                  obtain ⟨x88_4, x129006_4, u129006, rfl, HA, HK4, HO_3, HO_129004, HO_129005, HO_129006, HO_129007, BK128, HB⟩ := hrel
                                  cases gk with
                                  | zero => exact absurd HA.out (by simp [courierlaw05_Theirs.l3])
                                  | succ k4 =>
                                    have H := HA.out
                                    clear HA
                                    simp only [courierlaw05_Theirs.l3] at H
                                    by_cases c44 : x88_4 < (((rd_T54 l0 x11_1).f5).length : Int)
                                    · rw [if_pos c44] at H
                                      have c44b0 : decide (x88_4 < (((rd_T54 l0 x11_1).f5).length : Int)) = true := decide_eq_true c44
                                      clear c44
                                      by_cases c45 : 0 ≤ x11_1
                                      · rw [if_pos c45] at H
                                        have c45b0 : decide (0 ≤ x11_1) = true := decide_eq_true c45
                                        clear c45
                                        by_cases c46 : x11_1 < (l0.length : Int)
                                        · rw [if_pos c46] at H
                                          have c46b0 : decide (x11_1 < (l0.length : Int)) = true := decide_eq_true c46
                                          clear c46
                                          by_cases c47 : 0 ≤ x88_4
                                          · rw [if_pos c47] at H
                                            have c47b0 : decide (0 ≤ x88_4) = true := decide_eq_true c47
                                            clear c47
                                            by_cases c48 : x88_4 < (((rd_T54 l0 x11_1).f5).length : Int)
                                            · rw [if_pos c48] at H
                                              have c48b0 : decide (x88_4 < (((rd_T54 l0 x11_1).f5).length : Int)) = true := decide_eq_true c48
                                              clear c48
                                              by_cases c49 : x129006_4.length < 2199023255552
                                              · rw [if_pos c49] at H
                                                have LMc49 := Aside0.mk c49
                                                clear c49
                                                obtain ⟨y144, hy144⟩ : ∃ y_ : List (S62), y_ = (x129006_4 ++ [(⟨(rd_T63 ((rd_T54 l0 x11_1).f5) x88_4).f0, (rd_T63 ((rd_T54 l0 x11_1).f5) x88_4).f1, (rd_T63 ((rd_T54 l0 x11_1).f5) x88_4).f2, (⟨(rd_T63 ((rd_T54 l0 x11_1).f5) x88_4).f3.f0, (rd_T63 ((rd_T54 l0 x11_1).f5) x88_4).f3.f1⟩ : S42)⟩ : S62)]) := ⟨_, rfl⟩
                                                replace H : (courierlaw05_Theirs.l3 k4 l0 x3_1 x11_1 (l0.length : Int) x11_1 (((rd_T54 l0 x11_1).f5).length : Int) (wrap64 (x88_4 + 1)) ((rd_T54 l0 x11_1).f0) ((rd_T54 l0 x11_1).f1) ((rd_T54 l0 x11_1).f2.f0) ((rd_T54 l0 x11_1).f2.f1) x129004_2 x129005_3 y144 t125) = some r := by first | (rw [hy144]; with_reducible exact H) | (have H2_ := (Option.bind_some _ _).symm.trans H; rw [hy144]; with_reducible exact H2_) | (have H2_ := (Option.bind_some _ _).symm.trans H; with_reducible exact H2_) | with_reducible exact H | (rw [hy144]; exact H) | exact H
                                                have Ny144 := Aside0.mk hy144
                                                clear hy144
                                                have H' := Aside0.mk H
                                                clear H
                                                try go_wp2
                                                have n0_ := Aside0.mk (Kd.R_drew HO_3.out)
                                                have n1_ := Aside0.mk (Kd.R_drew HO_129004.out)
                                                have n2_ := Aside0.mk (Kd.R_drew HO_129005.out)
                                                have n3_ := Aside0.mk (Kd.R_drew HO_129006.out)
                                                have n4_ := Aside0.mk (Kd.R_drew HO_129007.out)
                                                have n5_ := Aside0.mk (blk_drew BK128.out)
                                                have n6_ := Aside0.mk (below_drew1 HB.out)
                                                clear HO_3
                                                clear HO_129004
                                                clear HO_129005
                                                clear HO_129006
                                                clear HO_129007
                                                clear BK128
                                                clear HB
                                                have HO_3 := n0_
                                                have HO_129004 := n1_
                                                have HO_129005 := n2_
                                                have HO_129006 := n3_
                                                have HO_129007 := n4_
                                                have BK128 := n5_
                                                have HB := n6_
                                                clear n0_ n1_ n2_ n3_ n4_ n5_ n6_
                                                have p142 : 0 ≤ (x11_1 : Int) := of_decide_eq_true (by first | (with_reducible assumption) | assumption)
                                                have q142 : x11_1 < (l0.length : Int) := of_decide_eq_true (by first | (with_reducible assumption) | assumption)
                                                obtain ⟨ad142, A142_4, c142_4, A142_5, c142_5, A142_6, c142_6, A142_7, c142_7, e142, hx142_0, hx142_1, hx142_2, hx142_3, hx142_4, hx142_5, hx142_6, hx142_7, hl142_4, hi142_4, hl142_5, hi142_5, hl142_6, hi142_6, hl142_7, hi142_7⟩ := at_T54 HR0.out x11_1 p142 q142
                                                have hw142_7 := hx142_7
                                                have hw142_6 := hx142_6
                                                have hw142_5 := hx142_5
                                                have hw142_4 := hx142_4
                                                have hw142_3 := hx142_3
                                                have hw142_2 := hx142_2
                                                have hw142_1 := hx142_1
                                                have hw142_0 := hx142_0
                                                obtain rfl : ad121 = ad142 := (by injection e142)
                                                replace hx142_0 := (HB.out.cell (World.block_lt_of_cell? w _ hx142_0)).trans hx142_0
                                                replace hx142_1 := (HB.out.cell (World.block_lt_of_cell? w _ hx142_1)).trans hx142_1
                                                replace hx142_2 := (HB.out.cell (World.block_lt_of_cell? w _ hx142_2)).trans hx142_2
                                                replace hx142_3 := (HB.out.cell (World.block_lt_of_cell? w _ hx142_3)).trans hx142_3
                                                replace hx142_4 := (HB.out.cell (World.block_lt_of_cell? w _ hx142_4)).trans hx142_4
                                                replace hx142_5 := (HB.out.cell (World.block_lt_of_cell? w _ hx142_5)).trans hx142_5
                                                replace hx142_6 := (HB.out.cell (World.block_lt_of_cell? w _ hx142_6)).trans hx142_6
                                                replace hx142_7 := (HB.out.cell (World.block_lt_of_cell? w _ hx142_7)).trans hx142_7
                                                have HR142_4 := Aside0.mk hi142_4
                                                have HC142_4 := Aside0.mk hl142_4
                                                clear hi142_4 hl142_4
                                                have HR142_5 := Aside0.mk hi142_5
                                                have HC142_5 := Aside0.mk hl142_5
                                                clear hi142_5 hl142_5
                                                have HR142_6 := Aside0.mk hi142_6
                                                have HC142_6 := Aside0.mk hl142_6
                                                clear hi142_6 hl142_6
                                                have HR142_7 := Aside0.mk hi142_7
                                                have HC142_7 := Aside0.mk hl142_7
                                                clear hi142_7 hl142_7
                                                replace p142 := eq_true p142
                                                replace q142 := eq_true q142
                                                have p143 : 0 ≤ (x88_4 : Int) := of_decide_eq_true (by first | (with_reducible assumption) | assumption)
                                                have q143 : x88_4 < (((rd_T54 l0 x11_1).f5).length : Int) := of_decide_eq_true (by first | (with_reducible assumption) | assumption)
                                                obtain ⟨ad143, e143, hx143_0, hx143_1, hx143_2, hx143_3, hx143_4⟩ := at_T63 HR142_6.out x88_4 p143 q143
                                                have hw143_4 := hx143_4
                                                have hw143_3 := hx143_3
                                                have hw143_2 := hx143_2
                                                have hw143_1 := hx143_1
                                                have hw143_0 := hx143_0
                                                cases e143
                                                replace hx143_0 := (HB.out.cell (World.block_lt_of_cell? w _ hx143_0)).trans hx143_0
                                                replace hx143_1 := (HB.out.cell (World.block_lt_of_cell? w _ hx143_1)).trans hx143_1
                                                replace hx143_2 := (HB.out.cell (World.block_lt_of_cell? w _ hx143_2)).trans hx143_2
                                                replace hx143_3 := (HB.out.cell (World.block_lt_of_cell? w _ hx143_3)).trans hx143_3
                                                replace hx143_4 := (HB.out.cell (World.block_lt_of_cell? w _ hx143_4)).trans hx143_4
                                                replace p143 := eq_true p143
                                                replace q143 := eq_true q143
                                                refine start_ (n := 14) (S := fun w' => w'.cell? ⟨gb128, 0, none⟩ = some (.int .i64 ((rd_T54 l0 x11_1).f0)) ∧ w'.cell? ⟨gb128, 1, none⟩ = some (.string ((rd_T54 l0 x11_1).f1)) ∧ w'.cell? ⟨gb128, 2, none⟩ = some (.int .i64 ((rd_T54 l0 x11_1).f2.f0)) ∧ w'.cell? ⟨gb128, 3, none⟩ = some (.int .i64 ((rd_T54 l0 x11_1).f2.f1)) ∧ w'.cell? ⟨gb128, 4, none⟩ = some (u129004) ∧ w'.cell? ⟨gb128, 5, none⟩ = some (u129005) ∧ w'.cell? ⟨gb128, 6, none⟩ = some (u129006) ∧ w'.cell? ⟨gb128, 7, none⟩ = some (.slice Ao11 t125.length co11) ∧ w'.cell? (ad121.add ((x11_1).toNat * 8)) = some (.int .i64 ((rd_T54 l0 x11_1).f0)) ∧ w'.cell? ⟨(ad121.add ((x11_1).toNat * 8)).block, (ad121.add ((x11_1).toNat * 8)).off + 1, none⟩ = some (.string ((rd_T54 l0 x11_1).f1)) ∧ w'.cell? ⟨(ad121.add ((x11_1).toNat * 8)).block, (ad121.add ((x11_1).toNat * 8)).off + 2, none⟩ = some (.int .i64 ((rd_T54 l0 x11_1).f2.f0)) ∧ w'.cell? ⟨(ad121.add ((x11_1).toNat * 8)).block, (ad121.add ((x11_1).toNat * 8)).off + 3, none⟩ = some (.int .i64 ((rd_T54 l0 x11_1).f2.f1)) ∧ w'.cell? ⟨(ad121.add ((x11_1).toNat * 8)).block, (ad121.add ((x11_1).toNat * 8)).off + 4, none⟩ = some (.slice A142_4 ((rd_T54 l0 x11_1).f3).length c142_4) ∧ w'.cell? ⟨(ad121.add ((x11_1).toNat * 8)).block, (ad121.add ((x11_1).toNat * 8)).off + 5, none⟩ = some (.slice A142_5 ((rd_T54 l0 x11_1).f4).length c142_5) ∧ w'.cell? ⟨(ad121.add ((x11_1).toNat * 8)).block, (ad121.add ((x11_1).toNat * 8)).off + 6, none⟩ = some (.slice (some ad143) ((rd_T54 l0 x11_1).f5).length c142_6) ∧ w'.cell? ⟨(ad121.add ((x11_1).toNat * 8)).block, (ad121.add ((x11_1).toNat * 8)).off + 7, none⟩ = some (.slice A142_7 ((rd_T54 l0 x11_1).f6).length c142_7) ∧ w'.cell? (ad143.add ((x88_4).toNat * 5)) = some (.string ((rd_T63 ((rd_T54 l0 x11_1).f5) x88_4).f0)) ∧ w'.cell? ⟨(ad143.add ((x88_4).toNat * 5)).block, (ad143.add ((x88_4).toNat * 5)).off + 1, none⟩ = some (.string ((rd_T63 ((rd_T54 l0 x11_1).f5) x88_4).f1)) ∧ w'.cell? ⟨(ad143.add ((x88_4).toNat * 5)).block, (ad143.add ((x88_4).toNat * 5)).off + 2, none⟩ = some (.string ((rd_T63 ((rd_T54 l0 x11_1).f5) x88_4).f2)) ∧ w'.cell? ⟨(ad143.add ((x88_4).toNat * 5)).block, (ad143.add ((x88_4).toNat * 5)).off + 3, none⟩ = some (.int .i64 ((rd_T63 ((rd_T54 l0 x11_1).f5) x88_4).f3.f0)) ∧ w'.cell? ⟨(ad143.add ((x88_4).toNat * 5)).block, (ad143.add ((x88_4).toNat * 5)).off + 4, none⟩ = some (.int .i64 ((rd_T63 ((rd_T54 l0 x11_1).f5) x88_4).f3.f1))) (ds := [13]) #[false, false, false, false, false, false, false, false, false, false, false, false, false, false] (by kernel_rfl) rfl rfl ⟨(blk_cell BK128.out 0).trans rfl, (blk_cell BK128.out 1).trans rfl, (blk_cell BK128.out 2).trans rfl, (blk_cell BK128.out 3).trans rfl, (blk_cell BK128.out 4).trans rfl, (blk_cell BK128.out 5).trans rfl, (blk_cell BK128.out 6).trans rfl, (blk_cell BK128.out 7).trans rfl, ((HB.out.cell (World.block_lt_of_cell? w _ hw142_0)).trans hw142_0), ((HB.out.cell (World.block_lt_of_cell? w _ hw142_1)).trans hw142_1), ((HB.out.cell (World.block_lt_of_cell? w _ hw142_2)).trans hw142_2), ((HB.out.cell (World.block_lt_of_cell? w _ hw142_3)).trans hw142_3), ((HB.out.cell (World.block_lt_of_cell? w _ hw142_4)).trans hw142_4), ((HB.out.cell (World.block_lt_of_cell? w _ hw142_5)).trans hw142_5), ((HB.out.cell (World.block_lt_of_cell? w _ hw142_6)).trans hw142_6), ((HB.out.cell (World.block_lt_of_cell? w _ hw142_7)).trans hw142_7), ((HB.out.cell (World.block_lt_of_cell? w _ hw143_0)).trans hw143_0), ((HB.out.cell (World.block_lt_of_cell? w _ hw143_1)).trans hw143_1), ((HB.out.cell (World.block_lt_of_cell? w _ hw143_2)).trans hw143_2), ((HB.out.cell (World.block_lt_of_cell? w _ hw143_3)).trans hw143_3), ((HB.out.cell (World.block_lt_of_cell? w _ hw143_4)).trans hw143_4)⟩ (fun hHeld => ?_); refine with_tabW courierlaw05_Theirs.tab19 courierlaw05_Theirs.bits19 (fun HT_ HW_ => ?_)
                                                generalize wr.drew = w50 at HO_3 HO_129004 HO_129005 HO_129006 HO_129007 BK128 HB HR142_4 HR142_5 HR142_6 HR142_7 hx142_0 hx142_1 hx142_2 hx142_3 hx142_4 hx142_5 hx142_6 hx142_7 hx143_0 hx143_1 hx143_2 hx143_3 hx143_4 hHeld ⊢
                                                refine pure_ (i := 0) (N := some 91) (v := ?_) (a' := ?_) #[true, false, false, false, false, false, false, false, false, false, false, false, false, false] rfl rfl (any_of HT_.out (by kernel_rfl)) (fun _ _ _ h => h) (Or.inl ⟨by rfl, ?_⟩) ?_ ?_
                                                rotate_left
                                                · intro w'
                                                  go_simp
                                                  with_reducible rfl
                                                rotate_left
                                                · simp only [Act.put, List.setIfInBounds_toArray, List.set_cons_zero, List.set_cons_succ, i64_w, i32_w]
                                                  rfl
                                                refine pure_ (i := 2) (N := some 93) (v := ?_) (a' := ?_) #[true, false, true, false, false, false, false, false, false, false, false, false, false, false] rfl rfl (any_of HT_.out (by kernel_rfl)) (fun _ _ _ h => h) (Or.inl ⟨by rfl, ?_⟩) ?_ ?_
                                                rotate_left
                                                · intro w'
                                                  go_simp
                                                  with_reducible rfl
                                                rotate_left
                                                · simp only [Act.put, List.setIfInBounds_toArray, List.set_cons_zero, List.set_cons_succ, i64_w, i32_w]
                                                  rfl
                                                refine pure_ (i := 3) (N := some 94) (v := ?_) (a' := ?_) #[true, false, true, true, false, false, false, false, false, false, false, false, false, false] rfl rfl (any_of HT_.out (by kernel_rfl)) (fun _ _ _ h => h) (Or.inl ⟨by rfl, ?_⟩) ?_ ?_
                                                rotate_left
                                                · intro w'
                                                  go_simp
                                                  with_reducible rfl
                                                rotate_left
                                                · simp only [Act.put, List.setIfInBounds_toArray, List.set_cons_zero, List.set_cons_succ, i64_w, i32_w]
                                                  rfl
                                                refine pure_ (i := 4) (N := some 95) (v := ?_) (a' := ?_) #[true, false, true, true, true, false, false, false, false, false, false, false, false, false] rfl rfl (any_of HT_.out (by kernel_rfl)) (fun _ _ _ h => h) (Or.inl ⟨by rfl, ?_⟩) ?_ ?_
                                                rotate_left
                                                · intro w'
                                                  go_simp
                                                  with_reducible rfl
                                                rotate_left
                                                · simp only [Act.put, List.setIfInBounds_toArray, List.set_cons_zero, List.set_cons_succ, i64_w, i32_w]
                                                  rfl
                                                refine pure_ (i := 5) (N := some 96) (v := ?_) (a' := ?_) #[true, false, true, true, true, true, false, false, false, false, false, false, false, false] rfl rfl (any_of HT_.out (by kernel_rfl)) (fun _ _ _ h => h) (Or.inl ⟨by rfl, ?_⟩) ?_ ?_
                                                rotate_left
                                                · intro w'
                                                  go_simp
                                                  with_reducible rfl
                                                rotate_left
                                                · simp only [Act.put, List.setIfInBounds_toArray, List.set_cons_zero, List.set_cons_succ, i64_w, i32_w]
                                                  rfl
                                                refine pure_ (i := 7) (N := some 98) (v := ?_) (a' := ?_) #[true, false, true, true, true, true, false, true, false, false, false, false, false, false] rfl rfl (any_of HT_.out (by kernel_rfl)) (fun _ _ _ h => h) (Or.inl ⟨by rfl, ?_⟩) ?_ ?_
                                                rotate_left
                                                · intro w'
                                                  go_simp
                                                  with_reducible rfl
                                                rotate_left
                                                · simp only [Act.put, List.setIfInBounds_toArray, List.set_cons_zero, List.set_cons_succ, i64_w, i32_w]
                                                  rfl
                                                refine take_ (i := 1) (N := some 92) (v := ?_) (a' := ?_) #[true, true, true, true, true, true, false, true, false, false, false, false, false, false] rfl rfl (take_ofW HT_.out HW_.out (by kernel_rfl)) (fun _ _ _ h => h) (Or.inl ⟨by rfl, ?_⟩) hHeld ?_ ?_
                                                rotate_left
                                                · rintro w' ⟨s0, s1, s2, s3, s4, s5, s6, s7, s8, s9, s10, s11, s12, s13, s14, s15, s16, s17, s18, s19, s20⟩
                                                  go_simp
                                                  with_reducible rfl
                                                rotate_left
                                                · simp only [Act.put, List.setIfInBounds_toArray, List.set_cons_zero, List.set_cons_succ, i64_w, i32_w]
                                                  rfl
                                                refine take_ (i := 6) (N := some 97) (v := ?_) (a' := ?_) #[true, true, true, true, true, true, true, true, false, false, false, false, false, false] rfl rfl (take_ofW HT_.out HW_.out (by kernel_rfl)) (fun _ _ _ h => h) (Or.inl ⟨by rfl, ?_⟩) hHeld ?_ ?_
                                                rotate_left
                                                · rintro w' ⟨s0, s1, s2, s3, s4, s5, s6, s7, s8, s9, s10, s11, s12, s13, s14, s15, s16, s17, s18, s19, s20⟩
                                                  go_simp
                                                  with_reducible rfl
                                                rotate_left
                                                · simp only [Act.put, List.setIfInBounds_toArray, List.set_cons_zero, List.set_cons_succ, i64_w, i32_w]
                                                  rfl
                                                refine pure_ (i := 8) (N := some 99) (v := ?_) (a' := ?_) #[true, true, true, true, true, true, true, true, true, false, false, false, false, false] rfl rfl (any_of HT_.out (by kernel_rfl)) (fun _ _ _ h => h) (Or.inl ⟨by rfl, ?_⟩) ?_ ?_
                                                rotate_left
                                                · intro w'
                                                  go_simp
                                                  with_reducible rfl
                                                rotate_left
                                                · simp only [Act.put, List.setIfInBounds_toArray, List.set_cons_zero, List.set_cons_succ, i64_w, i32_w]
                                                  rfl
                                                refine take_ (i := 9) (N := some 100) (v := ?_) (a' := ?_) #[true, true, true, true, true, true, true, true, true, true, false, false, false, false] rfl rfl (take_ofW HT_.out HW_.out (by kernel_rfl)) (fun _ _ _ h => h) (Or.inl ⟨by rfl, ?_⟩) hHeld ?_ ?_
                                                rotate_left
                                                · rintro w' ⟨s0, s1, s2, s3, s4, s5, s6, s7, s8, s9, s10, s11, s12, s13, s14, s15, s16, s17, s18, s19, s20⟩
                                                  go_simp
                                                  with_reducible rfl
                                                rotate_left
                                                · simp only [Act.put, List.setIfInBounds_toArray, List.set_cons_zero, List.set_cons_succ, i64_w, i32_w]
                                                  rfl
                                                refine one_ (i := 10) (N := some 101) #[true, true, true, true, true, true, true, true, true, true, true, false, false, false] rfl rfl (one_of HT_.out (by kernel_rfl)) (by decide) (fun K hK => ?_)
                                                refine value_ (w1 := ?_) (v := ?_) (by rfl) rfl ?_ ?_
                                                rotate_left 2
                                                · go_simp
                                                  constructor
                                                  · rfl
                                                  · rfl
                                                refine hK.out _ _ ⟨(blk_cell (blk_alloc BK128.out _) 0).trans rfl, (blk_cell (blk_alloc BK128.out _) 1).trans rfl, (blk_cell (blk_alloc BK128.out _) 2).trans rfl, (blk_cell (blk_alloc BK128.out _) 3).trans rfl, (blk_cell (blk_alloc BK128.out _) 4).trans rfl, (blk_cell (blk_alloc BK128.out _) 5).trans rfl, (blk_cell (blk_alloc BK128.out _) 6).trans rfl, (blk_cell (blk_alloc BK128.out _) 7).trans rfl, (World.cell?_alloc_lt _ _ _ (World.block_lt_of_cell? _ _ (((HB.out.cell (World.block_lt_of_cell? w _ hw142_0)).trans hw142_0)))).trans (((HB.out.cell (World.block_lt_of_cell? w _ hw142_0)).trans hw142_0)), (World.cell?_alloc_lt _ _ _ (World.block_lt_of_cell? _ _ (((HB.out.cell (World.block_lt_of_cell? w _ hw142_1)).trans hw142_1)))).trans (((HB.out.cell (World.block_lt_of_cell? w _ hw142_1)).trans hw142_1)), (World.cell?_alloc_lt _ _ _ (World.block_lt_of_cell? _ _ (((HB.out.cell (World.block_lt_of_cell? w _ hw142_2)).trans hw142_2)))).trans (((HB.out.cell (World.block_lt_of_cell? w _ hw142_2)).trans hw142_2)), (World.cell?_alloc_lt _ _ _ (World.block_lt_of_cell? _ _ (((HB.out.cell (World.block_lt_of_cell? w _ hw142_3)).trans hw142_3)))).trans (((HB.out.cell (World.block_lt_of_cell? w _ hw142_3)).trans hw142_3)), (World.cell?_alloc_lt _ _ _ (World.block_lt_of_cell? _ _ (((HB.out.cell (World.block_lt_of_cell? w _ hw142_4)).trans hw142_4)))).trans (((HB.out.cell (World.block_lt_of_cell? w _ hw142_4)).trans hw142_4)), (World.cell?_alloc_lt _ _ _ (World.block_lt_of_cell? _ _ (((HB.out.cell (World.block_lt_of_cell? w _ hw142_5)).trans hw142_5)))).trans (((HB.out.cell (World.block_lt_of_cell? w _ hw142_5)).trans hw142_5)), (World.cell?_alloc_lt _ _ _ (World.block_lt_of_cell? _ _ (((HB.out.cell (World.block_lt_of_cell? w _ hw142_6)).trans hw142_6)))).trans (((HB.out.cell (World.block_lt_of_cell? w _ hw142_6)).trans hw142_6)), (World.cell?_alloc_lt _ _ _ (World.block_lt_of_cell? _ _ (((HB.out.cell (World.block_lt_of_cell? w _ hw142_7)).trans hw142_7)))).trans (((HB.out.cell (World.block_lt_of_cell? w _ hw142_7)).trans hw142_7)), (World.cell?_alloc_lt _ _ _ (World.block_lt_of_cell? _ _ (((HB.out.cell (World.block_lt_of_cell? w _ hw143_0)).trans hw143_0)))).trans (((HB.out.cell (World.block_lt_of_cell? w _ hw143_0)).trans hw143_0)), (World.cell?_alloc_lt _ _ _ (World.block_lt_of_cell? _ _ (((HB.out.cell (World.block_lt_of_cell? w _ hw143_1)).trans hw143_1)))).trans (((HB.out.cell (World.block_lt_of_cell? w _ hw143_1)).trans hw143_1)), (World.cell?_alloc_lt _ _ _ (World.block_lt_of_cell? _ _ (((HB.out.cell (World.block_lt_of_cell? w _ hw143_2)).trans hw143_2)))).trans (((HB.out.cell (World.block_lt_of_cell? w _ hw143_2)).trans hw143_2)), (World.cell?_alloc_lt _ _ _ (World.block_lt_of_cell? _ _ (((HB.out.cell (World.block_lt_of_cell? w _ hw143_3)).trans hw143_3)))).trans (((HB.out.cell (World.block_lt_of_cell? w _ hw143_3)).trans hw143_3)), (World.cell?_alloc_lt _ _ _ (World.block_lt_of_cell? _ _ (((HB.out.cell (World.block_lt_of_cell? w _ hw143_4)).trans hw143_4)))).trans (((HB.out.cell (World.block_lt_of_cell? w _ hw143_4)).trans hw143_4))⟩ (fun hHeld => ?_)
                                                clear hK K
                                                refine norm_ (a' := ?_) ?_ ?_
                                                rotate_left
                                                · show Act.put _ (some 101) _ = _
                                                  simp only [Act.put, List.setIfInBounds_toArray, List.set_cons_zero, List.set_cons_succ, i64_w, i32_w]
                                                  rfl
                                                refine one_ (i := 11) (N := some 102) #[true, true, true, true, true, true, true, true, true, true, true, true, false, false] rfl rfl (one_of HT_.out (by kernel_rfl)) (by decide) (fun K hK => ?_)
                                                refine Kd.R_append_step k62 (w0 := w) w.heap.size (by rfl) (.tmp 92) (.tmp 101) 45 62 (.agg #[(.string ⟨#[]⟩), (.string ⟨#[]⟩), (.string ⟨#[]⟩), (.int .i64 0), (.int .i64 0)]) 64 rfl Tryd.underlying45 info62 rfl (by decide) (by omega) u129006 x129006_4 (⟨(rd_T63 ((rd_T54 l0 x11_1).f5) x88_4).f0, (rd_T63 ((rd_T54 l0 x11_1).f5) x88_4).f1, (rd_T63 ((rd_T54 l0 x11_1).f5) x88_4).f2, (⟨(rd_T63 ((rd_T54 l0 x11_1).f5) x88_4).f3.f0, (rd_T63 ((rd_T54 l0 x11_1).f5) x88_4).f3.f1⟩ : S42)⟩ : S62) [.string ((rd_T63 ((rd_T54 l0 x11_1).f5) x88_4).f0), .string ((rd_T63 ((rd_T54 l0 x11_1).f5) x88_4).f1), .string ((rd_T63 ((rd_T54 l0 x11_1).f5) x88_4).f2), .int .i64 ((rd_T63 ((rd_T54 l0 x11_1).f5) x88_4).f3.f0), .int .i64 ((rd_T63 ((rd_T54 l0 x11_1).f5) x88_4).f3.f1)] (fun _ => True) (fun _ => False) rfl rfl ?aP (fun _ hk => hk.elim) ?aF ?aO ?aB ?aS ?aL ?_
                                                (case aP => exact k62_mkM _ _ _ (⟨(rd_T63 ((rd_T54 l0 x11_1).f5) x88_4).f0, (rd_T63 ((rd_T54 l0 x11_1).f5) x88_4).f1, (rd_T63 ((rd_T54 l0 x11_1).f5) x88_4).f2, (⟨(rd_T63 ((rd_T54 l0 x11_1).f5) x88_4).f3.f0, (rd_T63 ((rd_T54 l0 x11_1).f5) x88_4).f3.f1⟩ : S42)⟩ : S62))
                                                (case aB => exact (by repeat (first | (with_reducible first | exact HB.out | apply below_alloc | apply pw_below_drewN | apply below_drew1 | refine below_set ?_ GE128.out) | exact HB.out)))
                                                (case aF => exact (fun _ _ => trivial))
                                                (case aO => exact (by (with_reducible repeat (first | apply Kd.R_alloc | apply Kd.R_drewN | apply Kd.R_drew)); exact HO_129006.out))
                                                (case aS => exact (below_size (by repeat (first | (with_reducible first | exact HB.out | apply below_alloc | apply pw_below_drewN | apply below_drew1 | refine below_set ?_ GE128.out) | exact HB.out))))
                                                (case aL => have := LMc49.out; omega)
                                                intro v145 w51 ho hb hg hat
                                                rw [← Ny144.out] at ho
                                                have n0_ := Aside0.mk (Kd.R_after (ok := (fun k_ => some k_ ≠ (u129004 : Value).ownBlock ∧ some k_ ≠ (u129005 : Value).ownBlock ∧ some k_ ≠ (.slice Ao11 t125.length co11 : Value).ownBlock ∧ k_ ≠ gb128)) (by (with_reducible repeat (first | apply Kd.R_alloc | apply Kd.R_drewN | apply Kd.R_drew)); exact Kd.R_mono HO_3.out (fun _ hk => ⟨⟨hk.1, ⟨hk.2.1, ⟨hk.2.2.2.1, hk.2.2.2.2⟩⟩⟩, hk.2.2.1⟩)) hg hat)
                                                have n1_ := Aside0.mk (Kd.R_over' (by (with_reducible repeat (first | apply Kd.R_alloc | apply Kd.R_drewN | apply Kd.R_drew)); exact HO_129004.out) (Kd.R_typed (by (with_reducible repeat (first | apply Kd.R_alloc | apply Kd.R_drewN | apply Kd.R_drew)); exact HO_129006.out)) (by decide) hg)
                                                have n2_ := Aside0.mk (Kd.R_over' (by (with_reducible repeat (first | apply Kd.R_alloc | apply Kd.R_drewN | apply Kd.R_drew)); exact HO_129005.out) (Kd.R_typed (by (with_reducible repeat (first | apply Kd.R_alloc | apply Kd.R_drewN | apply Kd.R_drew)); exact HO_129006.out)) (by decide) hg)
                                                have n3_ := Aside0.mk (Kd.R_after (ok := (fun k_ => some k_ ≠ (u3 : Value).ownBlock ∧ some k_ ≠ (u129004 : Value).ownBlock ∧ some k_ ≠ (u129005 : Value).ownBlock ∧ k_ ≠ gb128)) (by (with_reducible repeat (first | apply Kd.R_alloc | apply Kd.R_drewN | apply Kd.R_drew)); exact Kd.R_mono HO_129007.out (fun _ hk => ⟨⟨hk.1, ⟨hk.2.1, ⟨hk.2.2.1, hk.2.2.2.2⟩⟩⟩, hk.2.2.2.1⟩)) hg hat)
                                                have n4_ := Aside0.mk (blk_grown (g := gb128) (o := .cells #[.int .i64 ((rd_T54 l0 x11_1).f0), .string ((rd_T54 l0 x11_1).f1), .int .i64 ((rd_T54 l0 x11_1).f2.f0), .int .i64 ((rd_T54 l0 x11_1).f2.f1), u129004, u129005, u129006, .slice Ao11 t125.length co11] 47 (0, 0)) (by (with_reducible repeat (first | refine blk_drewN ?_ _ | refine blk_drew ?_ | refine blk_alloc ?_ _)); exact BK128.out) hg (Kd.R_ne HO_129006.out BK128.out (by decide)))
                                                have n5_ := Aside0.mk (hb)
                                                have n6_ := Aside0.mk (ho)
                                                clear HO_3
                                                clear HO_129004
                                                clear HO_129005
                                                clear HO_129007
                                                clear BK128
                                                clear HB
                                                clear HO_129006
                                                have HO_3 := n0_
                                                have HO_129004 := n1_
                                                have HO_129005 := n2_
                                                have HO_129007 := n3_
                                                have BK128 := n4_
                                                have HB := n5_
                                                have HO146 := n6_
                                                clear n0_ n1_ n2_ n3_ n4_ n5_ n6_
                                                clear ho hb hg hat
                                                obtain ⟨Ao52, co52, eo52⟩ := Kd.R_slice HO146.out
                                                (first | subst eo52 | (injection eo52 with f1_ f2_ f3_; have f4_ := f1_.symm; have f5_ := f3_.symm; clear f1_ f2_ f3_; subst f4_; subst f5_))
                                                refine hK.out _ _ ⟨(blk_cell BK128.out 0).trans rfl, (blk_cell BK128.out 1).trans rfl, (blk_cell BK128.out 2).trans rfl, (blk_cell BK128.out 3).trans rfl, (blk_cell BK128.out 4).trans rfl, (blk_cell BK128.out 5).trans rfl, (blk_cell BK128.out 6).trans rfl, (blk_cell BK128.out 7).trans rfl, ((HB.out.cell (World.block_lt_of_cell? w _ hw142_0)).trans hw142_0), ((HB.out.cell (World.block_lt_of_cell? w _ hw142_1)).trans hw142_1), ((HB.out.cell (World.block_lt_of_cell? w _ hw142_2)).trans hw142_2), ((HB.out.cell (World.block_lt_of_cell? w _ hw142_3)).trans hw142_3), ((HB.out.cell (World.block_lt_of_cell? w _ hw142_4)).trans hw142_4), ((HB.out.cell (World.block_lt_of_cell? w _ hw142_5)).trans hw142_5), ((HB.out.cell (World.block_lt_of_cell? w _ hw142_6)).trans hw142_6), ((HB.out.cell (World.block_lt_of_cell? w _ hw142_7)).trans hw142_7), ((HB.out.cell (World.block_lt_of_cell? w _ hw143_0)).trans hw143_0), ((HB.out.cell (World.block_lt_of_cell? w _ hw143_1)).trans hw143_1), ((HB.out.cell (World.block_lt_of_cell? w _ hw143_2)).trans hw143_2), ((HB.out.cell (World.block_lt_of_cell? w _ hw143_3)).trans hw143_3), ((HB.out.cell (World.block_lt_of_cell? w _ hw143_4)).trans hw143_4)⟩ (fun hHeld => ?_)
                                                clear hK K
                                                refine norm_ (a' := ?_) ?_ ?_
                                                rotate_left
                                                · show Act.put _ (some 102) _ = _
                                                  simp only [Act.put, List.setIfInBounds_toArray, List.set_cons_zero, List.set_cons_succ, i64_w, i32_w]
                                                  rfl
                                                refine pure_ (i := 12) (N := some 103) (v := ?_) (a' := ?_) #[true, true, true, true, true, true, true, true, true, true, true, true, true, false] rfl rfl (any_of HT_.out (by kernel_rfl)) (fun _ _ _ h => h) (Or.inl ⟨by rfl, ?_⟩) ?_ ?_
                                                rotate_left
                                                · intro w'
                                                  go_simp
                                                  with_reducible rfl
                                                rotate_left
                                                · simp only [Act.put, List.setIfInBounds_toArray, List.set_cons_zero, List.set_cons_succ, i64_w, i32_w]
                                                  rfl
                                                refine last_ (i := 13) (N := none) #[true, true, true, true, true, true, true, true, true, true, true, true, true, true] rfl rfl (one_of HT_.out (by kernel_rfl)) (by decide) (fun K hK => ?_)
                                                have hs53 : w51.cell? ⟨gb128, 6, none⟩ = some (u129006) := (blk_cell BK128.out 6).trans rfl
                                                have hfs53 := blk_frozen BK128.out 6
                                                refine skip_ (w1 := ?_) (by rfl) rfl ?_ ?_
                                                rotate_left
                                                · go_simp
                                                  rfl
                                                refine hK.out _ _ ?_
                                                clear hK K
                                                refine done_ (done_of HT_.out (by kernel_rfl)) ?_
                                                try go_wp2
                                                go_roundg k4
                                                case measure => have := HK1.out; have := HK2.out; have := HK3.out; have := HK4.out; omega
                                                case rel => exact ⟨(wrap64 (x88_4 + 1)), (y144), (.slice Ao52 y144.length co52), (by first | rfl | (simp; done) | (simp [*]; done)), H', ⟨by have := HK1.out; have := HK2.out; have := HK3.out; have := HK4.out; omega⟩, ⟨by (with_reducible repeat (first | apply Kd.R_alloc | apply Kd.R_drewN | apply Kd.R_drew)); exact Kd.R_mono (Kd.R_far (p := ⟨gb128, 6, none⟩) (Kd.R_mono HO_3.out (fun k_ hk => (⟨hk, hk.1.2.2.2⟩ : _ ∧ k_ ≠ gb128))) (fun _ hk => hk.2) (.slice Ao52 y144.length co52)) (fun _ hk => ⟨hk.1.1.1, ⟨hk.1.1.2.1, ⟨hk.1.2, ⟨hk.1.1.2.2.1, hk.1.1.2.2.2⟩⟩⟩⟩)⟩, ⟨by (with_reducible repeat (first | apply Kd.R_alloc | apply Kd.R_drewN | apply Kd.R_drew)); exact Kd.R_mono (Kd.R_far (p := ⟨gb128, 6, none⟩) (Kd.R_types HO_129004.out BK128.out (by decide)) (fun _ hk => hk.2) (.slice Ao52 y144.length co52)) (fun _ hk => trivial)⟩, ⟨by (with_reducible repeat (first | apply Kd.R_alloc | apply Kd.R_drewN | apply Kd.R_drew)); exact Kd.R_mono (Kd.R_far (p := ⟨gb128, 6, none⟩) (Kd.R_types HO_129005.out BK128.out (by decide)) (fun _ hk => hk.2) (.slice Ao52 y144.length co52)) (fun _ hk => trivial)⟩, ⟨by (with_reducible repeat (first | apply Kd.R_alloc | apply Kd.R_drewN | apply Kd.R_drew)); exact Kd.R_mono (Kd.R_far (p := ⟨gb128, 6, none⟩) (Kd.R_types HO146.out BK128.out (by decide)) (fun _ hk => hk.2) (.slice Ao52 y144.length co52)) (fun _ hk => trivial)⟩, ⟨by (with_reducible repeat (first | apply Kd.R_alloc | apply Kd.R_drewN | apply Kd.R_drew)); exact Kd.R_mono (Kd.R_far (p := ⟨gb128, 6, none⟩) (Kd.R_mono HO_129007.out (fun k_ hk => (⟨hk, hk.1.2.2.2⟩ : _ ∧ k_ ≠ gb128))) (fun _ hk => hk.2) (.slice Ao52 y144.length co52)) (fun _ hk => ⟨hk.1.1.1, ⟨hk.1.1.2.1, ⟨hk.1.1.2.2.1, ⟨hk.1.2, hk.1.1.2.2.2⟩⟩⟩⟩)⟩, ⟨by (with_reducible repeat (first | refine blk_drewN ?_ _ | refine blk_drew ?_ | refine blk_alloc ?_ _)); refine blk_put (cs := #[.int .i64 ((rd_T54 l0 x11_1).f0), .string ((rd_T54 l0 x11_1).f1), .int .i64 ((rd_T54 l0 x11_1).f2.f0), .int .i64 ((rd_T54 l0 x11_1).f2.f1), u129004, u129005, u129006, .slice Ao11 t125.length co11]) ?_ 6 _ rfl; (with_reducible repeat (first | refine blk_drewN ?_ _ | refine blk_drew ?_ | refine blk_alloc ?_ _)); exact BK128.out⟩, ⟨by repeat (first | (with_reducible first | exact HB.out | apply below_alloc | apply pw_below_drewN | apply below_drew1 | refine below_set ?_ GE128.out) | exact HB.out)⟩⟩
                                              · rw [if_neg c49] at H
                                                exact absurd H (by simp)
                                            · rw [if_neg c48] at H
                                              exact absurd H (by simp)
                                          · rw [if_neg c47] at H
                                            exact absurd H (by simp)
                                        · rw [if_neg c46] at H
                                          exact absurd H (by simp)
                                      · rw [if_neg c45] at H
                                        exact absurd H (by simp)
                                    · rw [if_neg c44] at H
                                      have c44b0 : decide (x88_4 < (((rd_T54 l0 x11_1).f5).length : Int)) = false := decide_eq_false c44
                                      clear c44
                                      by_cases c54 : x3_1.length < 1034834473200
                                      · rw [if_pos c54] at H
                                        have LMc54 := Aside0.mk c54
                                        clear c54
                                        obtain ⟨y147, hy147⟩ : ∃ y_ : List (S47), y_ = (x3_1 ++ [(⟨((rd_T54 l0 x11_1).f0), ((rd_T54 l0 x11_1).f1), (⟨((rd_T54 l0 x11_1).f2.f0), ((rd_T54 l0 x11_1).f2.f1)⟩ : S42), x129004_2, x129005_3, x129006_4, t125⟩ : S47)]) := ⟨_, rfl⟩
                                        replace H : (courierlaw05_Theirs.l0 k4 l0 y147 (l0.length : Int) (wrap64 (x11_1 + 1))) = some r := by first | (rw [hy147]; with_reducible exact H) | (have H2_ := (Option.bind_some _ _).symm.trans H; rw [hy147]; with_reducible exact H2_) | (have H2_ := (Option.bind_some _ _).symm.trans H; with_reducible exact H2_) | with_reducible exact H | (rw [hy147]; exact H) | exact H
                                        have Ny147 := Aside0.mk hy147
                                        clear hy147
                                        have H' := Aside0.mk H
                                        clear H
                                        have hcz55_0 : wr.cell? ⟨gb128, 0, none⟩ = some (.int .i64 ((rd_T54 l0 x11_1).f0)) := (blk_cell BK128.out 0).trans rfl
                                        have hcz55_1 : wr.cell? ⟨gb128, 1, none⟩ = some (.string ((rd_T54 l0 x11_1).f1)) := (blk_cell BK128.out 1).trans rfl
                                        have hcz55_2 : wr.cell? ⟨gb128, 2, none⟩ = some (.int .i64 ((rd_T54 l0 x11_1).f2.f0)) := (blk_cell BK128.out 2).trans rfl
                                        have hcz55_3 : wr.cell? ⟨gb128, 3, none⟩ = some (.int .i64 ((rd_T54 l0 x11_1).f2.f1)) := (blk_cell BK128.out 3).trans rfl
                                        have hcz55_4 : wr.cell? ⟨gb128, 4, none⟩ = some (u129004) := (blk_cell BK128.out 4).trans rfl
                                        have hcz55_5 : wr.cell? ⟨gb128, 5, none⟩ = some (u129005) := (blk_cell BK128.out 5).trans rfl
                                        have hcz55_6 : wr.cell? ⟨gb128, 6, none⟩ = some (u129006) := (blk_cell BK128.out 6).trans rfl
                                        have hcz55_7 : wr.cell? ⟨gb128, 7, none⟩ = some (.slice Ao11 t125.length co11) := (blk_cell BK128.out 7).trans rfl
                                        have hfz55_0 := blk_frozen BK128.out 0
                                        have hfz55_1 := blk_frozen BK128.out 1
                                        have hfz55_2 := blk_frozen BK128.out 2
                                        have hfz55_3 := blk_frozen BK128.out 3
                                        have hfz55_4 := blk_frozen BK128.out 4
                                        have hfz55_5 := blk_frozen BK128.out 5
                                        have hfz55_6 := blk_frozen BK128.out 6
                                        have hfz55_7 := blk_frozen BK128.out 7
                                        obtain ⟨Ao57, co57, eo57⟩ := Kd.R_slice HO_129004.out
                                        subst eo57
                                        obtain ⟨Ao58, co58, eo58⟩ := Kd.R_slice HO_129005.out
                                        subst eo58
                                        obtain ⟨Ao59, co59, eo59⟩ := Kd.R_slice HO_129006.out
                                        subst eo59
                                        go_wp2_with (first | ((with_reducible refine gate_builtin (b := .append) (xs := #[.tmp 105, .tmp 107]) rfl ?_); at_builtin; refine Kd.R_append k47 (w0 := w) w.heap.size rfl (.tmp 105) (.tmp 107) 27 47 (.agg #[(.int .i64 0), (.string ⟨#[]⟩), (.int .i64 0), (.int .i64 0), (.slice none 0 0), (.slice none 0 0), (.slice none 0 0), (.slice none 0 0)]) 136 rfl Tryd.underlying27 info47 rfl (by decide) (by omega) u3 x3_1 (⟨((rd_T54 l0 x11_1).f0), ((rd_T54 l0 x11_1).f1), (⟨((rd_T54 l0 x11_1).f2.f0), ((rd_T54 l0 x11_1).f2.f1)⟩ : S42), x129004_2, x129005_3, x129006_4, t125⟩ : S47) [.int .i64 ((rd_T54 l0 x11_1).f0), .string ((rd_T54 l0 x11_1).f1), .int .i64 ((rd_T54 l0 x11_1).f2.f0), .int .i64 ((rd_T54 l0 x11_1).f2.f1), .slice Ao57 x129004_2.length co57, .slice Ao58 x129005_3.length co58, .slice Ao59 x129006_4.length co59, .slice Ao11 t125.length co11] (fun k_ => k_ ≠ gb128) (fun k_ => ((fun k_ => k_ ≠ gb128)) k_ ∧ some k_ ≠ (u3 : Value).ownBlock) rfl rfl ?aP (fun _ hk => hk) ?aF ?aO ?aB ?aS ?aL ?_; (case aP => exact k47_mkM _ _ _ (⟨((rd_T54 l0 x11_1).f0), ((rd_T54 l0 x11_1).f1), (⟨((rd_T54 l0 x11_1).f2.f0), ((rd_T54 l0 x11_1).f2.f1)⟩ : S42), x129004_2, x129005_3, x129006_4, t125⟩ : S47) (Kd.R_mono (Kd.R_types (Kd.R_apart' (HO_129004.out) (Kd.R_typed HO_3.out) (by decide)) BK128.out (by decide)) (fun k_ hk => ⟨hk.2, hk.1.2⟩)) (Kd.R_mono (Kd.R_types (Kd.R_apart' (HO_129005.out) (Kd.R_typed HO_3.out) (by decide)) BK128.out (by decide)) (fun k_ hk => ⟨hk.2, hk.1.2⟩)) (Kd.R_mono (Kd.R_types (Kd.R_apart' (HO_129006.out) (Kd.R_typed HO_3.out) (by decide)) BK128.out (by decide)) (fun k_ hk => ⟨hk.2, hk.1.2⟩)) (Kd.R_mono (HO_129007.out) (fun k_ hk => ⟨hk.2.2.2.2, hk.1⟩))); (case aB => exact (by repeat (first | (with_reducible first | exact HB.out | apply below_alloc | apply pw_below_drewN | apply below_drew1 | refine below_set ?_ GE128.out) | exact HB.out))); (case aF => exact (fun k_ hk => Kd.freshB (g := gb128) (o := .cells #[.int .i64 ((rd_T54 l0 x11_1).f0), .string ((rd_T54 l0 x11_1).f1), .int .i64 ((rd_T54 l0 x11_1).f2.f0), .int .i64 ((rd_T54 l0 x11_1).f2.f1), .slice Ao57 x129004_2.length co57, .slice Ao58 x129005_3.length co58, .slice Ao59 x129006_4.length co59, .slice Ao11 t125.length co11] 47 (0, 0)) (by (with_reducible repeat (first | refine blk_drewN ?_ _ | refine blk_drew ?_ | refine blk_alloc ?_ _)); exact BK128.out) k_ hk)); (case aO => exact (by (with_reducible repeat (first | apply Kd.R_alloc | apply Kd.R_drewN | apply Kd.R_drew)); exact Kd.R_mono HO_3.out (fun _ hk => hk.2.2.2.2))); (case aS => exact (below_size (by repeat (first | (with_reducible first | exact HB.out | apply below_alloc | apply pw_below_drewN | apply below_drew1 | refine below_set ?_ GE128.out) | exact HB.out)))); (case aL => have := LMc54.out; omega); intro v148 w56 ho hb hg hat; rw [← Ny147.out] at ho; have n0_ := Aside0.mk (blk_grown (g := gb128) (o := .cells #[.int .i64 ((rd_T54 l0 x11_1).f0), .string ((rd_T54 l0 x11_1).f1), .int .i64 ((rd_T54 l0 x11_1).f2.f0), .int .i64 ((rd_T54 l0 x11_1).f2.f1), .slice Ao57 x129004_2.length co57, .slice Ao58 x129005_3.length co58, .slice Ao59 x129006_4.length co59, .slice Ao11 t125.length co11] 47 (0, 0)) (by (with_reducible repeat (first | refine blk_drewN ?_ _ | refine blk_drew ?_ | refine blk_alloc ?_ _)); exact BK128.out) hg (Kd.R_away HO_3.out (fun _ hk => hk.2.2.2.2))); have n1_ := Aside0.mk (hb); have n2_ := Aside0.mk (ho); clear BK128; clear HB; clear HO_3; clear HO_129004; clear HO_129005; clear HO_129006; clear HO_129007; have BK128 := n0_; have HB := n1_; have HO149 := n2_; clear n0_ n1_ n2_; clear ho hb hg hat))
                                        go_roundg k4
                                        case measure => have := HK1.out; have := HK2.out; have := HK3.out; have := HK4.out; omega
                                        case rel => exact ⟨(y147), (wrap64 (x11_1 + 1)), (by first | rfl | (simp; done) | (simp [*]; done)), H', ⟨by have := HK1.out; have := HK2.out; have := HK3.out; have := HK4.out; omega⟩, ⟨by (with_reducible repeat (first | apply Kd.R_alloc | apply Kd.R_drewN | apply Kd.R_drew)); exact Kd.R_mono HO149.out (fun _ hk => trivial)⟩, ⟨by repeat (first | (with_reducible first | exact HB.out | apply below_alloc | apply pw_below_drewN | apply below_drew1 | refine below_set ?_ GE128.out) | exact HB.out)⟩⟩
                                      · rw [if_neg c54] at H
                                        exact absurd H (by simp)
                              · rw [if_neg c43] at H
                                exact absurd H (by simp)
                            · rw [if_neg c42] at H
                              exact absurd H (by simp)
                    · rw [if_neg c31] at H
                      exact absurd H (by simp)
                  · rw [if_neg c30] at H
                    exact absurd H (by simp)
          · rw [if_neg c4] at H
            exact absurd H (by simp)
        · rw [if_neg c3] at H
          exact absurd H (by simp)
      · rw [if_neg c2] at H
        have c2b0 : decide (x11_1 < (l0.length : Int)) = false := decide_eq_false c2
        clear c2
        obtain rfl := Option.some.inj H
        go_wp2
        go_ret
        exact ⟨_, by first | rfl | (simp [errW_none, errW_some] <;> rfl) | (simp [*, errW_none, errW_some] <;> rfl), by (with_reducible repeat (first | apply Kd.R_alloc | apply Kd.R_drewN | apply Kd.R_drew)); exact HO_3.out, by repeat (first | (with_reducible first | exact HB.out | apply below_alloc | apply pw_below_drewN | apply below_drew1) | exact HB.out)⟩

end Go.Proofs.YtbhfecciegfdjaaDoor.X
