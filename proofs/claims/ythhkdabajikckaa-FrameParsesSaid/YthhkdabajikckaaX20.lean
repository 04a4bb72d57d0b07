/- Plain functions for Go's own, out of the translation's print, and a proof that each call comes to what they tell; no condition but the functions' own answers. -/
import Derived.Test.YthhkdabajikckaaX0
import Derived.Test.YthhkdabajikckaaX11
import Derived.Test.YthhkdabajikckaaX19
import Derived.Test.YthhkdabajikckaaRef21
import Derived.RegionTactic
import Derived.BigRegion
import Derived.ChangeAlike
namespace Go.Proofs.Ythhkdabajikckaa.X
open Go.RowKit Go.Proofs.YthhkdabajikckaaW.PrintWords Go.Proofs.YthhkdabajikckaaW.PrintLast Go.Proofs.YthhkdabajikckaaW.PrintMore
attribute [local go_sem] max2_int min2_int max_two min_two max_three min_three max_four min_four Go.Proofs.Ythhkdabajikckaa.MyWords.put_isSome Go.Proofs.Ythhkdabajikckaa.MyWords.drewN_put   -- for this text's walks alone
set_option linter.unusedVariables false
set_option linter.unusedSimpArgs false

/-! ### courierref15_Parse: function 17 -/
section
open Go.Proofs.Ythhkdabajikckaa.Math
/-- So many varints, one behind the other, and what stands behind them; or none. -/
def takesF (k : Nat) : Nat → List Int → Option (Option (List Int × List Int))
  | 0, l => some (some ([], l))
  | n + 1, l => (courierref01_Take.f k l).bind fun t => if t.2.2 = 0 then (if 0 ≤ t.2.1 then (if t.2.1 ≤ (l.length : Int) then (takesF k n (l.drop t.2.1.toNat)).map fun r => r.map fun z => (t.1 :: z.1, z.2) else none) else none) else some none
def bigAt (ns : List Int) (j : Nat) : Prop := j ≠ 2 ∧ j ≠ 4 ∧ 1099511627776 < ns.getD j 0
/-- What no frame has. -/
def bigF (ns : List Int) : Bool := decide (ns.getD 0 0 > 1099511627776) || decide (ns.getD 1 0 > 1099511627776) || decide (ns.getD 3 0 > 1099511627776) || decide (ns.getD 5 0 > 1099511627776) || decide (ns.getD 6 0 > 1099511627776) || decide (ns.getD 7 0 > 1099511627776) || decide (ns.getD 8 0 > 1099511627776)
def courierref15_Parse.f (k : Nat) (l0 : List Int) : Option (Int × Int × Int × Int × Int × Int × Int × Int × List Int × Int) :=
  if (l0.length : Int) < 1 then some (0, 0, 0, 0, 0, 0, 0, 0, ([] : List Int), 2) else
  (takesF k 9 (l0.drop 1)).bind fun r => match r with
  | none => some (0, 0, 0, 0, 0, 0, 0, 0, ([] : List Int), 2)
  | some z =>
    if z.1.getD 8 0 > 4096 then some (0, 0, 0, 0, 0, 0, 0, 0, ([] : List Int), 2) else
    if 0 ≤ z.1.getD 8 0 then
    (if (z.2.length : Int) = z.1.getD 8 0 + 4 then
      (if bigF z.1 = true then some (0, 0, 0, 0, 0, 0, 0, 0, ([] : List Int), 2) else
      (courierref15_Build.f k (IntKind.i64.wrap (z.1.getD 0 0)) (IntKind.i64.wrap (z.1.getD 1 0)) (z.1.getD 2 0) (IntKind.i64.wrap (z.1.getD 3 0)) (z.1.getD 4 0) (IntKind.i64.wrap (z.1.getD 5 0)) (IntKind.i64.wrap (z.1.getD 6 0)) (IntKind.i64.wrap (z.1.getD 7 0)) (z.2.take (z.1.getD 8 0).toNat)).bind fun b =>
      if b.2 = 0 then (if (strOfNums b.1).toList = (strOfNums l0).toList then some ((IntKind.i64.wrap (z.1.getD 0 0)), (IntKind.i64.wrap (z.1.getD 1 0)), z.1.getD 2 0, (IntKind.i64.wrap (z.1.getD 3 0)), z.1.getD 4 0, (IntKind.i64.wrap (z.1.getD 5 0)), (IntKind.i64.wrap (z.1.getD 6 0)), (IntKind.i64.wrap (z.1.getD 7 0)), z.2.take (z.1.getD 8 0).toNat, 0) else some (0, 0, 0, 0, 0, 0, 0, 0, ([] : List Int), 2)) else some (0, 0, 0, 0, 0, 0, 0, 0, ([] : List Int), 2))
    else some (0, 0, 0, 0, 0, 0, 0, 0, ([] : List Int), 2))
    else none
theorem takesF.mono (k : Nat) : ∀ (n : Nat) (l : List Int), LeO (takesF k n l) (takesF (k + 1) n l) := by
  intro n
  induction n with
  | zero => intro l; exact LeO.refl _
  | succ n ih =>
    intro l
    unfold takesF
    refine LeO.bind (courierref01_Take.mono _ _) (fun t => ?_)
    refine LeO.ite (LeO.ite (LeO.ite ?_ (LeO.refl _)) (LeO.refl _)) (LeO.refl _)
    exact LeO.map _ (ih _)
theorem courierref15_Parse.mono : ∀ a0 k, LeO (courierref15_Parse.f k a0) (courierref15_Parse.f (k + 1) a0) := by
  intro a0 k
  unfold courierref15_Parse.f
  refine LeO.ite (LeO.refl _) ?_
  refine LeO.bind (takesF.mono _ _ _) (fun r => ?_)
  cases r with
  | none => exact LeO.refl _
  | some z =>
    refine LeO.ite (LeO.refl _) (LeO.ite (LeO.ite (LeO.ite (LeO.refl _) ?_) (LeO.refl _)) (LeO.refl _))
    exact LeO.bind (courierref15_Build.mono _ _ _ _ _ _ _ _ _ _) (fun _ => LeO.refl _)
theorem bigF_of {ns : List Int} {j : Nat} (hj : j < 9) (h : bigAt ns j) : bigF ns = true := by
  obtain ⟨h2, h4, h⟩ := h
  unfold bigF
  rcases (show j = 0 ∨ j = 1 ∨ j = 3 ∨ j = 5 ∨ j = 6 ∨ j = 7 ∨ j = 8 by omega) with rfl | rfl | rfl | rfl | rfl | rfl | rfl <;> simp only [gt_iff_lt, decide_eq_true h, Bool.or_true, Bool.true_or]
theorem bigF_not {ns : List Int} (h : ∀ j, j < 9 → ¬ bigAt ns j) : bigF ns = false := by
  have g : ∀ j, j < 9 → j ≠ 2 → j ≠ 4 → decide (ns.getD j 0 > 1099511627776) = false := fun j h1 h2 h4 => decide_eq_false (fun e => h j h1 ⟨h2, h4, e⟩)
  unfold bigF
  rw [g 0 (by omega) (by omega) (by omega), g 1 (by omega) (by omega) (by omega), g 3 (by omega) (by omega) (by omega), g 5 (by omega) (by omega) (by omega), g 6 (by omega) (by omega) (by omega), g 7 (by omega) (by omega) (by omega), g 8 (by omega) (by omega) (by omega)]
  rfl
/-- The array of numbers, some of them taken. -/
def arrU (ns : List Int) : Array Value := ((ns ++ List.replicate (9 - ns.length) 0).map (Value.int .u64)).toArray
theorem arrU_nil : arrU [] = #[.int .u64 0, .int .u64 0, .int .u64 0, .int .u64 0, .int .u64 0, .int .u64 0, .int .u64 0, .int .u64 0, .int .u64 0] := rfl
theorem arrU_next {ns : List Int} (h : ns.length < 9) (n : Int) : (arrU ns).setIfInBounds ns.length (.int .u64 n) = arrU (ns ++ [n]) := by
  unfold arrU
  obtain ⟨m, hm⟩ : ∃ m, 9 - ns.length = m + 1 := ⟨8 - ns.length, by omega⟩
  rw [hm, show 9 - (ns ++ [n]).length = m by simp; omega, List.replicate_succ]
  simp [List.set_append]
theorem arrU_cell {ns : List Int} (h : ns.length < 9) : (arrU ns)[ns.length]? = some (.int .u64 0) := by
  unfold arrU
  obtain ⟨m, hm⟩ : ∃ m, 9 - ns.length = m + 1 := ⟨8 - ns.length, by omega⟩
  rw [hm, List.replicate_succ]
  simp
theorem arrU_arr9 {ns : List Int} (h : ns.length = 9) : arrU ns = arr9 ns := by
  match ns, h with
  | [a0, a1, a2, a3, a4, a5, a6, a7, a8], _ => rfl
theorem arr9_cell (ns : List Int) {j : Nat} (h : j < 9) : (arr9 ns)[j]? = some (.int .u64 (ns.getD j 0)) := by
  unfold arr9
  rcases (show j = 0 ∨ j = 1 ∨ j = 2 ∨ j = 3 ∨ j = 4 ∨ j = 5 ∨ j = 6 ∨ j = 7 ∨ j = 8 by omega) with rfl | rfl | rfl | rfl | rfl | rfl | rfl | rfl | rfl <;> rfl
def RefParsePost (r : Int × Int × Int × Int × Int × Int × Int × Int × List Int × Int) (w : World) (e : Ending) (w' : World) : Prop :=
  ∃ v9_ : Value, e = .returned (.tuple #[.agg #[.int .i64 r.1, .int .i64 r.2.1, .int .u64 r.2.2.1, .int .i64 r.2.2.2.1, .int .u64 r.2.2.2.2.1, .int .i64 r.2.2.2.2.2.1, .int .i64 r.2.2.2.2.2.2.1, .int .i64 r.2.2.2.2.2.2.2.1, v9_], .int .i64 r.2.2.2.2.2.2.2.2.2]) ∧ Kd.R (Kd.int .u8) 5 w' w.heap.size (fun _ => True) v9_ r.2.2.2.2.2.2.2.2.1 ∧ Below w.heap.size w w'
theorem eq_tr {a b c : Option Obj} (hh1 : a = b) (hh2 : b = c) : a = c := hh1.trans hh2
theorem bel_setN {B b i : Nat} {a w : World} (h : Below B a w) (hB : B ≤ b) (u : Value) : Below B a (w.setCell ⟨b, i, none⟩ u) := h.setCell hB u
def badR : Int × Int × Int × Int × Int × Int × Int × Int × List Int × Int := (0, 0, 0, 0, 0, 0, 0, 0, [], 2)
set_option maxHeartbeats 4000000 in
set_option maxRecDepth 100000 in
theorem refparse_main (k : Nat) (A0 : Option Addr) (c0 : Nat) (l0 : List Int) (r : Int × Int × Int × Int × Int × Int × Int × Int × List Int × Int) (w : World) (hr0 : Kd.C (Kd.int .u8) w A0 l0.length l0) (hc0 : l0.length ≤ c0) (h : courierref15_Parse.f k l0 = some r) :
    Calls Try.prog 17 #[.slice A0 l0.length c0] w (RefParsePost r w) := by
  have hu25 := Try.underlying25
  have hu48 := Try.underlying48
  have HR := Aside0.mk hr0
  have HC := Aside0.mk hc0
  unfold courierref15_Parse.f at h
  by_cases hl : (l0.length : Int) < 1
  · rw [if_pos hl] at h
    have t1 : decide ((l0.length : Int) < 1) = true := decide_eq_true hl
    obtain rfl := Option.some.inj h
    clear hl hr0 hc0 h
    go_enter Try.func17, Try.ntmps17
    go_wp2_with fail
    refine bodyPost_ret (v := .tuple #[.agg #[.int .i64 0, .int .i64 0, .int .u64 0, .int .i64 0, .int .u64 0, .int .i64 0, .int .i64 0, .int .i64 0, .slice none 0 0], .int .i64 2]) (by simp [results, Try.results17, go_sem]) rfl ?_
    exact ⟨_, rfl, Kd.R_nil _ _ _ _ _, by repeat (first | exact Below.refl _ _ | refine bel_setN ?_ (Nat.le_refl _) _ | refine below_alloc ?_ _)⟩
  rw [if_neg hl] at h
  have t1 : decide ((l0.length : Int) < 1) = false := decide_eq_false hl
  obtain ⟨i0, hi0, _, hsz, _⟩ := info_parts info5
  have HINF := Aside0.mk (And.intro hi0 hsz)
  have hcut := cut_from (P := Try.prog) 23 5 .i64 Try.underlying23 hi0 1 hsz A0 l0.length c0 1 (by omega) (by omega)
  have hCd := Kd.C_drop (m := 1) hr0 (by omega) hc0
  rw [show (Kd.int IntKind.u8).sz = 1 from rfl] at hCd
  have hl1 : (l0.drop 1).length = l0.length - 1 := List.length_drop
  have hl2 : (l0.drop 1).length ≤ c0 - 1 := by omega
  rw [show (1 : Int).toNat = 1 from rfl, ← hl1] at hcut
  obtain ⟨A1, hA1⟩ : ∃ A', A' = (if c0 = 1 then A0 else A0.map (·.add (1 * 1))) := ⟨_, rfl⟩
  rw [← hA1] at hcut hCd
  obtain ⟨y1, hy1⟩ : ∃ y1, y1 = l0.drop 1 := ⟨_, rfl⟩
  rw [← hy1] at hcut hCd hl2 h
  obtain ⟨R, hR, h⟩ := Option.bind_eq_some_iff.mp h
  have H := Aside0.mk h
  have HT := Aside0.mk hR
  have HCD := Aside0.mk hCd
  have HL2 := Aside0.mk hl2
  have HA0 := Aside0.mk (blk_new w (.cells #[.int .i64 0, .int .i64 0, .int .u64 0, .int .i64 0, .int .u64 0, .int .i64 0, .int .i64 0, .int .i64 0, .slice none 0 0] 25))
  have HA1 : Aside0 (((w.alloc (.cells #[.int .i64 0, .int .i64 0, .int .u64 0, .int .i64 0, .int .u64 0, .int .i64 0, .int .i64 0, .int .i64 0, .slice none 0 0] 25)).alloc (.cells #[.int .u64 0, .int .u64 0, .int .u64 0, .int .u64 0, .int .u64 0, .int .u64 0, .int .u64 0, .int .u64 0, .int .u64 0] 48)).heap[w.heap.size + 1]? = some (.cells (arrU []) 48 (0, 0))) := ⟨by
    have h := blk_new (w.alloc (.cells #[.int .i64 0, .int .i64 0, .int .u64 0, .int .i64 0, .int .u64 0, .int .i64 0, .int .i64 0, .int .i64 0, .slice none 0 0] 25)) (.cells #[.int .u64 0, .int .u64 0, .int .u64 0, .int .u64 0, .int .u64 0, .int .u64 0, .int .u64 0, .int .u64 0, .int .u64 0] 48)
    have e : (w.alloc (.cells #[.int .i64 0, .int .i64 0, .int .u64 0, .int .i64 0, .int .u64 0, .int .i64 0, .int .i64 0, .int .i64 0, .slice none 0 0] 25)).heap.size = w.heap.size + 1 := by simp
    rw [e] at h
    exact h⟩
  clear hr0 hc0 hi0 hsz hCd hl1 hl2 hA1 hy1 hl h hR
  go_enter Try.func17, Try.ntmps17
  go_wp2_with fail
  clear hcut t1
  go_loopw [4, 20] (fun v4 v20 wr => ∃ (i m : Nat) (ns y : List Int) (A : Option Addr) (c : Nat), i + m = 9 ∧ v20 = .int .i64 i ∧ v4 = .slice A y.length c ∧ Aside0 (ns.length = i) ∧ Aside0 (y.length ≤ c) ∧ Aside0 (Kd.C (Kd.int .u8) w A y.length y) ∧ Aside0 (wr.heap[w.heap.size]? = some (.cells #[.int .i64 0, .int .i64 0, .int .u64 0, .int .i64 0, .int .u64 0, .int .i64 0, .int .i64 0, .int .i64 0, .slice none 0 0] 25 (0, 0))) ∧ Aside0 (wr.heap[w.heap.size + 1]? = some (.cells (arrU ns) 48 (0, 0))) ∧ Aside0 (Below w.heap.size w wr) ∧ Aside0 ((takesF k m y).map (fun q => q.map fun z => (ns ++ z.1, z.2)) = some R)) (fun _ v20 _ => 9 - (intOf v20).toNat)
  case atStart =>
    refine ⟨0, 9, [], y1, A1, c0 - 1, rfl, rfl, rfl, ⟨rfl⟩, HL2, HCD, ⟨blk_alloc HA0.out _⟩, HA1, ⟨below_alloc (below_alloc (Below.refl _ _) _) _⟩, ⟨?_⟩⟩
    rw [HT.out]
    cases R with
    | none => rfl
    | some z => simp
  case round =>
    clear HA0 HA1 HCD HL2 HT
    obtain ⟨i, m, ns, y, A, c, him, rfl, rfl, HNS, HYC, HY, HZ, HG, HB, HT⟩ := hrel
    cases m with
    | succ m =>
      have t1 : decide ((i : Int) < 9) = true := decide_eq_true (by omega)
      have ht := HT.out
      unfold takesF at ht
      obtain ⟨q0, hq0, ht⟩ := Option.map_eq_some_iff.mp ht
      obtain ⟨t, htk, hq0⟩ := Option.bind_eq_some_iff.mp hq0
      obtain ⟨n, n2, n3⟩ := t
      have HTK := Aside0.mk htk
      have hcy := Kd.C_below HY.out HB.out
      have HCY := Aside0.mk hcy
      simp only at hq0
      clear htk HT hcy
      by_cases h3 : n3 = 0
      · rw [if_pos h3] at hq0
        have t3 : (n3 != 0) = false := bne_eq_false_iff_eq.mpr h3
        by_cases h0 : 0 ≤ n2
        rotate_left
        · rw [if_neg h0] at hq0; cases hq0
        rw [if_pos h0] at hq0
        by_cases hle : n2 ≤ (y.length : Int)
        rotate_left
        · rw [if_neg hle] at hq0; cases hq0
        rw [if_pos hle] at hq0
        have hcut := cut_from (P := Try.prog) 23 5 .i64 Try.underlying23 HINF.out.1 1 HINF.out.2 A y.length c n2 h0 hle
        have hCd := Kd.C_drop (m := n2.toNat) HY.out (by omega) HYC.out
        rw [show (Kd.int IntKind.u8).sz = 1 from rfl] at hCd
        have hl1 : (y.drop n2.toNat).length = y.length - n2.toNat := List.length_drop
        have hl2 : (y.drop n2.toNat).length ≤ c - n2.toNat := by have := HYC.out; omega
        rw [← hl1] at hcut
        obtain ⟨A1, hA1⟩ : ∃ A', A' = (if c = n2.toNat then A else A.map (·.add (n2.toNat * 1))) := ⟨_, rfl⟩
        rw [← hA1] at hcut hCd
        obtain ⟨y2, hy2⟩ : ∃ y2, y2 = y.drop n2.toNat := ⟨_, rfl⟩
        rw [← hy2] at hcut hCd hl2 hq0
        have HT2 : Aside0 ((takesF k m y2).map (fun q => q.map fun z => ((ns ++ [n]) ++ z.1, z.2)) = some R) := ⟨by
          obtain ⟨q1, hq1, rfl⟩ := Option.map_eq_some_iff.mp hq0
          rw [hq1, ← ht]
          cases q1 with
          | none => rfl
          | some z => simp⟩
        have HCD := Aside0.mk hCd
        have HL2 := Aside0.mk hl2
        have hi9 : (i : Int) < 9 := by omega
        clear h3 h0 hle hCd hl1 hl2 hA1 hy2 hq0 ht
        go_wp2_with fail
        refine (courierref01_Take.calls k A c y n n2 n3 wr HCY.out HYC.out HTK.out).mono ?_
        rintro e w' ⟨rfl, ⟨nd, rfl⟩⟩
        have ga : wr.cell? ⟨w.heap.size + 1, i, none⟩ = some (.int .u64 0) := by
          rw [blk_cell HG.out i, ← HNS.out]
          exact arrU_cell (by have := HNS.out; omega)
        have gf := blk_frozen HG.out i
        go_wp2_with fail
        go_region
        go_wp2_with fail
        go_roundw
        case rel =>
          refine ⟨i + 1, m, ns ++ [n], y2, A1, c - n2.toNat, by omega, by go_num, rfl, ⟨by rw [List.length_append, HNS.out]; rfl⟩, HL2, HCD, ⟨?_⟩, ⟨?_⟩, ⟨?_⟩, HT2⟩
          · exact blk_far (blk_drewN HZ.out _) (by show w.heap.size ≠ w.heap.size + 1; omega) _
          · exact blk_put (blk_drewN HG.out _) i _ (by rw [← HNS.out]; exact arrU_next (by have := HNS.out; omega) n)
          · exact below_set (pw_below_drewN HB.out _) (by omega)
        case measure => simp [intOf]; omega
      · rw [if_neg h3] at hq0
        have t3 : (n3 != 0) = true := bne_iff_ne.mpr h3
        obtain rfl := Option.some.inj hq0
        have hRn : R = none := ht.symm
        have hr := H.out
        rw [hRn] at hr
        obtain rfl := Option.some.inj hr
        clear h3 hq0 ht hRn hr
        go_wp2_with fail
        refine (courierref01_Take.calls k A c y n n2 n3 wr HCY.out HYC.out HTK.out).mono ?_
        rintro e w' ⟨rfl, ⟨nd, rfl⟩⟩
        have z0 := blk_cell HZ.out 0
        have zf0 := blk_frozen HZ.out 0
        have z1 := blk_cell HZ.out 1
        have zf1 := blk_frozen HZ.out 1
        have z2 := blk_cell HZ.out 2
        have zf2 := blk_frozen HZ.out 2
        have z3 := blk_cell HZ.out 3
        have zf3 := blk_frozen HZ.out 3
        have z4 := blk_cell HZ.out 4
        have zf4 := blk_frozen HZ.out 4
        have z5 := blk_cell HZ.out 5
        have zf5 := blk_frozen HZ.out 5
        have z6 := blk_cell HZ.out 6
        have zf6 := blk_frozen HZ.out 6
        have z7 := blk_cell HZ.out 7
        have zf7 := blk_frozen HZ.out 7
        have z8 := blk_cell HZ.out 8
        have zf8 := blk_frozen HZ.out 8
        go_wp2_with fail
        refine bodyPost_ret (results_ct rfl _ _ w.heap.size 25 #[.int .i64 0, .int .i64 0, .int .u64 0, .int .i64 0, .int .u64 0, .int .i64 0, .int .i64 0, .int .i64 0, .slice none 0 0] (0, 0) _ rfl (by apply eq_tr; (case hh1 => with_reducible repeat (first | exact HZ.out | apply blk_drewN | apply blk_drew | apply blk_set)); (case hh2 => rfl)) Try.underlying25 rfl (by kernel_rfl)) rfl ?_
        exact ⟨_, rfl, Kd.R_nil _ _ _ _ _, by with_reducible repeat (first | exact HB.out | refine bel_setN ?_ (Nat.le_refl _) _ | refine below_drew ?_ | refine pw_below_drewN ?_ _)⟩
    | zero =>
      obtain rfl : i = 9 := by omega
      have hR9 : R = some (ns, y) := by
        have h1 : some (some (ns ++ [], y)) = some R := HT.out
        rw [List.append_nil] at h1
        exact (Option.some.inj h1).symm
      have h9 := HNS.out
      have hg9 := HG.out
      rw [arrU_arr9 h9] at hg9
      have HG9 := Aside0.mk hg9
      have hh := H.out
      rw [hR9] at hh
      simp only at hh
      have g8 : wr.cell? ⟨w.heap.size + 1, 8, none⟩ = some (.int .u64 (ns.getD 8 0)) := (blk_cell HG9.out 8).trans (arr9_cell ns (by omega))
      obtain ⟨d8, hd8⟩ : ∃ d8, ns.getD 8 0 = d8 := ⟨_, rfl⟩
      rw [hd8] at hh g8
      have HD8 := Aside0.mk hd8
      clear hR9 h9 hg9 hd8 HG HT HNS him
      by_cases h40 : d8 > 4096
      · rw [if_pos h40] at hh
        obtain rfl := Option.some.inj hh
        have t1 : decide ((4096 : Int) < d8) = true := decide_eq_true h40
        clear hh h40
        have z0 := blk_cell HZ.out 0
        have zf0 := blk_frozen HZ.out 0
        have z1 := blk_cell HZ.out 1
        have zf1 := blk_frozen HZ.out 1
        have z2 := blk_cell HZ.out 2
        have zf2 := blk_frozen HZ.out 2
        have z3 := blk_cell HZ.out 3
        have zf3 := blk_frozen HZ.out 3
        have z4 := blk_cell HZ.out 4
        have zf4 := blk_frozen HZ.out 4
        have z5 := blk_cell HZ.out 5
        have zf5 := blk_frozen HZ.out 5
        have z6 := blk_cell HZ.out 6
        have zf6 := blk_frozen HZ.out 6
        have z7 := blk_cell HZ.out 7
        have zf7 := blk_frozen HZ.out 7
        have z8 := blk_cell HZ.out 8
        have zf8 := blk_frozen HZ.out 8
        go_wp2_with fail
        refine bodyPost_ret (results_ct rfl _ _ w.heap.size 25 #[.int .i64 0, .int .i64 0, .int .u64 0, .int .i64 0, .int .u64 0, .int .i64 0, .int .i64 0, .int .i64 0, .slice none 0 0] (0, 0) _ rfl (by apply eq_tr; (case hh1 => with_reducible repeat (first | exact HZ.out | apply blk_drewN | apply blk_drew | apply blk_set)); (case hh2 => rfl)) Try.underlying25 rfl (by kernel_rfl)) rfl ?_
        exact ⟨_, rfl, Kd.R_nil _ _ _ _ _, by with_reducible repeat (first | exact HB.out | refine bel_setN ?_ (Nat.le_refl _) _ | refine below_drew ?_ | refine pw_below_drewN ?_ _)⟩
      rw [if_neg h40] at hh
      by_cases h0 : 0 ≤ d8
      rotate_left
      · rw [if_neg h0] at hh; cases hh
      rw [if_pos h0] at hh
      have t1 : decide ((4096 : Int) < d8) = false := decide_eq_false h40
      have hle : d8 ≤ 4096 := by omega
      have hw8 : IntKind.i64.wrap d8 = d8 := by rw [IntKind.wrap_i64]; omega
      by_cases hln : (y.length : Int) = d8 + 4
      rotate_left
      · rw [if_neg hln] at hh
        obtain rfl := Option.some.inj hh
        have t2 : ((y.length : Int) != d8 + 4) = true := bne_iff_ne.mpr hln
        clear hh h40 hln
        have z0 := blk_cell HZ.out 0
        have zf0 := blk_frozen HZ.out 0
        have z1 := blk_cell HZ.out 1
        have zf1 := blk_frozen HZ.out 1
        have z2 := blk_cell HZ.out 2
        have zf2 := blk_frozen HZ.out 2
        have z3 := blk_cell HZ.out 3
        have zf3 := blk_frozen HZ.out 3
        have z4 := blk_cell HZ.out 4
        have zf4 := blk_frozen HZ.out 4
        have z5 := blk_cell HZ.out 5
        have zf5 := blk_frozen HZ.out 5
        have z6 := blk_cell HZ.out 6
        have zf6 := blk_frozen HZ.out 6
        have z7 := blk_cell HZ.out 7
        have zf7 := blk_frozen HZ.out 7
        have z8 := blk_cell HZ.out 8
        have zf8 := blk_frozen HZ.out 8
        go_wp2_with fail
        refine bodyPost_ret (results_ct rfl _ _ w.heap.size 25 #[.int .i64 0, .int .i64 0, .int .u64 0, .int .i64 0, .int .u64 0, .int .i64 0, .int .i64 0, .int .i64 0, .slice none 0 0] (0, 0) _ rfl (by apply eq_tr; (case hh1 => with_reducible repeat (first | exact HZ.out | apply blk_drewN | apply blk_drew | apply blk_set)); (case hh2 => rfl)) Try.underlying25 rfl (by kernel_rfl)) rfl ?_
        exact ⟨_, rfl, Kd.R_nil _ _ _ _ _, by with_reducible repeat (first | exact HB.out | refine bel_setN ?_ (Nat.le_refl _) _ | refine below_drew ?_ | refine pw_below_drewN ?_ _)⟩
      rw [if_pos hln] at hh
      have t2 : ((y.length : Int) != d8 + 4) = false := bne_eq_false_iff_eq.mpr hln
      have HLN := Aside0.mk hln
      have HH := Aside0.mk hh
      clear hh h40 hln
      go_wp2_with fail
      clear t1 t2 hw8 g8
      go_loop [52] (fun v52 => ∃ j : Nat, j ≤ 9 ∧ v52 = .int .i64 j ∧ Aside0 (∀ a, a < j → ¬ bigAt ns a)) (fun v52 => 9 - (intOf v52).toNat)
      case atStart => exact ⟨0, by omega, rfl, ⟨fun a ha => by omega⟩⟩
      case round =>
        obtain ⟨j, hj, rfl, HJ⟩ := hrel
        by_cases hj9 : j < 9
        · have t1 : decide ((j : Int) < 9) = true := decide_eq_true (by omega)
          have hji : (j : Int) < 9 := by omega
          have gj : wr.cell? ⟨w.heap.size + 1, j, none⟩ = some (.int .u64 (ns.getD j 0)) := (blk_cell HG9.out j).trans (arr9_cell ns hj9)
          have hbig : ∀ b : Bool, b = decide (j ≠ 2 ∧ j ≠ 4 ∧ 1099511627776 < ns.getD j 0) → (b = true → bigF ns = true) ∧ (b = false → ∀ a, a < j + 1 → ¬ bigAt ns a) := by
            rintro b rfl
            refine ⟨fun h => bigF_of hj9 (of_decide_eq_true (p := j ≠ 2 ∧ j ≠ 4 ∧ 1099511627776 < ns.getD j 0) h), fun h a ha => ?_⟩
            by_cases e : a = j
            · rw [e]; exact of_decide_eq_false (p := j ≠ 2 ∧ j ≠ 4 ∧ 1099511627776 < ns.getD j 0) h
            · exact HJ.out a (by omega)
          have HBIG := Aside0.mk hbig
          clear hbig
          generalize ns.getD j 0 = dj at *
          by_cases h2 : j = 2
          · have HN := Aside0.mk ((HBIG.out false (by symm; exact decide_eq_false (fun h => h.1 h2))).2 rfl)
            have u2 : ((j : Int) != 2) = false := bne_eq_false_iff_eq.mpr (by omega)
            clear h2
            go_wp2_with fail
            go_round
            case rel => exact ⟨j + 1, by omega, by go_num, HN⟩
            case measure => simp [intOf]; omega
          have u2 : ((j : Int) != 2) = true := bne_iff_ne.mpr (by omega)
          by_cases h4 : j = 4
          · have HN := Aside0.mk ((HBIG.out false (by symm; exact decide_eq_false (fun h => h.2.1 h4))).2 rfl)
            have u4 : ((j : Int) != 4) = false := bne_eq_false_iff_eq.mpr (by omega)
            clear h2 h4
            go_wp2_with fail
            go_round
            case rel => exact ⟨j + 1, by omega, by go_num, HN⟩
            case measure => simp [intOf]; omega
          have u4 : ((j : Int) != 4) = true := bne_iff_ne.mpr (by omega)
          by_cases hdj : 1099511627776 < dj
          · have u5 : decide ((1099511627776 : Int) < dj) = true := decide_eq_true hdj
            have hb := (HBIG.out true (by symm; exact decide_eq_true ⟨h2, h4, hdj⟩)).1 rfl
            have hh := HH.out
            rw [if_pos hb] at hh
            obtain rfl := Option.some.inj hh
            clear h2 h4 hdj hb hh
            have z0 := blk_cell HZ.out 0
            have zf0 := blk_frozen HZ.out 0
            have z1 := blk_cell HZ.out 1
            have zf1 := blk_frozen HZ.out 1
            have z2 := blk_cell HZ.out 2
            have zf2 := blk_frozen HZ.out 2
            have z3 := blk_cell HZ.out 3
            have zf3 := blk_frozen HZ.out 3
            have z4 := blk_cell HZ.out 4
            have zf4 := blk_frozen HZ.out 4
            have z5 := blk_cell HZ.out 5
            have zf5 := blk_frozen HZ.out 5
            have z6 := blk_cell HZ.out 6
            have zf6 := blk_frozen HZ.out 6
            have z7 := blk_cell HZ.out 7
            have zf7 := blk_frozen HZ.out 7
            have z8 := blk_cell HZ.out 8
            have zf8 := blk_frozen HZ.out 8
            go_wp2_with fail
            refine bodyPost_ret (results_ct rfl _ _ w.heap.size 25 #[.int .i64 0, .int .i64 0, .int .u64 0, .int .i64 0, .int .u64 0, .int .i64 0, .int .i64 0, .int .i64 0, .slice none 0 0] (0, 0) _ rfl (by apply eq_tr; (case hh1 => with_reducible repeat (first | exact HZ.out | apply blk_drewN | apply blk_drew | apply blk_set)); (case hh2 => rfl)) Try.underlying25 rfl (by kernel_rfl)) rfl ?_
            exact ⟨_, rfl, Kd.R_nil _ _ _ _ _, by with_reducible repeat (first | exact HB.out | refine bel_setN ?_ (Nat.le_refl _) _ | refine below_drew ?_ | refine pw_below_drewN ?_ _)⟩
          · have u5 : decide ((1099511627776 : Int) < dj) = false := decide_eq_false hdj
            have HN := Aside0.mk ((HBIG.out false (by symm; exact decide_eq_false (fun h => hdj h.2.2))).2 rfl)
            clear h2 h4 hdj
            go_wp2_with fail
            go_round
            case rel => exact ⟨j + 1, by omega, by go_num, HN⟩
            case measure => simp [intOf]; omega
        · obtain rfl : j = 9 := by omega
          have hb := bigF_not (ns := ns) HJ.out
          have hh := HH.out
          rw [hb, if_neg (by decide)] at hh
          obtain ⟨b, hbd, hh⟩ := Option.bind_eq_some_iff.mp hh
          obtain ⟨bl, be⟩ := b
          simp only at hh
          have HBD := Aside0.mk hbd
          have HH2 := Aside0.mk hh
          have hyc := HYC.out
          have hCt := Kd.C_take (m := d8.toNat) HY.out (by have := HLN.out; omega)
          have hpl : (y.take d8.toNat).length = d8.toNat := by rw [List.length_take]; have := HLN.out; omega
          obtain ⟨p, hpe⟩ : ∃ p, p = y.take d8.toNat := ⟨_, rfl⟩
          rw [← hpe] at hCt hpl HBD HH2
          have HCT := Aside0.mk hCt
          have HPL := Aside0.mk hpl
          clear hpe
          have h8 : (ns[8]?).getD 0 = d8 := HD8.out
          have HH8 := Aside0.mk h8
          have HI : Aside0 (Inv8 w w.heap.size (w.heap.size + 1) ns wr) := ⟨HB.out, HZ.out, HG9.out, by omega, by omega, by omega⟩
          have hlt := HLN.out
          have HLT := Aside0.mk hlt
          clear hb hh hbd hCt hpl HH HJ h8 hlt
          go_wp2_with fail
          refine start_ (n := 31) (S := refS ns (w.heap.size + 1)) (ds := []) #[false, false, false, false, false, false, false, false, false, false, false, false, false, false, false, false, false, false, false, false, false, false, false, false, false, false, false, false, false, false, false] (by kernel_rfl) rfl rfl HG9.out (fun _ => ?_)
          refine ref21_all (W := w) (g2 := w.heap.size) (g5 := w.heap.size + 1) (ds := ns) (y := y) (p := p) (A := A) (c := c) (fun _ _ _ N _ h => by cases N <;> exact h) ?_ HCT.out (by rw [HPL.out]; omega) (by rw [HH8.out]; exact ⟨h0, by have := HLT.out; omega⟩) (by rw [HH8.out]; exact HPL.out.symm) _ (HI.out.below (below_drew1 (Below.refl _ _)))
          intro w6 g v91 A6 c6 hI hg i2 i5 hR hz
          generalize IntKind.i64.wrap (ns.getD 0 0) = n0 at *
          generalize IntKind.i64.wrap (ns.getD 1 0) = n1 at *
          generalize ns.getD 2 0 = n2 at *
          generalize IntKind.i64.wrap (ns.getD 3 0) = n3 at *
          generalize ns.getD 4 0 = n4 at *
          generalize IntKind.i64.wrap (ns.getD 5 0) = n5 at *
          generalize IntKind.i64.wrap (ns.getD 6 0) = n6 at *
          generalize IntKind.i64.wrap (ns.getD 7 0) = n7 at *
          have HI6 := Aside0.mk hI
          have HR6 := Aside0.mk hR
          have HZ6 := Aside0.mk hz
          clear hI hR HI HZ HG9 HB
          unfold T21
          have k0 := blk_cell hz 0
          have k1 := blk_cell hz 1
          have k2 := blk_cell hz 2
          have k3 := blk_cell hz 3
          have k4 := blk_cell hz 4
          have k5 := blk_cell hz 5
          have k6 := blk_cell hz 6
          have k7 := blk_cell hz 7
          have k8 := blk_cell hz 8
          clear hz
          go_wp2_with fail
          refine (courierref15_Build.calls k n0 n1 n2 n3 n4 n5 n6 n7 A6 c6 p bl be _ (Kd.R_reads' HR6.out).2.2 (Kd.R_reads' HR6.out).2.1 HBD.out).mono ?_
          rintro e w7 ⟨v7, rfl, ho7, hb7⟩
          obtain ⟨A7, c7, rfl⟩ := Kd.R_slice ho7
          have hi7 := HI6.out.below hb7
          have HZ8 := Aside0.mk hi7.2.1
          have HB8 := Aside0.mk hi7.1
          have HR7 := Aside0.mk (Kd.R_below HR6.out hb7)
          have HZ7 := Aside0.mk (blk_below HZ6.out hb7)
          have HO7 := Aside0.mk ho7
          clear hb7 ho7 hi7 HI6 HR6 HZ6 k0 k1 k2 k3 k4 k5 k6 k7 k8
          by_cases he : be = 0
          rotate_left
          · have t3 : (be != 0) = true := bne_iff_ne.mpr he
            have hh := HH2.out
            rw [if_neg he] at hh
            obtain rfl := Option.some.inj hh
            clear he hh
            have z0 := blk_cell HZ8.out 0
            have zf0 := blk_frozen HZ8.out 0
            have z1 := blk_cell HZ8.out 1
            have zf1 := blk_frozen HZ8.out 1
            have z2 := blk_cell HZ8.out 2
            have zf2 := blk_frozen HZ8.out 2
            have z3 := blk_cell HZ8.out 3
            have zf3 := blk_frozen HZ8.out 3
            have z4 := blk_cell HZ8.out 4
            have zf4 := blk_frozen HZ8.out 4
            have z5 := blk_cell HZ8.out 5
            have zf5 := blk_frozen HZ8.out 5
            have z6 := blk_cell HZ8.out 6
            have zf6 := blk_frozen HZ8.out 6
            have z7 := blk_cell HZ8.out 7
            have zf7 := blk_frozen HZ8.out 7
            have z8 := blk_cell HZ8.out 8
            have zf8 := blk_frozen HZ8.out 8
            go_wp2_with fail
            refine bodyPost_ret (results_ct rfl _ _ w.heap.size 25 #[.int .i64 0, .int .i64 0, .int .u64 0, .int .i64 0, .int .u64 0, .int .i64 0, .int .i64 0, .int .i64 0, .slice none 0 0] (0, 0) _ rfl (by apply eq_tr; (case hh1 => with_reducible repeat (first | exact HZ8.out | apply blk_drewN | apply blk_drew | apply blk_set)); (case hh2 => rfl)) Try.underlying25 rfl (by kernel_rfl)) rfl ?_
            exact ⟨_, rfl, Kd.R_nil _ _ _ _ _, by with_reducible repeat (first | exact HB8.out | refine bel_setN ?_ (Nat.le_refl _) _ | refine below_drew ?_ | refine pw_below_drewN ?_ _)⟩
          have t3 : (be != 0) = false := bne_eq_false_iff_eq.mpr he
          have cv1 := Kd.C_string (P := Try.prog) (src := 23) (dst := 9) (c := c7) Try.underlying23 Try.underlying5 Try.underlying9 (Kd.R_reads' HO7.out).2.2
          have cv0 := Kd.C_string (P := Try.prog) (src := 23) (dst := 9) (c := c0) Try.underlying23 Try.underlying5 Try.underlying9 (Kd.C_below HR.out HB8.out)
          have hh := HH2.out
          rw [if_pos he] at hh
          by_cases hs : (strOfNums bl).toList = (strOfNums l0).toList
          rotate_left
          · have t4 : ((strOfNums bl).toList != (strOfNums l0).toList) = true := bne_iff_ne.mpr hs
            have t5 : ((strOfNums bl).toList == (strOfNums l0).toList) = false := beq_eq_false_iff_ne.mpr hs
            rw [if_neg hs] at hh
            obtain rfl := Option.some.inj hh
            clear he hh hs
            have z0 := blk_cell HZ8.out 0
            have zf0 := blk_frozen HZ8.out 0
            have z1 := blk_cell HZ8.out 1
            have zf1 := blk_frozen HZ8.out 1
            have z2 := blk_cell HZ8.out 2
            have zf2 := blk_frozen HZ8.out 2
            have z3 := blk_cell HZ8.out 3
            have zf3 := blk_frozen HZ8.out 3
            have z4 := blk_cell HZ8.out 4
            have zf4 := blk_frozen HZ8.out 4
            have z5 := blk_cell HZ8.out 5
            have zf5 := blk_frozen HZ8.out 5
            have z6 := blk_cell HZ8.out 6
            have zf6 := blk_frozen HZ8.out 6
            have z7 := blk_cell HZ8.out 7
            have zf7 := blk_frozen HZ8.out 7
            have z8 := blk_cell HZ8.out 8
            have zf8 := blk_frozen HZ8.out 8
            go_wp2_with fail
            refine bodyPost_ret (results_ct rfl _ _ w.heap.size 25 #[.int .i64 0, .int .i64 0, .int .u64 0, .int .i64 0, .int .u64 0, .int .i64 0, .int .i64 0, .int .i64 0, .slice none 0 0] (0, 0) _ rfl (by apply eq_tr; (case hh1 => with_reducible repeat (first | exact HZ8.out | apply blk_drewN | apply blk_drew | apply blk_set)); (case hh2 => rfl)) Try.underlying25 rfl (by kernel_rfl)) rfl ?_
            exact ⟨_, rfl, Kd.R_nil _ _ _ _ _, by with_reducible repeat (first | exact HB8.out | refine bel_setN ?_ (Nat.le_refl _) _ | refine below_drew ?_ | refine pw_below_drewN ?_ _)⟩
          have t4 : ((strOfNums bl).toList != (strOfNums l0).toList) = false := bne_eq_false_iff_eq.mpr hs
          have t5 : ((strOfNums bl).toList == (strOfNums l0).toList) = true := beq_iff_eq.mpr hs
          rw [if_pos hs] at hh
          obtain rfl := Option.some.inj hh
          clear he hh hs
          have z0 := blk_cell HZ8.out 0
          have zf0 := blk_frozen HZ8.out 0
          have z1 := blk_cell HZ8.out 1
          have zf1 := blk_frozen HZ8.out 1
          have z2 := blk_cell HZ8.out 2
          have zf2 := blk_frozen HZ8.out 2
          have z3 := blk_cell HZ8.out 3
          have zf3 := blk_frozen HZ8.out 3
          have z4 := blk_cell HZ8.out 4
          have zf4 := blk_frozen HZ8.out 4
          have z5 := blk_cell HZ8.out 5
          have zf5 := blk_frozen HZ8.out 5
          have z6 := blk_cell HZ8.out 6
          have zf6 := blk_frozen HZ8.out 6
          have z7 := blk_cell HZ8.out 7
          have zf7 := blk_frozen HZ8.out 7
          have z8 := blk_cell HZ8.out 8
          have zf8 := blk_frozen HZ8.out 8
          have k0 := blk_cell HZ7.out 0
          have k1 := blk_cell HZ7.out 1
          have k2 := blk_cell HZ7.out 2
          have k3 := blk_cell HZ7.out 3
          have k4 := blk_cell HZ7.out 4
          have k5 := blk_cell HZ7.out 5
          have k6 := blk_cell HZ7.out 6
          have k7 := blk_cell HZ7.out 7
          have k8 := blk_cell HZ7.out 8
          go_wp2_with fail
          refine bodyPost_ret (results_ct rfl _ _ w.heap.size 25 #[.int .i64 n0, .int .i64 n1, .int .u64 n2, .int .i64 n3, .int .u64 n4, .int .i64 n5, .int .i64 n6, .int .i64 n7, .slice A6 p.length c6] (0, 0) _ rfl (by apply eq_tr; (case hh1 => with_reducible repeat (first | exact HZ8.out | apply blk_drewN | apply blk_drew | apply blk_set)); (case hh2 => rfl)) Try.underlying25 rfl (by kernel_rfl)) rfl ?_
          refine ⟨_, rfl, ?_, by with_reducible repeat (first | exact HB8.out | refine bel_setN ?_ (Nat.le_refl _) _ | refine below_drew ?_ | refine pw_below_drewN ?_ _)⟩
          refine Kd.R_mono (ok := fun k_ => True ∧ k_ ≠ w.heap.size) ?_ (fun _ _ => trivial)
          repeat (refine Kd.R_far ?_ (fun k_ hk_ => hk_.2) _)
          exact Kd.R_types HR7.out HZ8.out (by decide)
theorem courierref15_Parse.calls (k : Nat) (A0 : Option Addr) (c0 : Nat) (l0 : List Int) (r1 : Int) (r2 : Int) (r3 : Int) (r4 : Int) (r5 : Int) (r6 : Int) (r7 : Int) (r8 : Int) (r9 : List Int) (r10 : Int) (w : World) (hr0 : Kd.C (Kd.int .u8) w A0 l0.length l0) (hc0 : l0.length ≤ c0) (h : courierref15_Parse.f k l0 = some (r1, r2, r3, r4, r5, r6, r7, r8, r9, r10)) :
    Calls Try.prog 17 #[.slice A0 l0.length c0] w fun e w' => ∃ v9_ : Value, e = .returned (.tuple #[.agg #[.int .i64 r1, .int .i64 r2, .int .u64 r3, .int .i64 r4, .int .u64 r5, .int .i64 r6, .int .i64 r7, .int .i64 r8, v9_], .int .i64 r10]) ∧ Kd.R (Kd.int .u8) 5 w' w.heap.size (fun _ => True) v9_ r9 ∧ Below w.heap.size w w' :=
  (refparse_main k A0 c0 l0 _ w hr0 hc0 h).mono fun e w' hp => hp
end

end Go.Proofs.Ythhkdabajikckaa.X
