/- The reference's Name: of any text the same as the program's, by its runes; texts of at most 2^46 bytes; utf8's two tables as they are laid. -/
import Derived.Test.YtknbhbppofphpaaGreatDoorXA
import Derived.Test.YtknbhbppofphpaaGreatDoorRunes03
set_option linter.unusedVariables false
set_option linter.unusedSimpArgs false
namespace Go.Proofs.YtknbhbppofphpaaGreatDoor.X
open Go.RowKit Go.Shelf Go.Proofs.YtknbhbppofphpaaGreatDoorW.PrintWords Go.Proofs.YtknbhbppofphpaaGreatDoorW.PrintLast Go.Proofs.YtknbhbppofphpaaGreatDoorW.PrintMore
def digitV (r : Nat) : Bool := decide (48 ≤ r ∧ r ≤ 57)
theorem refletter_f (r : Nat) : courierref03_Letter.f (r : Int) = some (letterV r) := by
  rw [← letter_f]
  unfold courierref03_Letter.f ident_Letter.f
  simp only [ge_iff_le]
theorem refdigit_f (r : Nat) : courierref03_digit.f (r : Int) = some (digitV r) := by
  unfold courierref03_digit.f digitV
  repeat' split
  all_goals
    rw [Option.some.injEq, Bool.eq_iff_iff]
    simp only [decide_eq_true_eq, true_iff, Bool.false_eq_true, false_iff]
    omega
theorem inside_eq (r : Nat) : insideV r = (letterV r || (digitV r || decide (r = 95))) := by
  unfold insideV digitV
  rw [Bool.decide_or]
theorem nameGo_all : ∀ (l : List Nat) (n : Nat), 0 < n → nameGo n l = (l.all insideV && decide (n + l.length ≤ 40))
  | [], n, h => by
    rw [nameGo, decide_eq_true h]; rfl
  | x :: l, n, h => by
    rw [nameGo]
    by_cases hx : insideV x = true
    · rw [if_pos ⟨hx, fun e => absurd e (by omega)⟩, nameGo_all l (n + 1) (by omega), List.all_cons, hx, Bool.true_and, List.length_cons, show n + 1 + l.length = n + (l.length + 1) by omega]
    · rw [if_neg (fun e => hx e.1), List.all_cons, Bool.eq_false_iff.mpr hx]; rfl
theorem nameV_cons (x : Nat) (l : List Nat) : nameV (x :: l) = (letterV x && (l.all insideV && decide (1 + l.length ≤ 40))) := by
  unfold nameV
  rw [nameGo]
  by_cases hx : letterV x = true
  · have hi : insideV x = true := by rw [inside_eq, hx]; rfl
    rw [if_pos ⟨hi, fun _ => hx⟩, nameGo_all l 1 (by omega), hx]; rfl
  · rw [if_neg (fun e => hx (e.2 rfl)), Bool.eq_false_iff.mpr hx]; rfl
theorem nameV_nil : nameV [] = false := rfl
theorem bad_in (s : ByteArray) : ∀ f pos, s.size ≤ pos + f → Lib.validD (s.data.toList.drop pos) = false → 65533 ∈ runesFrom s f pos
  | 0, pos, h, hv => by
    exfalso
    rw [List.drop_eq_nil_of_le (by simp; exact h), Lib.validD_nil] at hv
    cases hv
  | f + 1, pos, h, hv => by
    by_cases hp : pos < s.size
    · have hne : s.data.toList.drop pos ≠ [] := by
        intro e
        have := congrArg List.length e
        simp at this
        have h2 : s.data.size = s.size := rfl
        omega
      rw [Lib.validD_step _ hne, Lib.decodeL_drop] at hv
      rw [runesFrom_next s f pos hp]
      by_cases hb : (Utf8.decode s pos).1 = 65533 ∧ (Utf8.decode s pos).2 = 1
      · rw [hb.1]; exact List.mem_cons_self
      · rw [if_neg hb, List.drop_drop] at hv
        have hw := width_pos s pos hp
        exact List.mem_cons_of_mem _ (bad_in s f _ (by omega) hv)
    · exfalso
      rw [List.drop_eq_nil_of_le (by simp; exact Nat.not_lt.mp hp), Lib.validD_nil] at hv
      cases hv
theorem name_bad {l : List Nat} (h : 65533 ∈ l) : nameV l = false := by
  cases l with
  | nil => cases h
  | cons x l =>
    rw [nameV_cons]
    rcases List.mem_cons.mp h with rfl | h
    · rfl
    · have : l.all insideV = false := by
        rw [List.all_eq_false]
        exact ⟨65533, h, by decide⟩
      rw [this, Bool.false_and, Bool.and_false]
theorem name_invalid (s : ByteArray) (h : ¬ validV s = true) : nameV (runesOf s) = false :=
  name_bad (bad_in s s.size 0 (by omega) (by rw [List.drop_zero]; exact Bool.eq_false_iff.mpr h))
set_option maxHeartbeats 4000000 in
set_option maxRecDepth 100000 in
theorem courierref03_Name.calls (s : ByteArray) (w : World) (hs : s.size ≤ 70368744177664) (hT : Lib.Utf8Tabs (Tryz.lays196_ren.g 3) (Tryz.lays196_ren.g 4) w) :
    Calls Tryz.prog 64 #[.string s] w fun e w' => e = .returned (.bool (nameV (runesOf s))) ∧ Below w.heap.size w w' := by
  go_enter Tryz.func64, Tryz.ntmps64
  go_wp2_with fail
  refine (courierref03_Runes.calls s w hs hT).mono ?_
  rintro e w1 ⟨A, c, rfl, hC, hc, hb⟩
  have HB := Aside0.mk hb
  clear hb hT
  by_cases hv : validV s = true
  rotate_left
  · rw [Bool.eq_false_iff.mpr hv]
    have HN := Aside0.mk (name_invalid s hv)
    clear hC
    go_wp2_with fail
    go_ret
    exact ⟨congrArg (fun b => Ending.returned (Value.bool b)) HN.out.symm, HB.out⟩
  have hz : runesZ s = (runesOf s).map (fun r : Nat => (r : Int)) := by unfold runesZ; rw [if_pos hv]
  have hle := runesZ_le s
  rw [hv]
  rw [hz] at hC hc hle ⊢
  obtain ⟨L, hL⟩ : ∃ L, runesOf s = L := ⟨_, rfl⟩
  have HLL := Aside0.mk hL
  rw [hL] at hC hc hle ⊢
  rw [List.length_map] at hle
  cases L with
  | nil =>
    clear hC
    go_wp2_with fail
    go_ret
    exact ⟨congrArg (fun b => Ending.returned (Value.bool b)) (by rw [HLL.out]; exact nameV_nil.symm), HB.out⟩
  | cons x L =>
    obtain ⟨n, hn⟩ : ∃ n, ((x :: L).map (fun r : Nat => (r : Int))).length = n := ⟨_, rfl⟩
    have hnl : n = 1 + L.length := by rw [← hn]; simp; omega
    rw [hn] at hC hc ⊢
    have HC := Aside0.mk hC
    clear hC
    have t1 : decide ((n : Int) < 1) = false := decide_eq_false (by omega)
    have HNL := Aside0.mk hnl
    clear hnl hn
    have hnl := HNL.out
    by_cases h40 : n ≤ 40
    rotate_left
    · have t2 : decide (40 < (n : Int)) = true := decide_eq_true (by omega)
      have HV : Aside0 (nameV (x :: L) = false) := ⟨by rw [nameV_cons, decide_eq_false (show ¬ 1 + L.length ≤ 40 by omega), Bool.and_false, Bool.and_false]⟩
      clear hnl
      go_wp2_with fail
      go_ret
      exact ⟨congrArg (fun b => Ending.returned (Value.bool b)) (by first | exact HV.out.symm | (rw [HLL.out]; exact HV.out.symm)), HB.out⟩
    have t2 : decide (40 < (n : Int)) = false := decide_eq_false (by omega)
    have h0n : 0 < n := by omega
    have t0 : decide (0 < n) = true := decide_eq_true (by omega)
    obtain ⟨ad, rfl, hcell⟩ := Kd.at_int HC.out (0 : Int) (by omega) (by omega)
    clear hnl
    have hrd : rd ((x :: L).map (fun r : Nat => (r : Int))) 0 = (x : Int) := rfl
    rw [hrd, Int.toNat_zero, show Addr.add ad 0 = ad from if_pos rfl] at hcell
    have HF := Aside0.mk (refletter_f x)
    by_cases hx : letterV x = true
    rotate_left
    · have HV : Aside0 (nameV (x :: L) = false) := ⟨by rw [nameV_cons, Bool.eq_false_iff.mpr hx, Bool.false_and]⟩
      rw [Bool.eq_false_iff.mpr hx] at HF
      go_wp2_with fail
      refine (courierref03_Letter.calls (x : Int) false _ HF.out).mono ?_
      rintro e w' ⟨rfl, ⟨nd, rfl⟩⟩
      go_wp2_with fail
      go_ret
      exact ⟨congrArg (fun b => Ending.returned (Value.bool b)) (by first | exact HV.out.symm | (rw [HLL.out]; exact HV.out.symm)), pw_below_drewN HB.out nd⟩
    rw [hx] at HF
    have HN : Aside0 (nameV (x :: L) = (x :: L).all insideV) := ⟨by
      rw [nameV_cons, hx, decide_eq_true (show 1 + L.length ≤ 40 by have := HNL.out; omega), Bool.and_true, Bool.true_and, List.all_cons, inside_eq, hx, Bool.true_or, Bool.true_and]⟩
    go_wp2_with fail
    refine (courierref03_Letter.calls (x : Int) true _ HF.out).mono ?_
    rintro e w' ⟨rfl, ⟨nd, rfl⟩⟩
    have HC1 : Aside0 (Kd.C (Kd.int .i32) (w1.drewN nd) (some ad) n ((x :: L).map (fun r : Nat => (r : Int)))) := ⟨Kd.C_drewN HC.out _⟩
    have HB1 := Aside0.mk (pw_below_drewN HB.out nd)
    have HW : Aside0 (n = (x :: L).length) := ⟨by rw [HNL.out, List.length_cons]; omega⟩
    obtain ⟨M, hM⟩ : ∃ M, M = x :: L := ⟨_, rfl⟩
    rw [← hM] at HLL HN HC1 HW
    clear hM hcell hrd HF hx HC HB hz hle HNL t0 t1 t2 h0n
    go_wp2_with fail
    go_loopw [32] (fun v32 wr => ∃ j : Nat, j ≤ n ∧ v32 = .int .i64 j ∧ Aside0 (Kd.C (Kd.int .i32) wr (some ad) n (M.map (fun r : Nat => (r : Int)))) ∧ Aside0 (Below w.heap.size w wr) ∧ Aside0 (M.all insideV = (M.drop j).all insideV)) (fun v32 _ => n - (intOf v32).toNat)
    case atStart => exact ⟨0, by omega, rfl, HC1, HB1, ⟨by rw [List.drop_zero]⟩⟩
    case round =>
      obtain ⟨j, hj, rfl, HC2, HB2, HA⟩ := hrel
      by_cases hlt : j < n
      · have t1 : decide (j < n) = true := decide_eq_true hlt
        obtain ⟨ad', he, hcell⟩ := Kd.at_int HC2.out (j : Int) (by omega) (by omega)
        obtain rfl := Option.some.inj he
        have hjm : j < M.length := by have := HW.out; omega
        have hrd : rd (M.map (fun r : Nat => (r : Int))) (j : Int) = ((M[j]'hjm : Nat) : Int) := by simp [rd, hjm]
        rw [hrd, Int.toNat_natCast] at hcell
        have HD : Aside0 (M.drop j = M[j]'hjm :: M.drop (j + 1)) := ⟨List.drop_eq_getElem_cons hjm⟩
        generalize M[j]'hjm = y at hcell HD
        clear hrd he
        have HL := Aside0.mk (refletter_f y)
        have HG := Aside0.mk (refdigit_f y)
        have hi := inside_eq y
        have hall : M.all insideV = (insideV y && (M.drop (j + 1)).all insideV) := by rw [HA.out, HD.out, List.all_cons]
        have HALL := Aside0.mk hall
        clear hall
        by_cases h1 : letterV y = true
        · rw [h1, Bool.true_or] at hi
          rw [h1] at HL
          have HR : Aside0 (M.all insideV = (M.drop (j + 1)).all insideV) := ⟨by rw [HALL.out, hi, Bool.true_and]⟩
          clear hi
          go_wp2_with fail
          refine (courierref03_Letter.calls (y : Int) true _ HL.out).mono ?_
          rintro e w' ⟨rfl, ⟨nd1, rfl⟩⟩
          go_wp2_with fail
          go_roundw
          case rel => exact ⟨j + 1, by omega, by go_num, ⟨Kd.C_drewN HC2.out _⟩, ⟨pw_below_drewN HB2.out _⟩, HR⟩
          case measure => simp [intOf]; omega
        · rw [Bool.eq_false_iff.mpr h1, Bool.false_or] at hi
          rw [Bool.eq_false_iff.mpr h1] at HL
          by_cases h2 : digitV y = true
          · rw [h2, Bool.true_or] at hi
            rw [h2] at HG
            have HR : Aside0 (M.all insideV = (M.drop (j + 1)).all insideV) := ⟨by rw [HALL.out, hi, Bool.true_and]⟩
            clear hi
            go_wp2_with fail
            refine (courierref03_Letter.calls (y : Int) false _ HL.out).mono ?_
            rintro e w' ⟨rfl, ⟨nd1, rfl⟩⟩
            go_wp2_with fail
            refine (courierref03_digit.calls (y : Int) true _ HG.out).mono ?_
            rintro e w' ⟨rfl, ⟨nd2, rfl⟩⟩
            go_wp2_with fail
            go_roundw
            case rel => exact ⟨j + 1, by omega, by go_num, ⟨Kd.C_drewN HC2.out _⟩, ⟨pw_below_drewN HB2.out _⟩, HR⟩
            case measure => simp [intOf]; omega
          · rw [Bool.eq_false_iff.mpr h2, Bool.false_or] at hi
            rw [Bool.eq_false_iff.mpr h2] at HG
            by_cases h3 : y = 95
            · have t95 : ((y : Int) != 95) = false := by rw [h3]; rfl
              have t95b : ((y : Int) == 95) = true := beq_iff_eq.mpr (by omega)
              rw [decide_eq_true h3] at hi
              have HR : Aside0 (M.all insideV = (M.drop (j + 1)).all insideV) := ⟨by rw [HALL.out, hi, Bool.true_and]⟩
              clear hi h3
              go_wp2_with fail
              refine (courierref03_Letter.calls (y : Int) false _ HL.out).mono ?_
              rintro e w' ⟨rfl, ⟨nd1, rfl⟩⟩
              go_wp2_with fail
              refine (courierref03_digit.calls (y : Int) false _ HG.out).mono ?_
              rintro e w' ⟨rfl, ⟨nd2, rfl⟩⟩
              go_wp2_with fail
              go_roundw
              case rel => exact ⟨j + 1, by omega, by go_num, ⟨Kd.C_drewN HC2.out _⟩, ⟨pw_below_drewN HB2.out _⟩, HR⟩
              case measure => simp [intOf]; omega
            · have t95b : ((y : Int) == 95) = false := beq_eq_false_iff_ne.mpr (by omega)
              have t95 : ((y : Int) != 95) = true := bne_iff_ne.mpr (by omega)
              rw [decide_eq_false h3] at hi
              have HV : Aside0 (nameV (runesOf s) = false) := ⟨by rw [HLL.out, HN.out, HALL.out, hi, Bool.false_and]⟩
              clear hi h3
              go_wp2_with fail
              refine (courierref03_Letter.calls (y : Int) false _ HL.out).mono ?_
              rintro e w' ⟨rfl, ⟨nd1, rfl⟩⟩
              go_wp2_with fail
              refine (courierref03_digit.calls (y : Int) false _ HG.out).mono ?_
              rintro e w' ⟨rfl, ⟨nd2, rfl⟩⟩
              go_wp2_with fail
              go_ret
              exact ⟨congrArg (fun b => Ending.returned (Value.bool b)) HV.out.symm, pw_below_drewN HB2.out _⟩
      · have t1 : decide (j < n) = false := decide_eq_false hlt
        have HV : Aside0 (nameV (runesOf s) = true) := ⟨by rw [HLL.out, HN.out, HA.out, List.drop_eq_nil_of_le (by have := HW.out; omega)]; rfl⟩
        go_wp2_with fail
        go_ret
        exact ⟨congrArg (fun b => Ending.returned (Value.bool b)) HV.out.symm, HB2.out⟩
end Go.Proofs.YtknbhbppofphpaaGreatDoor.X
