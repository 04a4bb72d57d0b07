/- slices.IndexFunc, slices.ContainsFunc: what they answer of a row of declarations, fields, values, methods, if the function answers 'G' of each. Printed by gen_any.py. -/
import Derived.Test.YtknbhbppofphpaaGreatDoorTree
import Derived.LoopTactic
set_option linter.unusedVariables false
set_option linter.unusedSimpArgs false
namespace Go.Proofs.YtknbhbppofphpaaGreatDoor.X
open Go.RowKit Go.Proofs.YtknbhbppofphpaaGreatDoorW.PrintWords Go.Proofs.YtknbhbppofphpaaGreatDoorW.PrintLast Go.Proofs.YtknbhbppofphpaaGreatDoorW.PrintMore
def firstG {α : Type} (G : α → Bool) : List α → Nat → Int
  | [], _ => -1
  | p :: ps, i => if G p = true then (i : Int) else firstG G ps (i + 1)
theorem firstG_ge {α : Type} (G : α → Bool) : ∀ (ps : List α) (i : Nat), decide (0 ≤ firstG G ps i) = ps.any G
  | [], _ => rfl
  | p :: ps, i => by
    unfold firstG
    by_cases h : G p = true
    · rw [if_pos h, List.any_cons, h, Bool.true_or, decide_eq_true (by omega)]
    · rw [if_neg h, firstG_ge G ps (i + 1), List.any_cons, Bool.eq_false_iff.mpr h, Bool.false_or]
set_option maxHeartbeats 4000000 in
set_option maxRecDepth 100000 in
theorem idx_f1.calls (G : S62 → Bool) (A : Option Addr) (n c : Nat) (l : List S62) (w : World) (hC : Kd.C k62 w A n l) (hn : n ≤ 1000000000)
    (hp : ∀ d ∈ l, ∀ (w' : World), Below w.heap.size w w' → Calls Tryz.prog 43 #[.agg #[.bool d.f0, .string d.f1, .string d.f2, .int .i64 d.f3, .int .i64 d.f4.f0, .int .i64 d.f4.f1]] w' fun e w'' => e = .returned (.bool (G d)) ∧ Below w'.heap.size w' w'') :
    Calls Tryz.prog 68 #[.slice A n c, .func (.func 43) #[] #[]] w fun e w' => e = .returned (.int .i64 (firstG G l 0)) ∧ Below w.heap.size w w' := by
  have HC := Aside0.mk hC
  have HP := Aside0.mk hp
  have HLN := Aside0.mk (Kd.C_len hC)
  have HB0 := Aside0.mk (Below.refl w.heap.size w)
  clear hC hp
  go_enter Tryz.func68, Tryz.ntmps68
  go_wp2_with fail
  go_loopw [8] (fun v8 wr => ∃ i : Int, 0 ≤ i ∧ i ≤ (n : Int) ∧ v8 = .int .i64 i ∧ Aside0 (Below w.heap.size w wr) ∧ Aside0 (firstG G l 0 = firstG G (l.drop i.toNat) i.toNat)) (fun v8 _ => n - (intOf v8).toNat)
  case atStart => exact ⟨0, by omega, by omega, rfl, HB0, ⟨rfl⟩⟩
  case round =>
    obtain ⟨i, hi0, hil, rfl, HB, HF⟩ := hrel
    by_cases hlt : i < (n : Int)
    · have t1 : decide (i < (n : Int)) = true := decide_eq_true hlt
      obtain ⟨ad, e0, x0, x1, x2, x3, x4, x5⟩ := at_T62 (Kd.C_below HC.out HB.out) i hi0 hlt
      cases e0
      have hjm : i.toNat < l.length := by rw [HLN.out]; omega
      have hrd : rd_T62 l i = l[i.toNat] := by simp [rd_T62, hjm]
      have hmem := List.getElem_mem hjm
      have HD : Aside0 (l.drop i.toNat = l[i.toNat] :: l.drop (i.toNat + 1)) := ⟨List.drop_eq_getElem_cons hjm⟩
      rw [hrd] at x0 x1 x2 x3 x4 x5
      clear hrd
      generalize l[i.toNat] = d at *
      have HCALL := Aside0.mk (HP.out d hmem wr HB.out)
      have HMEM := Aside0.mk hmem
      have HFB : Aside0 (firstG G l 0 = if G d = true then i else firstG G (l.drop (i.toNat + 1)) (i.toNat + 1)) := ⟨by rw [HF.out, HD.out, firstG, Int.toNat_of_nonneg hi0]⟩
      clear hmem hjm
      go_wp2_with fail
      refine HCALL.out.mono ?_
      rintro e w2 ⟨rfl, hb⟩
      have HB2 := Aside0.mk (below_step HB.out hb)
      clear hb HCALL HF
      generalize G d = b at *
      cases b with
      | true =>
        rw [if_pos rfl] at HFB
        go_wp2_with fail
        go_ret
        exact ⟨congrArg (fun b => Ending.returned (Value.int .i64 b)) HFB.out.symm, HB2.out⟩
      | false =>
        rw [if_neg (by decide)] at HFB
        go_wp2_with fail
        go_roundw
        case rel => exact ⟨i + 1, by omega, by omega, rfl, HB2, ⟨by rw [HFB.out, show (i + 1).toNat = i.toNat + 1 by omega]⟩⟩
        case measure => simp [intOf]; omega
    · have t1 : decide (i < (n : Int)) = false := decide_eq_false hlt
      have HV : Aside0 (firstG G l 0 = -1) := ⟨by rw [HF.out, List.drop_eq_nil_of_le (by rw [HLN.out]; omega), firstG]⟩
      go_wp2_with fail
      go_ret
      exact ⟨congrArg (fun b => Ending.returned (Value.int .i64 b)) HV.out.symm, HB.out⟩
set_option maxHeartbeats 4000000 in
set_option maxRecDepth 100000 in
theorem any_f1.calls (G : S62 → Bool) (A : Option Addr) (n c : Nat) (l : List S62) (w : World) (hC : Kd.C k62 w A n l) (hn : n ≤ 1000000000)
    (hp : ∀ d ∈ l, ∀ (w' : World), Below w.heap.size w w' → Calls Tryz.prog 43 #[.agg #[.bool d.f0, .string d.f1, .string d.f2, .int .i64 d.f3, .int .i64 d.f4.f0, .int .i64 d.f4.f1]] w' fun e w'' => e = .returned (.bool (G d)) ∧ Below w'.heap.size w' w'') :
    Calls Tryz.prog 42 #[.slice A n c, .func (.func 43) #[] #[]] w fun e w' => e = .returned (.bool (l.any G)) ∧ Below w.heap.size w w' := by
  have HI := Aside0.mk (idx_f1.calls G A n c l w hC hn hp)
  clear hC hp
  go_enter Tryz.func42, Tryz.ntmps42
  go_wp2_with fail
  refine HI.out.mono ?_
  rintro e w2 ⟨rfl, hb⟩
  have HB := Aside0.mk hb
  have hf := firstG_ge G l 0
  clear hb HI
  generalize firstG G l 0 = x at *
  obtain ⟨b, hgb⟩ : ∃ b, l.any G = b := ⟨_, rfl⟩
  rw [hgb] at hf
  have HG := Aside0.mk hgb
  clear hgb
  cases b with
  | false =>
    have hf2 : decide (0 ≤ x) = false := hf
    clear hf
    go_wp2_with fail
    go_ret
    exact ⟨congrArg (fun b => Ending.returned (Value.bool b)) HG.out.symm, HB.out⟩
  | true =>
    have hf2 : decide (0 ≤ x) = true := hf
    clear hf
    go_wp2_with fail
    go_ret
    exact ⟨congrArg (fun b => Ending.returned (Value.bool b)) HG.out.symm, HB.out⟩
set_option maxHeartbeats 4000000 in
set_option maxRecDepth 100000 in
theorem idx_f2.calls (G : S36 → Bool) (A : Option Addr) (n c : Nat) (l : List S36) (w : World) (hC : Kd.C k36 w A n l) (hn : n ≤ 1000000000)
    (hp : ∀ d ∈ l, ∀ (w' : World), Below w.heap.size w w' → Calls Tryz.prog 49 #[.agg #[.string d.f0, .int .i64 d.f1, .int .i64 d.f2.f0, .int .i64 d.f2.f1]] w' fun e w'' => e = .returned (.bool (G d)) ∧ Below w'.heap.size w' w'') :
    Calls Tryz.prog 71 #[.slice A n c, .func (.func 49) #[] #[]] w fun e w' => e = .returned (.int .i64 (firstG G l 0)) ∧ Below w.heap.size w w' := by
  have HC := Aside0.mk hC
  have HP := Aside0.mk hp
  have HLN := Aside0.mk (Kd.C_len hC)
  have HB0 := Aside0.mk (Below.refl w.heap.size w)
  clear hC hp
  go_enter Tryz.func71, Tryz.ntmps71
  go_wp2_with fail
  go_loopw [8] (fun v8 wr => ∃ i : Int, 0 ≤ i ∧ i ≤ (n : Int) ∧ v8 = .int .i64 i ∧ Aside0 (Below w.heap.size w wr) ∧ Aside0 (firstG G l 0 = firstG G (l.drop i.toNat) i.toNat)) (fun v8 _ => n - (intOf v8).toNat)
  case atStart => exact ⟨0, by omega, by omega, rfl, HB0, ⟨rfl⟩⟩
  case round =>
    obtain ⟨i, hi0, hil, rfl, HB, HF⟩ := hrel
    by_cases hlt : i < (n : Int)
    · have t1 : decide (i < (n : Int)) = true := decide_eq_true hlt
      obtain ⟨ad, e0, x0, x1, x2, x3⟩ := at_T36 (Kd.C_below HC.out HB.out) i hi0 hlt
      cases e0
      have hjm : i.toNat < l.length := by rw [HLN.out]; omega
      have hrd : rd_T36 l i = l[i.toNat] := by simp [rd_T36, hjm]
      have hmem := List.getElem_mem hjm
      have HD : Aside0 (l.drop i.toNat = l[i.toNat] :: l.drop (i.toNat + 1)) := ⟨List.drop_eq_getElem_cons hjm⟩
      rw [hrd] at x0 x1 x2 x3
      clear hrd
      generalize l[i.toNat] = d at *
      have HCALL := Aside0.mk (HP.out d hmem wr HB.out)
      have HMEM := Aside0.mk hmem
      have HFB : Aside0 (firstG G l 0 = if G d = true then i else firstG G (l.drop (i.toNat + 1)) (i.toNat + 1)) := ⟨by rw [HF.out, HD.out, firstG, Int.toNat_of_nonneg hi0]⟩
      clear hmem hjm
      go_wp2_with fail
      refine HCALL.out.mono ?_
      rintro e w2 ⟨rfl, hb⟩
      have HB2 := Aside0.mk (below_step HB.out hb)
      clear hb HCALL HF
      generalize G d = b at *
      cases b with
      | true =>
        rw [if_pos rfl] at HFB
        go_wp2_with fail
        go_ret
        exact ⟨congrArg (fun b => Ending.returned (Value.int .i64 b)) HFB.out.symm, HB2.out⟩
      | false =>
        rw [if_neg (by decide)] at HFB
        go_wp2_with fail
        go_roundw
        case rel => exact ⟨i + 1, by omega, by omega, rfl, HB2, ⟨by rw [HFB.out, show (i + 1).toNat = i.toNat + 1 by omega]⟩⟩
        case measure => simp [intOf]; omega
    · have t1 : decide (i < (n : Int)) = false := decide_eq_false hlt
      have HV : Aside0 (firstG G l 0 = -1) := ⟨by rw [HF.out, List.drop_eq_nil_of_le (by rw [HLN.out]; omega), firstG]⟩
      go_wp2_with fail
      go_ret
      exact ⟨congrArg (fun b => Ending.returned (Value.int .i64 b)) HV.out.symm, HB.out⟩
set_option maxHeartbeats 4000000 in
set_option maxRecDepth 100000 in
theorem any_f2.calls (G : S36 → Bool) (A : Option Addr) (n c : Nat) (l : List S36) (w : World) (hC : Kd.C k36 w A n l) (hn : n ≤ 1000000000)
    (hp : ∀ d ∈ l, ∀ (w' : World), Below w.heap.size w w' → Calls Tryz.prog 49 #[.agg #[.string d.f0, .int .i64 d.f1, .int .i64 d.f2.f0, .int .i64 d.f2.f1]] w' fun e w'' => e = .returned (.bool (G d)) ∧ Below w'.heap.size w' w'') :
    Calls Tryz.prog 48 #[.slice A n c, .func (.func 49) #[] #[]] w fun e w' => e = .returned (.bool (l.any G)) ∧ Below w.heap.size w w' := by
  have HI := Aside0.mk (idx_f2.calls G A n c l w hC hn hp)
  clear hC hp
  go_enter Tryz.func48, Tryz.ntmps48
  go_wp2_with fail
  refine HI.out.mono ?_
  rintro e w2 ⟨rfl, hb⟩
  have HB := Aside0.mk hb
  have hf := firstG_ge G l 0
  clear hb HI
  generalize firstG G l 0 = x at *
  obtain ⟨b, hgb⟩ : ∃ b, l.any G = b := ⟨_, rfl⟩
  rw [hgb] at hf
  have HG := Aside0.mk hgb
  clear hgb
  cases b with
  | false =>
    have hf2 : decide (0 ≤ x) = false := hf
    clear hf
    go_wp2_with fail
    go_ret
    exact ⟨congrArg (fun b => Ending.returned (Value.bool b)) HG.out.symm, HB.out⟩
  | true =>
    have hf2 : decide (0 ≤ x) = true := hf
    clear hf
    go_wp2_with fail
    go_ret
    exact ⟨congrArg (fun b => Ending.returned (Value.bool b)) HG.out.symm, HB.out⟩
set_option maxHeartbeats 4000000 in
set_option maxRecDepth 100000 in
theorem idx_f3.calls (G : S66 → Bool) (A : Option Addr) (n c : Nat) (l : List S66) (w : World) (hC : Kd.C k66 w A n l) (hn : n ≤ 1000000000)
    (hp : ∀ d ∈ l, ∀ (w' : World), Below w.heap.size w w' → Calls Tryz.prog 51 #[.agg #[.string d.f0, .string d.f1, .string d.f2, .int .i64 d.f3.f0, .int .i64 d.f3.f1]] w' fun e w'' => e = .returned (.bool (G d)) ∧ Below w'.heap.size w' w'') :
    Calls Tryz.prog 72 #[.slice A n c, .func (.func 51) #[] #[]] w fun e w' => e = .returned (.int .i64 (firstG G l 0)) ∧ Below w.heap.size w w' := by
  have HC := Aside0.mk hC
  have HP := Aside0.mk hp
  have HLN := Aside0.mk (Kd.C_len hC)
  have HB0 := Aside0.mk (Below.refl w.heap.size w)
  clear hC hp
  go_enter Tryz.func72, Tryz.ntmps72
  go_wp2_with fail
  go_loopw [8] (fun v8 wr => ∃ i : Int, 0 ≤ i ∧ i ≤ (n : Int) ∧ v8 = .int .i64 i ∧ Aside0 (Below w.heap.size w wr) ∧ Aside0 (firstG G l 0 = firstG G (l.drop i.toNat) i.toNat)) (fun v8 _ => n - (intOf v8).toNat)
  case atStart => exact ⟨0, by omega, by omega, rfl, HB0, ⟨rfl⟩⟩
  case round =>
    obtain ⟨i, hi0, hil, rfl, HB, HF⟩ := hrel
    by_cases hlt : i < (n : Int)
    · have t1 : decide (i < (n : Int)) = true := decide_eq_true hlt
      obtain ⟨ad, e0, x0, x1, x2, x3, x4⟩ := at_T66 (Kd.C_below HC.out HB.out) i hi0 hlt
      cases e0
      have hjm : i.toNat < l.length := by rw [HLN.out]; omega
      have hrd : rd_T66 l i = l[i.toNat] := by simp [rd_T66, hjm]
      have hmem := List.getElem_mem hjm
      have HD : Aside0 (l.drop i.toNat = l[i.toNat] :: l.drop (i.toNat + 1)) := ⟨List.drop_eq_getElem_cons hjm⟩
      rw [hrd] at x0 x1 x2 x3 x4
      clear hrd
      generalize l[i.toNat] = d at *
      have HCALL := Aside0.mk (HP.out d hmem wr HB.out)
      have HMEM := Aside0.mk hmem
      have HFB : Aside0 (firstG G l 0 = if G d = true then i else firstG G (l.drop (i.toNat + 1)) (i.toNat + 1)) := ⟨by rw [HF.out, HD.out, firstG, Int.toNat_of_nonneg hi0]⟩
      clear hmem hjm
      go_wp2_with fail
      refine HCALL.out.mono ?_
      rintro e w2 ⟨rfl, hb⟩
      have HB2 := Aside0.mk (below_step HB.out hb)
      clear hb HCALL HF
      generalize G d = b at *
      cases b with
      | true =>
        rw [if_pos rfl] at HFB
        go_wp2_with fail
        go_ret
        exact ⟨congrArg (fun b => Ending.returned (Value.int .i64 b)) HFB.out.symm, HB2.out⟩
      | false =>
        rw [if_neg (by decide)] at HFB
        go_wp2_with fail
        go_roundw
        case rel => exact ⟨i + 1, by omega, by omega, rfl, HB2, ⟨by rw [HFB.out, show (i + 1).toNat = i.toNat + 1 by omega]⟩⟩
        case measure => simp [intOf]; omega
    · have t1 : decide (i < (n : Int)) = false := decide_eq_false hlt
      have HV : Aside0 (firstG G l 0 = -1) := ⟨by rw [HF.out, List.drop_eq_nil_of_le (by rw [HLN.out]; omega), firstG]⟩
      go_wp2_with fail
      go_ret
      exact ⟨congrArg (fun b => Ending.returned (Value.int .i64 b)) HV.out.symm, HB.out⟩
set_option maxHeartbeats 4000000 in
set_option maxRecDepth 100000 in
theorem any_f3.calls (G : S66 → Bool) (A : Option Addr) (n c : Nat) (l : List S66) (w : World) (hC : Kd.C k66 w A n l) (hn : n ≤ 1000000000)
    (hp : ∀ d ∈ l, ∀ (w' : World), Below w.heap.size w w' → Calls Tryz.prog 51 #[.agg #[.string d.f0, .string d.f1, .string d.f2, .int .i64 d.f3.f0, .int .i64 d.f3.f1]] w' fun e w'' => e = .returned (.bool (G d)) ∧ Below w'.heap.size w' w'') :
    Calls Tryz.prog 50 #[.slice A n c, .func (.func 51) #[] #[]] w fun e w' => e = .returned (.bool (l.any G)) ∧ Below w.heap.size w w' := by
  have HI := Aside0.mk (idx_f3.calls G A n c l w hC hn hp)
  clear hC hp
  go_enter Tryz.func50, Tryz.ntmps50
  go_wp2_with fail
  refine HI.out.mono ?_
  rintro e w2 ⟨rfl, hb⟩
  have HB := Aside0.mk hb
  have hf := firstG_ge G l 0
  clear hb HI
  generalize firstG G l 0 = x at *
  obtain ⟨b, hgb⟩ : ∃ b, l.any G = b := ⟨_, rfl⟩
  rw [hgb] at hf
  have HG := Aside0.mk hgb
  clear hgb
  cases b with
  | false =>
    have hf2 : decide (0 ≤ x) = false := hf
    clear hf
    go_wp2_with fail
    go_ret
    exact ⟨congrArg (fun b => Ending.returned (Value.bool b)) HG.out.symm, HB.out⟩
  | true =>
    have hf2 : decide (0 ≤ x) = true := hf
    clear hf
    go_wp2_with fail
    go_ret
    exact ⟨congrArg (fun b => Ending.returned (Value.bool b)) HG.out.symm, HB.out⟩
set_option maxHeartbeats 4000000 in
set_option maxRecDepth 100000 in
theorem idx_F1.calls (G : S41 → Bool) (A : Option Addr) (n c : Nat) (l : List S41) (w : World) (hC : Kd.C k41 w A n l) (hn : n ≤ 1000000000)
    (hp : ∀ d ∈ l, ∀ (w' : World) (A4 A5 A6 A7 : Option Addr) (c4 c5 c6 c7 : Nat), Below w.heap.size w w' → Kd.C k62 w' A4 d.f3.length d.f3 → d.f3.length ≤ c4 → Kd.C k36 w' A5 d.f4.length d.f4 → d.f4.length ≤ c5 → Kd.C k66 w' A6 d.f5.length d.f5 → d.f5.length ≤ c6 → Kd.C k41 w' A7 d.f6.length d.f6 → d.f6.length ≤ c7 → Calls Tryz.prog 25 #[.agg #[.int .i64 d.f0, .string d.f1, .int .i64 d.f2.f0, .int .i64 d.f2.f1, .slice A4 d.f3.length c4, .slice A5 d.f4.length c5, .slice A6 d.f5.length c6, .slice A7 d.f6.length c7]] w' fun e w'' => e = .returned (.bool (G d)) ∧ Below w'.heap.size w' w'') :
    Calls Tryz.prog 40 #[.slice A n c, .func (.func 25) #[] #[]] w fun e w' => e = .returned (.int .i64 (firstG G l 0)) ∧ Below w.heap.size w w' := by
  have HC := Aside0.mk hC
  have HP := Aside0.mk hp
  have HLN := Aside0.mk (Kd.C_len hC)
  have HB0 := Aside0.mk (Below.refl w.heap.size w)
  clear hC hp
  go_enter Tryz.func40, Tryz.ntmps40
  go_wp2_with fail
  go_loopw [8] (fun v8 wr => ∃ i : Int, 0 ≤ i ∧ i ≤ (n : Int) ∧ v8 = .int .i64 i ∧ Aside0 (Below w.heap.size w wr) ∧ Aside0 (firstG G l 0 = firstG G (l.drop i.toNat) i.toNat)) (fun v8 _ => n - (intOf v8).toNat)
  case atStart => exact ⟨0, by omega, by omega, rfl, HB0, ⟨rfl⟩⟩
  case round =>
    obtain ⟨i, hi0, hil, rfl, HB, HF⟩ := hrel
    by_cases hlt : i < (n : Int)
    · have t1 : decide (i < (n : Int)) = true := decide_eq_true hlt
      obtain ⟨ad, A4, c4, A5, c5, A6, c6, A7, c7, e0, x0, x1, x2, x3, x4, x5, x6, x7, l4, g4, l5, g5, l6, g6, l7, g7⟩ := at_T41 (Kd.C_below HC.out HB.out) i hi0 hlt
      cases e0
      have hjm : i.toNat < l.length := by rw [HLN.out]; omega
      have hrd : rd_T41 l i = l[i.toNat] := by simp [rd_T41, hjm]
      have hmem := List.getElem_mem hjm
      have HD : Aside0 (l.drop i.toNat = l[i.toNat] :: l.drop (i.toNat + 1)) := ⟨List.drop_eq_getElem_cons hjm⟩
      rw [hrd] at x0 x1 x2 x3 x4 x5 x6 x7 l4 g4 l5 g5 l6 g6 l7 g7
      clear hrd
      generalize l[i.toNat] = d at *
      have HCALL := Aside0.mk (HP.out d hmem wr A4 A5 A6 A7 c4 c5 c6 c7 HB.out g4 l4 g5 l5 g6 l6 g7 l7)
      have HMEM := Aside0.mk hmem
      have HFB : Aside0 (firstG G l 0 = if G d = true then i else firstG G (l.drop (i.toNat + 1)) (i.toNat + 1)) := ⟨by rw [HF.out, HD.out, firstG, Int.toNat_of_nonneg hi0]⟩
      clear hmem hjm l4 g4 l5 g5 l6 g6 l7 g7
      go_wp2_with fail
      refine HCALL.out.mono ?_
      rintro e w2 ⟨rfl, hb⟩
      have HB2 := Aside0.mk (below_step HB.out hb)
      clear hb HCALL HF
      generalize G d = b at *
      cases b with
      | true =>
        rw [if_pos rfl] at HFB
        go_wp2_with fail
        go_ret
        exact ⟨congrArg (fun b => Ending.returned (Value.int .i64 b)) HFB.out.symm, HB2.out⟩
      | false =>
        rw [if_neg (by decide)] at HFB
        go_wp2_with fail
        go_roundw
        case rel => exact ⟨i + 1, by omega, by omega, rfl, HB2, ⟨by rw [HFB.out, show (i + 1).toNat = i.toNat + 1 by omega]⟩⟩
        case measure => simp [intOf]; omega
    · have t1 : decide (i < (n : Int)) = false := decide_eq_false hlt
      have HV : Aside0 (firstG G l 0 = -1) := ⟨by rw [HF.out, List.drop_eq_nil_of_le (by rw [HLN.out]; omega), firstG]⟩
      go_wp2_with fail
      go_ret
      exact ⟨congrArg (fun b => Ending.returned (Value.int .i64 b)) HV.out.symm, HB.out⟩
set_option maxHeartbeats 4000000 in
set_option maxRecDepth 100000 in
theorem any_F1.calls (G : S41 → Bool) (A : Option Addr) (n c : Nat) (l : List S41) (w : World) (hC : Kd.C k41 w A n l) (hn : n ≤ 1000000000)
    (hp : ∀ d ∈ l, ∀ (w' : World) (A4 A5 A6 A7 : Option Addr) (c4 c5 c6 c7 : Nat), Below w.heap.size w w' → Kd.C k62 w' A4 d.f3.length d.f3 → d.f3.length ≤ c4 → Kd.C k36 w' A5 d.f4.length d.f4 → d.f4.length ≤ c5 → Kd.C k66 w' A6 d.f5.length d.f5 → d.f5.length ≤ c6 → Kd.C k41 w' A7 d.f6.length d.f6 → d.f6.length ≤ c7 → Calls Tryz.prog 25 #[.agg #[.int .i64 d.f0, .string d.f1, .int .i64 d.f2.f0, .int .i64 d.f2.f1, .slice A4 d.f3.length c4, .slice A5 d.f4.length c5, .slice A6 d.f5.length c6, .slice A7 d.f6.length c7]] w' fun e w'' => e = .returned (.bool (G d)) ∧ Below w'.heap.size w' w'') :
    Calls Tryz.prog 24 #[.slice A n c, .func (.func 25) #[] #[]] w fun e w' => e = .returned (.bool (l.any G)) ∧ Below w.heap.size w w' := by
  have HI := Aside0.mk (idx_F1.calls G A n c l w hC hn hp)
  clear hC hp
  go_enter Tryz.func24, Tryz.ntmps24
  go_wp2_with fail
  refine HI.out.mono ?_
  rintro e w2 ⟨rfl, hb⟩
  have HB := Aside0.mk hb
  have hf := firstG_ge G l 0
  clear hb HI
  generalize firstG G l 0 = x at *
  obtain ⟨b, hgb⟩ : ∃ b, l.any G = b := ⟨_, rfl⟩
  rw [hgb] at hf
  have HG := Aside0.mk hgb
  clear hgb
  cases b with
  | false =>
    have hf2 : decide (0 ≤ x) = false := hf
    clear hf
    go_wp2_with fail
    go_ret
    exact ⟨congrArg (fun b => Ending.returned (Value.bool b)) HG.out.symm, HB.out⟩
  | true =>
    have hf2 : decide (0 ≤ x) = true := hf
    clear hf
    go_wp2_with fail
    go_ret
    exact ⟨congrArg (fun b => Ending.returned (Value.bool b)) HG.out.symm, HB.out⟩
set_option maxHeartbeats 4000000 in
set_option maxRecDepth 100000 in
theorem idx_f4.calls (G : S41 → Bool) (bd : Nat) (A : Option Addr) (n c : Nat) (l : List S41) (w : World) (hC : Kd.C k41 w A n l) (hn : n ≤ 1000000000)
    (hp : ∀ d ∈ l, ∀ (w' : World) (A4 A5 A6 A7 : Option Addr) (c4 c5 c6 c7 : Nat), Below w.heap.size w w' → Kd.C k62 w' A4 d.f3.length d.f3 → d.f3.length ≤ c4 → Kd.C k36 w' A5 d.f4.length d.f4 → d.f4.length ≤ c5 → Kd.C k66 w' A6 d.f5.length d.f5 → d.f5.length ≤ c6 → Kd.C k41 w' A7 d.f6.length d.f6 → d.f6.length ≤ c7 → Calls Tryz.prog 52 #[.agg #[.int .i64 d.f0, .string d.f1, .int .i64 d.f2.f0, .int .i64 d.f2.f1, .slice A4 d.f3.length c4, .slice A5 d.f4.length c5, .slice A6 d.f5.length c6, .slice A7 d.f6.length c7], .pointer (some ⟨bd, 0, none⟩)] w' fun e w'' => e = .returned (.bool (G d)) ∧ Below w'.heap.size w' w'') :
    Calls Tryz.prog 40 #[.slice A n c, .func (.func 52) #[] #[.pointer (some ⟨bd, 0, none⟩)]] w fun e w' => e = .returned (.int .i64 (firstG G l 0)) ∧ Below w.heap.size w w' := by
  have HC := Aside0.mk hC
  have HP := Aside0.mk hp
  have HLN := Aside0.mk (Kd.C_len hC)
  have HB0 := Aside0.mk (Below.refl w.heap.size w)
  clear hC hp
  go_enter Tryz.func40, Tryz.ntmps40
  go_wp2_with fail
  go_loopw [8] (fun v8 wr => ∃ i : Int, 0 ≤ i ∧ i ≤ (n : Int) ∧ v8 = .int .i64 i ∧ Aside0 (Below w.heap.size w wr) ∧ Aside0 (firstG G l 0 = firstG G (l.drop i.toNat) i.toNat)) (fun v8 _ => n - (intOf v8).toNat)
  case atStart => exact ⟨0, by omega, by omega, rfl, HB0, ⟨rfl⟩⟩
  case round =>
    obtain ⟨i, hi0, hil, rfl, HB, HF⟩ := hrel
    by_cases hlt : i < (n : Int)
    · have t1 : decide (i < (n : Int)) = true := decide_eq_true hlt
      obtain ⟨ad, A4, c4, A5, c5, A6, c6, A7, c7, e0, x0, x1, x2, x3, x4, x5, x6, x7, l4, g4, l5, g5, l6, g6, l7, g7⟩ := at_T41 (Kd.C_below HC.out HB.out) i hi0 hlt
      cases e0
      have hjm : i.toNat < l.length := by rw [HLN.out]; omega
      have hrd : rd_T41 l i = l[i.toNat] := by simp [rd_T41, hjm]
      have hmem := List.getElem_mem hjm
      have HD : Aside0 (l.drop i.toNat = l[i.toNat] :: l.drop (i.toNat + 1)) := ⟨List.drop_eq_getElem_cons hjm⟩
      rw [hrd] at x0 x1 x2 x3 x4 x5 x6 x7 l4 g4 l5 g5 l6 g6 l7 g7
      clear hrd
      generalize l[i.toNat] = d at *
      have HCALL := Aside0.mk (HP.out d hmem wr A4 A5 A6 A7 c4 c5 c6 c7 HB.out g4 l4 g5 l5 g6 l6 g7 l7)
      have HMEM := Aside0.mk hmem
      have HFB : Aside0 (firstG G l 0 = if G d = true then i else firstG G (l.drop (i.toNat + 1)) (i.toNat + 1)) := ⟨by rw [HF.out, HD.out, firstG, Int.toNat_of_nonneg hi0]⟩
      clear hmem hjm l4 g4 l5 g5 l6 g6 l7 g7
      go_wp2_with fail
      refine HCALL.out.mono ?_
      rintro e w2 ⟨rfl, hb⟩
      have HB2 := Aside0.mk (below_step HB.out hb)
      clear hb HCALL HF
      generalize G d = b at *
      cases b with
      | true =>
        rw [if_pos rfl] at HFB
        go_wp2_with fail
        go_ret
        exact ⟨congrArg (fun b => Ending.returned (Value.int .i64 b)) HFB.out.symm, HB2.out⟩
      | false =>
        rw [if_neg (by decide)] at HFB
        go_wp2_with fail
        go_roundw
        case rel => exact ⟨i + 1, by omega, by omega, rfl, HB2, ⟨by rw [HFB.out, show (i + 1).toNat = i.toNat + 1 by omega]⟩⟩
        case measure => simp [intOf]; omega
    · have t1 : decide (i < (n : Int)) = false := decide_eq_false hlt
      have HV : Aside0 (firstG G l 0 = -1) := ⟨by rw [HF.out, List.drop_eq_nil_of_le (by rw [HLN.out]; omega), firstG]⟩
      go_wp2_with fail
      go_ret
      exact ⟨congrArg (fun b => Ending.returned (Value.int .i64 b)) HV.out.symm, HB.out⟩
set_option maxHeartbeats 4000000 in
set_option maxRecDepth 100000 in
theorem any_f4.calls (G : S41 → Bool) (bd : Nat) (A : Option Addr) (n c : Nat) (l : List S41) (w : World) (hC : Kd.C k41 w A n l) (hn : n ≤ 1000000000)
    (hp : ∀ d ∈ l, ∀ (w' : World) (A4 A5 A6 A7 : Option Addr) (c4 c5 c6 c7 : Nat), Below w.heap.size w w' → Kd.C k62 w' A4 d.f3.length d.f3 → d.f3.length ≤ c4 → Kd.C k36 w' A5 d.f4.length d.f4 → d.f4.length ≤ c5 → Kd.C k66 w' A6 d.f5.length d.f5 → d.f5.length ≤ c6 → Kd.C k41 w' A7 d.f6.length d.f6 → d.f6.length ≤ c7 → Calls Tryz.prog 52 #[.agg #[.int .i64 d.f0, .string d.f1, .int .i64 d.f2.f0, .int .i64 d.f2.f1, .slice A4 d.f3.length c4, .slice A5 d.f4.length c5, .slice A6 d.f5.length c6, .slice A7 d.f6.length c7], .pointer (some ⟨bd, 0, none⟩)] w' fun e w'' => e = .returned (.bool (G d)) ∧ Below w'.heap.size w' w'') :
    Calls Tryz.prog 24 #[.slice A n c, .func (.func 52) #[] #[.pointer (some ⟨bd, 0, none⟩)]] w fun e w' => e = .returned (.bool (l.any G)) ∧ Below w.heap.size w w' := by
  have HI := Aside0.mk (idx_f4.calls G bd A n c l w hC hn hp)
  clear hC hp
  go_enter Tryz.func24, Tryz.ntmps24
  go_wp2_with fail
  refine HI.out.mono ?_
  rintro e w2 ⟨rfl, hb⟩
  have HB := Aside0.mk hb
  have hf := firstG_ge G l 0
  clear hb HI
  generalize firstG G l 0 = x at *
  obtain ⟨b, hgb⟩ : ∃ b, l.any G = b := ⟨_, rfl⟩
  rw [hgb] at hf
  have HG := Aside0.mk hgb
  clear hgb
  cases b with
  | false =>
    have hf2 : decide (0 ≤ x) = false := hf
    clear hf
    go_wp2_with fail
    go_ret
    exact ⟨congrArg (fun b => Ending.returned (Value.bool b)) HG.out.symm, HB.out⟩
  | true =>
    have hf2 : decide (0 ≤ x) = true := hf
    clear hf
    go_wp2_with fail
    go_ret
    exact ⟨congrArg (fun b => Ending.returned (Value.bool b)) HG.out.symm, HB.out⟩
end Go.Proofs.YtknbhbppofphpaaGreatDoor.X
