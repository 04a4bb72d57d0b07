/- Plain names, paths: what the program's and the reference's functions answer. -/
import Derived.Test.YtknbhbppofphpaaGreatDoorXA
import Derived.Test.YtknbhbppofphpaaGreatDoorPathMath
import Derived.Test.YtknbhbppofphpaaGreatDoorRefName
import Derived.Test.YtknbhbppofphpaaGreatDoorRefReserved
set_option linter.unusedVariables false
set_option linter.unusedSimpArgs false
namespace Go.Proofs.YtknbhbppofphpaaGreatDoor.X
open Go.RowKit Go.Shelf Go.Proofs.YtknbhbppofphpaaGreatDoorW.PrintWords Go.Proofs.YtknbhbppofphpaaGreatDoorW.PrintLast Go.Proofs.YtknbhbppofphpaaGreatDoorW.PrintMore
set_option maxHeartbeats 4000000 in
set_option maxRecDepth 100000 in
theorem ident_Plain.calls (s : ByteArray) (w : World) (hs : s.size ≤ 4611686018427387904) :
    Calls Tryz.prog 41 #[.string s] w fun e w' => e = .returned (.bool (plainV s)) ∧ Below w.heap.size w w' := by
  go_enter Tryz.func41, Tryz.ntmps41
  go_wp2_with fail
  refine (ident_Name.calls s _ hs).mono ?_
  rintro e w1 ⟨rfl, hb⟩
  have HB := Aside0.mk hb
  clear hb
  have HP : Aside0 (plainV s = (nameV (runesOf s) && !resV s)) := ⟨rfl⟩
  cases hn : nameV (runesOf s) with
  | false =>
    rw [hn, Bool.false_and] at HP
    clear hn
    go_wp2_with fail
    go_ret
    exact ⟨congrArg (fun b => Ending.returned (Value.bool b)) HP.out.symm, HB.out⟩
  | true =>
    rw [hn, Bool.true_and] at HP
    clear hn
    go_wp2_with fail
    refine (ident_Reserved.calls s _).mono ?_
    rintro e w2 ⟨rfl, hb⟩
    have HB2 := Aside0.mk (below_step HB.out hb)
    clear hb
    cases hr : resV s with
    | false =>
      rw [hr] at HP
      clear hr
      go_wp2_with fail
      go_ret
      exact ⟨congrArg (fun b => Ending.returned (Value.bool b)) HP.out.symm, HB2.out⟩
    | true =>
      rw [hr] at HP
      clear hr
      go_wp2_with fail
      go_ret
      exact ⟨congrArg (fun b => Ending.returned (Value.bool b)) HP.out.symm, HB2.out⟩
set_option maxHeartbeats 4000000 in
set_option maxRecDepth 100000 in
theorem courierref03_Plain.calls (s : ByteArray) (w : World) (hs : s.size ≤ 70368744177664) (hT : Lib.Utf8Tabs (Tryz.lays196_ren.g 3) (Tryz.lays196_ren.g 4) w) :
    Calls Tryz.prog 53 #[.string s] w fun e w' => e = .returned (.bool (plainV s)) ∧ Below w.heap.size w w' := by
  go_enter Tryz.func53, Tryz.ntmps53
  go_wp2_with fail
  refine (courierref03_Name.calls s _ hs hT).mono ?_
  rintro e w1 ⟨rfl, hb⟩
  have HB := Aside0.mk hb
  clear hb hT
  have HP : Aside0 (plainV s = (nameV (runesOf s) && !resV s)) := ⟨rfl⟩
  cases hn : nameV (runesOf s) with
  | false =>
    rw [hn, Bool.false_and] at HP
    clear hn
    go_wp2_with fail
    go_ret
    exact ⟨congrArg (fun b => Ending.returned (Value.bool b)) HP.out.symm, HB.out⟩
  | true =>
    rw [hn, Bool.true_and] at HP
    clear hn
    go_wp2_with fail
    refine (courierref03_Reserved.calls s (resV s) _ (refReserved_f s)).mono ?_
    rintro e w' ⟨rfl, ⟨nd, rfl⟩⟩
    cases hr : resV s with
    | false =>
      rw [hr] at HP
      clear hr
      go_wp2_with fail
      go_ret
      exact ⟨congrArg (fun b => Ending.returned (Value.bool b)) HP.out.symm, pw_below_drewN HB.out _⟩
    | true =>
      rw [hr] at HP
      clear hr
      go_wp2_with fail
      go_ret
      exact ⟨congrArg (fun b => Ending.returned (Value.bool b)) HP.out.symm, pw_below_drewN HB.out _⟩
set_option maxHeartbeats 4000000 in
set_option maxRecDepth 100000 in
theorem ident_Path1.calls (s : ByteArray) (w : World) (hs : s.size ≤ 4611686018427387904) :
    Calls Tryz.prog 87 #[.string s] w fun e w' => e = .returned (.bool (!plainV s)) ∧ Below w.heap.size w w' := by
  go_enter Tryz.func87, Tryz.ntmps87
  go_wp2_with fail
  refine (ident_Plain.calls s _ hs).mono ?_
  rintro e w1 ⟨rfl, hb⟩
  have HB := Aside0.mk hb
  clear hb
  obtain ⟨b, hpb⟩ : ∃ b, plainV s = b := ⟨_, rfl⟩
  rw [hpb]
  have HP := Aside0.mk hpb
  clear hpb
  cases b with
  | false =>
    go_wp2_with fail
    go_ret
    exact ⟨congrArg (fun b => Ending.returned (Value.bool b)) (by rw [HP.out]; rfl), HB.out⟩
  | true =>
    go_wp2_with fail
    go_ret
    exact ⟨congrArg (fun b => Ending.returned (Value.bool b)) (by rw [HP.out]; rfl), HB.out⟩
/-- slices.IndexFunc with Path's own test: is there one that is not plain? -/
def firstBad : List ByteArray → Nat → Int
  | [], _ => -1
  | p :: ps, i => if plainV p = true then firstBad ps (i + 1) else (i : Int)
theorem firstBad_ge : ∀ (ps : List ByteArray) (i : Nat), decide (0 ≤ firstBad ps i) = !ps.all plainV
  | [], _ => rfl
  | p :: ps, i => by
    unfold firstBad
    by_cases h : plainV p = true
    · rw [if_pos h, firstBad_ge ps (i + 1), List.all_cons, h, Bool.true_and]
    · rw [if_neg h, List.all_cons, Bool.eq_false_iff.mpr h, Bool.false_and, decide_eq_true (by omega)]; rfl
set_option maxHeartbeats 4000000 in
set_option maxRecDepth 100000 in
theorem ident_IndexFunc.calls (A : Option Addr) (n c : Nat) (ps : List ByteArray) (w : World) (hC : Kd.C Kd.string w A n ps) (hn : n ≤ 1000000000) (hsz : ∀ p ∈ ps, p.size ≤ 4611686018427387904) :
    Calls Tryz.prog 98 #[.slice A n c, .func (.func 87) #[] #[]] w fun e w' => e = .returned (.int .i64 (firstBad ps 0)) ∧ Below w.heap.size w w' := by
  have HC := Aside0.mk hC
  have HSZ := Aside0.mk hsz
  have HLN := Aside0.mk (Kd.C_len hC)
  have HB0 := Aside0.mk (Below.refl w.heap.size w)
  clear hC hsz
  go_enter Tryz.func98, Tryz.ntmps98
  go_wp2_with fail
  go_loopw [8] (fun v8 wr => ∃ j : Nat, j ≤ n ∧ v8 = .int .i64 j ∧ Aside0 (Below w.heap.size w wr) ∧ Aside0 (firstBad ps 0 = firstBad (ps.drop j) j)) (fun v8 _ => n - (intOf v8).toNat)
  case atStart => exact ⟨0, by omega, rfl, HB0, ⟨by rw [List.drop_zero]⟩⟩
  case round =>
    obtain ⟨j, hj, rfl, HB, HF⟩ := hrel
    by_cases hlt : j < n
    · have t1 : decide (j < n) = true := decide_eq_true hlt
      obtain ⟨ad, hA, hcell⟩ := Kd.at_string (Kd.C_below HC.out HB.out) (j : Int) (by omega) (by omega)
      subst hA
      have hjm : j < ps.length := by rw [HLN.out]; exact hlt
      have hrd : rdOf ByteArray.empty ps (j : Int) = ps[j]'hjm := by simp [rdOf, hjm]
      rw [hrd, Int.toNat_natCast] at hcell
      have HD : Aside0 (ps.drop j = ps[j]'hjm :: ps.drop (j + 1)) := ⟨List.drop_eq_getElem_cons hjm⟩
      have hz := HSZ.out _ (List.getElem_mem hjm)
      generalize ps[j]'hjm = p at hcell HD hz
      clear hrd
      go_wp2_with fail
      refine (ident_Path1.calls p _ hz).mono ?_
      rintro e w2 ⟨rfl, hb⟩
      have HB2 := Aside0.mk (below_step HB.out hb)
      clear hb
      have HFB : Aside0 (firstBad ps 0 = if plainV p = true then firstBad (ps.drop (j + 1)) (j + 1) else (j : Int)) := ⟨by rw [HF.out, HD.out, firstBad]⟩
      generalize plainV p = b at *
      cases b with
      | false =>
        rw [if_neg (by decide)] at HFB
        go_wp2_with fail
        go_ret
        exact ⟨congrArg (fun b => Ending.returned (Value.int .i64 b)) HFB.out.symm, HB2.out⟩
      | true =>
        rw [if_pos rfl] at HFB
        go_wp2_with fail
        go_roundw
        case rel => exact ⟨j + 1, by omega, by go_num, HB2, HFB⟩
        case measure => simp [intOf]; omega
    · have t1 : decide (j < n) = false := decide_eq_false hlt
      have HV : Aside0 (firstBad ps 0 = -1) := ⟨by rw [HF.out, List.drop_eq_nil_of_le (by rw [HLN.out]; omega), firstBad]⟩
      go_wp2_with fail
      go_ret
      exact ⟨congrArg (fun b => Ending.returned (Value.int .i64 b)) HV.out.symm, HB.out⟩
set_option maxHeartbeats 4000000 in
set_option maxRecDepth 100000 in
theorem ident_ContainsFunc.calls (A : Option Addr) (n c : Nat) (ps : List ByteArray) (w : World) (hC : Kd.C Kd.string w A n ps) (hn : n ≤ 1000000000) (hsz : ∀ p ∈ ps, p.size ≤ 4611686018427387904) :
    Calls Tryz.prog 86 #[.slice A n c, .func (.func 87) #[] #[]] w fun e w' => e = .returned (.bool (!ps.all plainV)) ∧ Below w.heap.size w w' := by
  go_enter Tryz.func86, Tryz.ntmps86
  go_wp2_with fail
  refine (ident_IndexFunc.calls A n c ps _ hC hn hsz).mono ?_
  rintro e w2 ⟨rfl, hb⟩
  have HB := Aside0.mk hb
  have hf := firstBad_ge ps 0
  clear hb hC hsz
  obtain ⟨b, hpb⟩ : ∃ b, ps.all plainV = b := ⟨_, rfl⟩
  rw [hpb] at hf
  have HP := Aside0.mk hpb
  clear hpb
  generalize firstBad ps 0 = x at *
  cases b with
  | false =>
    have hf2 : decide (0 ≤ x) = true := hf
    clear hf
    go_wp2_with fail
    go_ret
    exact ⟨congrArg (fun b => Ending.returned (Value.bool b)) (by rw [HP.out]; rfl), HB.out⟩
  | true =>
    have hf2 : decide (0 ≤ x) = false := hf
    clear hf
    go_wp2_with fail
    go_ret
    exact ⟨congrArg (fun b => Ending.returned (Value.bool b)) (by rw [HP.out]; rfl), HB.out⟩
theorem pieces_small (s : ByteArray) : (piecesL s.data.toList).length ≤ s.size + 1 ∧ ∀ p ∈ (piecesL s.data.toList).map txt8, p.size ≤ s.size := by
  have h : ∀ l : List UInt8, (piecesL l).length ≤ l.length + 1 ∧ ∀ p ∈ piecesL l, p.length ≤ l.length := by
    intro l
    induction l with
    | nil => simp [piecesL]
    | cons c l ih =>
      unfold piecesL
      by_cases hc : c = 46
      · rw [if_pos hc]
        refine ⟨by simp; omega, fun p hp => ?_⟩
        rcases List.mem_cons.mp hp with rfl | hp
        · simp
        · have := ih.2 p hp
          rw [List.length_cons]; omega
      · rw [if_neg hc]
        have hne := piecesL_ne l
        generalize piecesL l = ps at *
        cases ps with
        | nil => exact absurd rfl hne
        | cons q qs =>
          refine ⟨by simp [consHead] at *; omega, fun p hp => ?_⟩
          rcases List.mem_cons.mp hp with rfl | hp
          · have := ih.2 q List.mem_cons_self
            rw [List.length_cons, List.length_cons]; omega
          · have := ih.2 p (List.mem_cons_of_mem _ hp)
            rw [List.length_cons]; omega
  have h1 := h s.data.toList
  rw [data_length] at h1
  refine ⟨h1.1, fun p hp => ?_⟩
  obtain ⟨q, hq, rfl⟩ := List.mem_map.mp hp
  rw [txt8_size]
  exact h1.2 q hq
theorem strs_C {W : World} (ps : List ByteArray) (h : ps.length ≤ 9223372036854775807) : Kd.C Kd.string (W.alloc (.cells (ps.map Value.string).toArray 9)) (some ⟨W.heap.size, 0, none⟩) ps.length ps := by
  refine Kd.C_of_reads (enc := Value.string) (d := ByteArray.empty) ⟨rfl, h, fun _ => ⟨⟨W.heap.size, 0, none⟩, rfl, fun j hj => ?_⟩⟩
  have h3 : (Addr.add ⟨W.heap.size, 0, none⟩ j) = ⟨W.heap.size, j, none⟩ := by simp [Addr.add]; intro h; omega
  rw [h3]
  refine (blk_cell (heap_alloc_new W _) j).trans ?_
  simp [hj, List.getD_eq_getElem?_getD]
def PathPost (s : ByteArray) (w : World) (e : Ending) (w' : World) : Prop := ∃ A c, e = .returned (.tuple #[.slice A (pathL s).length c, .bool (pathOk s)]) ∧ Kd.C Kd.string w' A (pathL s).length (pathL s) ∧ (pathL s).length ≤ c ∧ Below w.heap.size w w'
set_option maxHeartbeats 4000000 in
set_option maxRecDepth 100000 in
theorem ident_Path.calls (s : ByteArray) (m : Int) (w : World) (hs : s.size ≤ 1000000) (hm : w.cell? ⟨3, 0, none⟩ = some (.int .i64 m)) :
    Calls Tryz.prog 69 #[.string s] w (PathPost s w) := by
  go_enter Tryz.func69, Tryz.ntmps69
  go_wp2_with fail
  refine (Tryz.strings_Split s ⟨#[46]⟩ m w (by omega) hm (by decide)).mono ?_
  rintro e w' ⟨rfl, rfl⟩
  have hb := split_bytes s
  have hsm := pieces_small s
  rw [hb.1]
  obtain ⟨ps, hps⟩ : ∃ ps, ps = (piecesL s.data.toList).map txt8 := ⟨_, rfl⟩
  rw [← hps] at hsm ⊢
  have hl : Lib.countB s ⟨#[46]⟩ + 1 = ps.length := by rw [hps, List.length_map, hb.2]
  have hl2 : (piecesL s.data.toList).length = ps.length := by rw [hps, List.length_map]
  rw [hl]
  rw [hl2] at hsm
  have HC := Aside0.mk (strs_C (W := w) ps (by omega))
  have HB0 : Aside0 (Below w.heap.size w (w.alloc (.cells (ps.map Value.string).toArray 9))) := ⟨below_alloc (Below.refl _ _) _⟩
  have HO : Aside0 (pathOk s = (decide (ps.length ≤ 8) && ps.all plainV)) := ⟨by unfold pathOk; rw [hl2, ← hps]⟩
  have HPL : Aside0 (pathL s = if pathOk s = true then ps else []) := ⟨by unfold pathL; rw [← hps]⟩
  have HSM := Aside0.mk hsm.2
  have hn1 := hsm.1
  obtain ⟨n, hn⟩ : ∃ n, n = ps.length := ⟨_, rfl⟩
  rw [← hn] at hn1 HC HO ⊢
  have HN := Aside0.mk hn
  obtain ⟨W, hW⟩ : ∃ W, W = w.alloc (.cells (ps.map Value.string).toArray 9) := ⟨_, rfl⟩
  rw [← hW] at HC HB0 ⊢
  clear hb hsm hps hl hl2 hn hW hm
  by_cases h8 : n ≤ 8
  rotate_left
  · have t8 : decide (8 < (n : Int)) = true := decide_eq_true (by omega)
    rw [decide_eq_false h8, Bool.false_and] at HO
    rw [HO.out, if_neg (by decide)] at HPL
    go_wp2_with fail
    go_ret2
    rw [PathPost, HPL.out, HO.out]
    exact ⟨none, 0, rfl, Kd.C_nil _ _, Nat.le_refl _, HB0.out⟩
  have t8 : decide (8 < (n : Int)) = false := decide_eq_false (by omega)
  rw [decide_eq_true h8, Bool.true_and] at HO
  go_wp2_with fail
  refine (ident_ContainsFunc.calls (some ⟨w.heap.size, 0, none⟩) n n ps _ HC.out (by omega) (fun p hp => by have := HSM.out p hp; omega)).mono ?_
  rintro e w2 ⟨rfl, hb⟩
  have HB2 := Aside0.mk (below_step HB0.out hb)
  have HC2 := Aside0.mk (Kd.C_below HC.out hb)
  clear hb
  generalize ps.all plainV = b at *
  cases b with
  | false =>
    rw [HO.out, if_neg (by decide)] at HPL
    go_wp2_with fail
    go_ret2
    rw [PathPost, HPL.out, HO.out]
    exact ⟨none, 0, rfl, Kd.C_nil _ _, Nat.le_refl _, HB2.out⟩
  | true =>
    rw [HO.out, if_pos rfl] at HPL
    go_wp2_with fail
    go_ret2
    rw [PathPost, HPL.out, HO.out, ← HN.out]
    exact ⟨_, n, rfl, HC2.out, Nat.le_refl _, HB2.out⟩
end Go.Proofs.YtknbhbppofphpaaGreatDoor.X
