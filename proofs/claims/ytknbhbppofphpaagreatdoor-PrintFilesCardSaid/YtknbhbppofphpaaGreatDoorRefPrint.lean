/- courierref05.Print: what it answers of declarations that Small lets in. -/
import Derived.Test.YtknbhbppofphpaaGreatDoorRefText
import Derived.Test.YtknbhbppofphpaaGreatDoorRefWords
import Derived.Test.YtknbhbppofphpaaGreatDoorPrFileMath
import Derived.LoopTactic
set_option linter.unusedVariables false
set_option linter.unusedSimpArgs false
namespace Go.Proofs.YtknbhbppofphpaaGreatDoor.X
open Go.RowKit Go.Shelf Go.Proofs.YtknbhbppofphpaaGreatDoorW.PrintWords Go.Proofs.YtknbhbppofphpaaGreatDoorW.PrintLast Go.Proofs.YtknbhbppofphpaaGreatDoorW.PrintMore
set_option maxHeartbeats 8000000 in
set_option maxRecDepth 100000 in
theorem refPrint.calls (l : List RD) (A : Option Addr) (c : Nat) (w : World) (hC : Kd.C k60 w A l.length l) (hc : l.length ≤ c) (hsz : szL l ≤ 800) (hT : U8 w) (hP : Pow w) :
    Calls Tryz.prog 10 #[.slice A l.length c] w fun e w' => e = .returned (.tuple #[.string (printV (cvL l)).1, .int .i64 (printV (cvL l)).2]) ∧ Below w.heap.size w w' := by
  have HFO := Aside0.mk (refFormed.calls l A c w hC hc hsz hT)
  have HC := Aside0.mk hC
  have HT := Aside0.mk hT
  have HPW := Aside0.mk hP
  have HZ := Aside0.mk hsz
  have hln : l.length ≤ 800 := by have := len_le_sz l; omega
  obtain ⟨n, hn⟩ : ∃ n, n = l.length := ⟨_, rfl⟩
  rw [← hn] at HFO HC hln ⊢
  have HN := Aside0.mk hn
  have HOK : Aside0 (frmT l = true → okL (l.map cvD) = true) := ⟨fun h => by rw [← cvL_map]; exact formedP_ok (by unfold formedP; rw [formed_ref]; exact h)⟩
  have HV : Aside0 (printV (cvL l) = if frmT l then (if (lexE (fileB (l.map cvD)) != 0) then (⟨#[]⟩, 4) else (fileB (l.map cvD), 0)) else (⟨#[]⟩, 1)) := ⟨by unfold printV formedP; rw [formed_ref, cvL_map]⟩
  have HSP : Aside0 (szP (l.map cvD) ≤ 300000) := ⟨by rw [← cvL_map]; have := szP_cv l; omega⟩
  clear hC hc hsz hT hP hn
  go_enter Tryz.func10, Tryz.ntmps10
  go_wp2_with fail
  refine HFO.out.mono ?_
  rintro e w1 ⟨rfl, hb⟩
  have HB1 := Aside0.mk hb
  clear hb HFO
  generalize frmT l = fo at *
  cases fo with
  | false =>
    rw [if_neg (by decide)] at HV
    go_wp2_with fail
    go_ret2
    exact ⟨congrArg (fun (r : ByteArray × Int) => Ending.returned (Value.tuple #[.string r.1, .int .i64 r.2])) HV.out.symm, HB1.out⟩
  | true =>
  rw [if_pos rfl] at HV
  replace HOK : Aside0 (okL (l.map cvD) = true) := ⟨HOK.out rfl⟩
  have HFL : Aside0 ((fileB (l.map cvD)).size ≤ 1000000000000) := ⟨fileB_le _ HOK.out HSP.out⟩
  go_wp2_with fail
  go_loopw [4, 14] (fun v4 v14 wr => ∃ i : Int, 0 ≤ i ∧ i ≤ (n : Int) ∧ v14 = .int .i64 i ∧ v4 = .string (fileB ((l.map cvD).take i.toNat)) ∧ Aside0 (Below w.heap.size w wr)) (fun v4 v14 _ => n - (intOf v14).toNat)
  case atStart => exact ⟨0, by omega, by omega, rfl, by rw [show (0 : Int).toNat = 0 from rfl, List.take_zero]; rfl, HB1⟩
  case round =>
    obtain ⟨i, hi0, hil, rfl, rfl, HR⟩ := hrel
    have hyz : (fileB ((l.map cvD).take i.toNat)).size ≤ 1000000000000 := Nat.le_trans (fileB_part _ _) HFL.out
    by_cases hlt : i < (n : Int)
    · have t1 : decide (i < (n : Int)) = true := decide_eq_true hlt
      obtain ⟨ad, B4, k4, B5, k5, B6, k6, B7, k7, e0, x0, x1, x2, x3, x4, x5, x6, x7, l4, g4, l5, g5, l6, g6, l7, g7⟩ := at_T60 HC.out i hi0 hlt
      subst e0
      have hbw := HR.out
      replace x0 := (hbw.cell (World.block_lt_of_cell? w _ x0)).trans x0
      replace x1 := (hbw.cell (World.block_lt_of_cell? w _ x1)).trans x1
      replace x2 := (hbw.cell (World.block_lt_of_cell? w _ x2)).trans x2
      replace x3 := (hbw.cell (World.block_lt_of_cell? w _ x3)).trans x3
      replace x4 := (hbw.cell (World.block_lt_of_cell? w _ x4)).trans x4
      replace x5 := (hbw.cell (World.block_lt_of_cell? w _ x5)).trans x5
      replace x6 := (hbw.cell (World.block_lt_of_cell? w _ x6)).trans x6
      replace x7 := (hbw.cell (World.block_lt_of_cell? w _ x7)).trans x7
      have hjm : i.toNat < l.length := by rw [← HN.out]; omega
      have hrd : rd_T60 l i = l[i.toNat] := by simp [rd_T60, hjm]
      have hmem := List.getElem_mem hjm
      rw [hrd] at x0 x1 x2 x3 x4 x5 x6 x7 l4 g4 l5 g5 l6 g6 l7 g7
      have HTK : Aside0 (fileB ((l.map cvD).take (i + 1).toNat) = fileB ((l.map cvD).take i.toNat) ++ sepB i.toNat ++ declL [cvD l[i.toNat]] 0) := ⟨by rw [show (i + 1).toNat = i.toNat + 1 by omega, fileB_take (l.map cvD) i.toNat (by rw [List.length_map]; exact hjm), List.getElem_map]⟩
      have hle := fileB_part (l.map cvD) (i + 1).toNat
      have HF1 : Aside0 (szL [l[i.toNat]] ≤ 800) := ⟨Nat.le_trans (szL_mem hmem) HZ.out⟩
      have HF2 : Aside0 (okL (cvL [l[i.toNat]]) = true) := ⟨by rw [cvL_one]; exact okL_mem HOK.out _ (List.mem_map_of_mem hmem)⟩
      clear hrd hmem hbw
      generalize l[i.toNat] = f at *
      rw [HTK.out, ByteArray.size_append, ByteArray.size_append] at hle
      have HSZ : Aside0 ((fileB ((l.map cvD).take i.toNat)).size + (sepB i.toNat).size + (declL [cvD f] 0).size ≤ 1000000000000) := ⟨Nat.le_trans hle HFL.out⟩
      have HG4 := Aside0.mk (Kd.C_below g4 HR.out)
      have HG5 := Aside0.mk (Kd.C_below g5 HR.out)
      have HG6 := Aside0.mk (Kd.C_below g6 HR.out)
      have HG7 := Aside0.mk (Kd.C_below g7 HR.out)
      clear hle hjm l4 g4 l5 g5 l6 g6 l7 g7
      obtain ⟨Y, hY⟩ : ∃ Y, Y = fileB ((l.map cvD).take i.toNat) := ⟨_, rfl⟩
      rw [← hY] at hyz HTK HSZ ⊢
      clear hY
      obtain ⟨D, hD⟩ : ∃ D, D = declL (cvL [f]) 0 := ⟨_, rfl⟩
      have hdz : D.size ≤ 1000000000000 := by have := HSZ.out; rw [hD, cvL_one]; omega
      have HCALL : Aside0 (Calls Tryz.prog 22 #[.agg #[.int .i64 f.f0, .string f.f1, .int .i64 f.f2.f0, .int .i64 f.f2.f1, .slice B4 f.f3.length k4, .slice B5 f.f4.length k5, .slice B6 f.f5.length k6, .slice B7 f.f6.length k7], .string { data := #[] }] wr fun e w' => e = .returned (.string D) ∧ Below wr.heap.size wr w') := ⟨by
        rw [hD]
        exact rtext.calls (szL [f]) f B4 B5 B6 B7 k4 k5 k6 k7 0 wr (Nat.le_refl _) HF1.out HF2.out (by have := HF1.out; omega) (by have := HSZ.out; rw [cvL_one]; omega) (Pow.below HPW.out HR.out) HG4.out HG5.out HG6.out HG7.out⟩
      rw [← cvL_one, ← hD] at HTK
      clear hD HSZ
      by_cases hp0 : 0 < i
      · have t2 : decide (0 < i) = true := decide_eq_true hp0
        have HSEP : Aside0 (sepB i.toNat = ⟨#[10]⟩) := ⟨if_pos (by omega)⟩
        rw [HSEP.out] at HTK
        go_wp2_with fail
        refine HCALL.out.mono ?_
        rintro e w4 ⟨rfl, hb4⟩
        have HB4 := Aside0.mk (below_step HR.out hb4)
        clear hb4 HCALL x0 x1 x2 x3 x4 x5 x6 x7
        go_wp2_with fail
        go_roundw
        case rel => exact ⟨i + 1, by omega, by omega, rfl, by rw [HTK.out], HB4⟩
        case measure => simp [intOf]; omega
      · have t2 : decide (0 < i) = false := decide_eq_false hp0
        have HSEP : Aside0 (sepB i.toNat = ⟨#[]⟩) := ⟨if_neg (by omega)⟩
        rw [HSEP.out, app_nil] at HTK
        go_wp2_with fail
        refine HCALL.out.mono ?_
        rintro e w4 ⟨rfl, hb4⟩
        have HB4 := Aside0.mk (below_step HR.out hb4)
        clear hb4 HCALL x0 x1 x2 x3 x4 x5 x6 x7
        go_wp2_with fail
        go_roundw
        case rel => exact ⟨i + 1, by omega, by omega, rfl, by rw [HTK.out], HB4⟩
        case measure => simp [intOf]; omega
    · have t1 : decide (i < (n : Int)) = false := decide_eq_false hlt
      have htk : (l.map cvD).take i.toNat = l.map cvD := List.take_of_length_le (by rw [List.length_map, ← HN.out]; omega)
      rw [htk] at hyz ⊢
      clear htk hlt
      obtain ⟨Y, hY⟩ : ∃ Y, Y = fileB (l.map cvD) := ⟨_, rfl⟩
      rw [← hY] at hyz HV ⊢
      clear hY
      go_wp2_with fail
      refine (courierref03_Words.calls Y wr (Utf8Tabs_below HT.out HR.out)).mono ?_
      rintro e w6 ⟨v, rfl, _, _, hb6⟩
      have HB6 := Aside0.mk (below_step HR.out hb6)
      clear hb6
      have HLE : Aside0 (lexE Y = (refWords Y).2.2.2) := ⟨by unfold lexE; rw [wordsP_ref]⟩
      obtain ⟨E, hE⟩ : ∃ E, E = (refWords Y).2.2.2 := ⟨_, rfl⟩
      obtain ⟨Q1, hQ1⟩ : ∃ E, E = (refWords Y).2.1 := ⟨_, rfl⟩
      obtain ⟨Q2, hQ2⟩ : ∃ E, E = (refWords Y).2.2.1 := ⟨_, rfl⟩
      rw [← hE, ← hQ1, ← hQ2]
      rw [HLE.out, ← hE] at HV
      clear hE hQ1 hQ2 HLE
      obtain ⟨bE, hbE⟩ : ∃ b, (E != 0) = b := ⟨_, rfl⟩
      rw [hbE] at HV
      cases bE with
      | true =>
        rw [if_pos rfl] at HV
        go_wp2_with fail
        go_ret2
        exact ⟨congrArg (fun (r : ByteArray × Int) => Ending.returned (Value.tuple #[.string r.1, .int .i64 r.2])) HV.out.symm, below_alloc HB6.out _⟩
      | false =>
        rw [if_neg (by decide)] at HV
        go_wp2_with fail
        go_ret2
        exact ⟨congrArg (fun (r : ByteArray × Int) => Ending.returned (Value.tuple #[.string r.1, .int .i64 r.2])) HV.out.symm, below_alloc HB6.out _⟩
end Go.Proofs.YtknbhbppofphpaaGreatDoor.X
