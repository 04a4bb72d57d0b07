/- courierref05.text: what it writes of a declaration. Printed by gen_reftext.py. -/
import Derived.Test.YtknbhbppofphpaaGreatDoorPfRef
import Derived.Test.YtknbhbppofphpaaGreatDoorPrDecl0
import Derived.Deep.RegionHeld3
import Derived.Deep.Cut
import Derived.Deep.CutRange
import Derived.Deep.DeepCutAuto
import Derived.LoopTactic
import Derived.BigQuiet
set_option linter.unusedVariables false
set_option linter.unusedSimpArgs false
namespace Go.Proofs.YtknbhbppofphpaaGreatDoor.X
open Go.RowKit Go.Shelf Go.Proofs.YtknbhbppofphpaaGreatDoorW.PrintWords Go.Proofs.YtknbhbppofphpaaGreatDoorW.PrintLast Go.Proofs.YtknbhbppofphpaaGreatDoorW.PrintMore
def cvD : RD → PD
  | ⟨a, b, c, fs, vs, ms, ds⟩ => ⟨a, b, cvP c, fs.map cvF, vs.map cvV, ms.map cvM, cvL ds⟩
theorem cvL_one (d : RD) : cvL [d] = [cvD d] := by obtain ⟨a, b, c, fs, vs, ms, ds⟩ := d; rw [cvL, cvL]; rfl
theorem cvL_map : ∀ l : List RD, cvL l = l.map cvD
  | [] => by rw [cvL]; rfl
  | ⟨a, b, c, fs, vs, ms, ds⟩ :: l => by rw [cvL, List.map_cons, cvL_map l]; rfl
theorem e3 : (⟨#[32, 123, 10]⟩ : ByteArray) = ⟨#[32, 123]⟩ ++ ⟨#[10]⟩ := rfl
theorem e2 : (⟨#[59, 10]⟩ : ByteArray) = ⟨#[59]⟩ ++ ⟨#[10]⟩ := rfl
theorem e4 : (⟨#[41, 59, 10]⟩ : ByteArray) = ⟨#[41, 59]⟩ ++ ⟨#[10]⟩ := rfl
theorem e5 : (⟨#[125, 10]⟩ : ByteArray) = ⟨#[125]⟩ ++ ⟨#[10]⟩ := rfl
theorem head_text (t : Nat) (a : Int) (nm : ByteArray) : tabsB t ++ kindW a ++ ⟨#[32]⟩ ++ nm ++ ⟨#[32, 123, 10]⟩ = lineB t (headLs a nm) := by
  rw [e3]; simp only [lineB, headLs, catB, app_nil, ByteArray.append_assoc]
theorem field_textF (X : ByteArray) (t : Nat) (ty nm : ByteArray) (n : Int) (p : Ps) : X ++ tabsB t ++ ty ++ ⟨#[32]⟩ ++ nm ++ ⟨#[32, 61, 32]⟩ ++ itoaB n ++ ⟨#[59, 10]⟩ = X ++ lineB t (fieldLs (cvF ⟨false, ty, nm, n, p⟩)) := by
  rw [e2]; simp only [lineB, fieldLs, cvF, repW, catB, app_nil, nil_app, ByteArray.append_assoc, Bool.false_eq_true, if_false]
theorem field_textT (X : ByteArray) (t : Nat) (ty nm : ByteArray) (n : Int) (p : Ps) : X ++ tabsB t ++ ⟨#[114, 101, 112, 101, 97, 116, 101, 100, 32]⟩ ++ ty ++ ⟨#[32]⟩ ++ nm ++ ⟨#[32, 61, 32]⟩ ++ itoaB n ++ ⟨#[59, 10]⟩ = X ++ lineB t (fieldLs (cvF ⟨true, ty, nm, n, p⟩)) := by
  rw [e2]; simp only [lineB, fieldLs, cvF, repW, catB, app_nil, nil_app, ByteArray.append_assoc, if_true]
theorem value_text (X : ByteArray) (t : Nat) (nm : ByteArray) (n : Int) (p : Ps) : X ++ tabsB t ++ nm ++ ⟨#[32, 61, 32]⟩ ++ itoaB n ++ ⟨#[59, 10]⟩ = X ++ lineB t (valueLs (cvV ⟨nm, n, p⟩)) := by
  rw [e2]; simp only [lineB, valueLs, cvV, catB, app_nil, nil_app, ByteArray.append_assoc]
theorem method_text (X : ByteArray) (t : Nat) (nm ti tu : ByteArray) (p : Ps) : X ++ tabsB t ++ ⟨#[114, 112, 99, 32]⟩ ++ nm ++ ⟨#[40]⟩ ++ ti ++ ⟨#[41, 32, 114, 101, 116, 117, 114, 110, 115, 32, 40]⟩ ++ tu ++ ⟨#[41, 59, 10]⟩ = X ++ lineB t (methodLs (cvM ⟨nm, ti, tu, p⟩)) := by
  rw [e4]; simp only [lineB, methodLs, cvM, catB, app_nil, nil_app, ByteArray.append_assoc]
theorem end_text (X : ByteArray) (t : Nat) : X ++ tabsB t ++ ⟨#[125, 10]⟩ = X ++ lineB t [⟨#[125]⟩] := by
  rw [e5]; simp only [lineB, catB, app_nil, nil_app, ByteArray.append_assoc]
set_option maxHeartbeats 16000000 in
set_option maxRecDepth 100000 in
theorem rtext.calls : ∀ (n : Nat) (d : RD) (A4 A5 A6 A7 : Option Addr) (c4 c5 c6 c7 : Nat) (t : Nat) (w : World), szL [d] ≤ n → szL [d] ≤ 800 → okL (cvL [d]) = true → t + szL [d] ≤ 1000000 → (declL (cvL [d]) t).size ≤ 140737488355328 → Pow w →
    Kd.C k63 w A4 d.f3.length d.f3 → Kd.C k64 w A5 d.f4.length d.f4 → Kd.C k67 w A6 d.f5.length d.f5 → Kd.C k60 w A7 d.f6.length d.f6 →
    Calls Tryz.prog 22 #[.agg #[.int .i64 d.f0, .string d.f1, .int .i64 d.f2.f0, .int .i64 d.f2.f1, .slice A4 d.f3.length c4, .slice A5 d.f4.length c5, .slice A6 d.f5.length c6, .slice A7 d.f6.length c7], .string (tabsB t)] w fun e w' => e = .returned (.string (declL (cvL [d]) t)) ∧ Below w.heap.size w w' := by
  intro n
  induction n using Nat.strongRecOn with
  | _ n ih =>
  intro d A4 A5 A6 A7 c4 c5 c6 c7 t w hn hsz hok ht hlen hT hC4 hC5 hC6 hC7
  have HE : Aside0 (declL (cvL [d]) t = lineB t (headLs d.f0 d.f1) ++ (fieldsB (d.f3.map cvF) (t + 1) ++ (valuesB (d.f4.map cvV) (t + 1) ++ (methodsB (d.f5.map cvM) (t + 1) ++ (declL (d.f6.map cvD) (t + 1) ++ lineB t [⟨#[125]⟩]))))) := ⟨by rw [cvL_one, declL_one, ← cvL_map]; obtain ⟨a, b, c, fs, vs, ms, ds⟩ := d; rfl⟩
  rw [HE.out] at hlen
  rw [cvL_one] at hok
  obtain ⟨hk13, hnf, hnv, hin⟩ := okL_one hok
  obtain ⟨a, nm, ⟨p0, p1⟩, fs, vs, ms, ds⟩ := d
  have hk1 : 1 ≤ a := hk13.1
  have hk3 : a ≤ 3 := hk13.2
  replace hin : okL (ds.map cvD) = true := by rw [← cvL_map]; exact hin
  replace hnf : ∀ f ∈ fs.map cvF, numV f.f3 = true := hnf
  replace hnv : ∀ f ∈ vs.map cvV, numV f.f1 = true := hnv
  simp only at hC4 hC5 hC6 hC7 HE hlen ⊢
  simp only [ByteArray.size_append] at hlen
  have HL := Aside0.mk hlen
  rw [szL, szL] at hn hsz ht
  have ht6 : t ≤ 1000000 := by omega
  have HTT := Aside0.mk ht
  have HIH := Aside0.mk ih
  have HT := Aside0.mk hT
  have HFN := Aside0.mk hnf
  have HVN := Aside0.mk hnv
  have HIN := Aside0.mk hin
  have HN := Aside0.mk hn
  have HZ := Aside0.mk hsz
  have hnz : nm.size ≤ 1000000 := by omega
  have hlf : fs.length ≤ 800 := by omega
  have hlv : vs.length ≤ 800 := by omega
  have hlm : ms.length ≤ 800 := by omega
  have hld : ds.length ≤ 800 := by have := len_le_sz ds; omega
  clear ih hT hnf hnv hin hn hsz hok hk13 hlen ht
  obtain ⟨nf, hnf⟩ : ∃ nf, nf = fs.length := ⟨_, rfl⟩
  obtain ⟨nv, hnv⟩ : ∃ nv, nv = vs.length := ⟨_, rfl⟩
  obtain ⟨nmm, hnm⟩ : ∃ nmm, nmm = ms.length := ⟨_, rfl⟩
  obtain ⟨nd, hnd⟩ : ∃ nd, nd = ds.length := ⟨_, rfl⟩
  rw [← hnf] at hlf hC4
  rw [← hnv] at hlv hC5
  rw [← hnm] at hlm hC6
  rw [← hnd] at hld hC7
  rw [← hnf, ← hnv, ← hnm, ← hnd]
  have HNF := Aside0.mk hnf
  have HNV := Aside0.mk hnv
  have HNM := Aside0.mk hnm
  have HND := Aside0.mk hnd
  have HC4 := Aside0.mk hC4
  have HC5 := Aside0.mk hC5
  have HC6 := Aside0.mk hC6
  have HC7 := Aside0.mk hC7
  clear hnf hnv hnm hnd hC4 hC5 hC6 hC7
  obtain ⟨TB, hTB⟩ : ∃ TB, TB = tabsB t := ⟨_, rfl⟩
  rw [← hTB]
  have HTB := Aside0.mk hTB
  have htb : TB.size ≤ 1000000 := by rw [hTB, tabsB_size]; exact ht6
  clear hTB
  have HPOW : Aside0 (∀ W, Below w.heap.size w W → Pow W) := ⟨fun W h => Pow.below HT.out h⟩
  go_enter Tryz.func22, Tryz.ntmps22
  go_upto_region 1 with fail
  obtain ⟨W0, hW0⟩ : ∃ W0, W0 = w.alloc (.cells #[.int .i64 a, .string nm, .int .i64 p0, .int .i64 p1, .slice A4 nf c4, .slice A5 nv c5, .slice A6 nmm c6, .slice A7 nd c7] 60) := ⟨_, rfl⟩
  have HB0 : Aside0 (Below w.heap.size w W0) := ⟨by rw [hW0]; exact below_alloc (Below.refl _ _) _⟩
  have HX0 : Aside0 (W0.heap[w.heap.size]? = some (.cells #[.int .i64 a, .string nm, .int .i64 p0, .int .i64 p1, .slice A4 nf c4, .slice A5 nv c5, .slice A6 nmm c6, .slice A7 nd c7] 60 (0, 0))) := ⟨by rw [hW0]; exact blk_new w _⟩
  rw [← hW0]
  clear hW0
  go_cut [5] (fun v5 wx => v5 = .string (TB ++ kindW a ++ ⟨#[32]⟩ ++ nm ++ ⟨#[32, 123, 10]⟩) ∧ Aside0 (Below w.heap.size w wx) ∧ Aside0 (wx.heap[w.heap.size]? = some (.cells #[.int .i64 a, .string nm, .int .i64 p0, .int .i64 p1, .slice A4 nf c4, .slice A5 nv c5, .slice A6 nmm c6, .slice A7 nd c7] 60 (0, 0))))
  case first =>
    have k0 : W0.cell? ⟨w.heap.size, 0, none⟩ = some (.int .i64 a) := blk_cell HX0.out 0
    have k1 : W0.cell? ⟨w.heap.size, 1, none⟩ = some (.string nm) := blk_cell HX0.out 1
    have j0 : ∀ w, (Instr.index 97 (.agg #[.string { data := #[109, 101, 115, 115, 97, 103, 101] }, .string { data := #[101, 110, 117, 109] }, .string { data := #[115, 101, 114, 118, 105, 99, 101] }]) (.int .i64 0)).run Tryz.prog w = .ok (.string { data := #[109, 101, 115, 115, 97, 103, 101] }) w := fun _ => by kernel_rfl
    have j1 : ∀ w, (Instr.index 97 (.agg #[.string { data := #[109, 101, 115, 115, 97, 103, 101] }, .string { data := #[101, 110, 117, 109] }, .string { data := #[115, 101, 114, 118, 105, 99, 101] }]) (.int .i64 1)).run Tryz.prog w = .ok (.string { data := #[101, 110, 117, 109] }) w := fun _ => by kernel_rfl
    have j2 : ∀ w, (Instr.index 97 (.agg #[.string { data := #[109, 101, 115, 115, 97, 103, 101] }, .string { data := #[101, 110, 117, 109] }, .string { data := #[115, 101, 114, 118, 105, 99, 101] }]) (.int .i64 2)).run Tryz.prog w = .ok (.string { data := #[115, 101, 114, 118, 105, 99, 101] }) w := fun _ => by kernel_rfl
    have tw0 : IntKind.i64.wrap 0 = 0 := rfl
    have tw1 : IntKind.i64.wrap 1 = 1 := rfl
    have tw2 : IntKind.i64.wrap 2 = 2 := rfl
    have ha : a = 1 ∨ a = 2 ∨ a = 3 := by omega
    rcases ha with rfl | rfl | rfl
    all_goals
      go_region
      go_wp2_with fail
      go_meet
      case rel => exact ⟨rfl, ⟨pw_below_drewN HB0.out _⟩, ⟨HX0.out⟩⟩
  case rest =>
    obtain ⟨rfl, HB1, HX1⟩ := hcut
    clear HB0 HX0
    have k4 : wc.cell? ⟨w.heap.size, 4, none⟩ = some (.slice A4 nf c4) := blk_cell HX1.out 4
    go_upto_region 3 with fail
    have hx1 : TB ++ kindW a ++ ⟨#[32]⟩ ++ nm ++ ⟨#[32, 123, 10]⟩ = lineB t (headLs a nm) := by rw [HTB.out]; exact head_text t a nm
    have hti : TB ++ ⟨#[9]⟩ = tabsB (t + 1) := by rw [HTB.out]; rfl
    rw [hx1, hti]
    clear hx1 hti
    obtain ⟨X1, hX1⟩ : ∃ X, X = lineB t (headLs a nm) := ⟨_, rfl⟩
    obtain ⟨TI, hTI⟩ : ∃ X, X = tabsB (t + 1) := ⟨_, rfl⟩
    rw [← hX1, ← hTI]
    have htiz : TI.size ≤ 1000001 := by rw [hTI, tabsB_size]; omega
    have HX1S := Aside0.mk hX1
    have HTI := Aside0.mk hTI
    clear hX1 hTI hnz hk1 hk3
    go_wp2_with fail
    clear k4
    go_loopw [5, 30] (fun v5 v30 wr => ∃ i : Int, 0 ≤ i ∧ i ≤ (nf : Int) ∧ v30 = .int .i64 i ∧ v5 = .string (X1 ++ fieldsB ((fs.map cvF).take i.toNat) (t + 1)) ∧ Aside0 (Below w.heap.size w wr) ∧ Aside0 (wr.heap[w.heap.size]? = some (.cells #[.int .i64 a, .string nm, .int .i64 p0, .int .i64 p1, .slice A4 nf c4, .slice A5 nv c5, .slice A6 nmm c6, .slice A7 nd c7] 60 (0, 0)))) (fun v5 v30 _ => nf - (intOf v30).toNat)
    case atStart => exact ⟨0, by omega, by omega, rfl, by rw [show (0 : Int).toNat = 0 from rfl, List.take_zero, show fieldsB [] (t + 1) = ⟨#[]⟩ by first | rfl | rw [declL], app_nil], HB1, HX1⟩
    case round =>
      obtain ⟨i, hi0, hil, rfl, rfl, HR, HXR⟩ := hrel
      have hyz : (X1 ++ fieldsB ((fs.map cvF).take i.toNat) (t + 1)).size ≤ 140737488355328 := by
        have h1 := HL.out
        have h2 := fieldsB_part (fs.map cvF) (t + 1) i.toNat
        rw [HX1S.out]
        simp only [ByteArray.size_append]
        omega
      by_cases hlt : i < (nf : Int)
      · have t1 : decide (i < (nf : Int)) = true := decide_eq_true hlt
        have kk : wr.cell? ⟨w.heap.size, 4, none⟩ = some (.slice A4 nf c4) := blk_cell HXR.out 4
        obtain ⟨ad, e0, x0, x1, x2, x3, x4, x5⟩ := at_T63 HC4.out i hi0 hlt
        subst e0
        replace x0 := (HR.out.cell (World.block_lt_of_cell? w _ x0)).trans x0
        replace x1 := (HR.out.cell (World.block_lt_of_cell? w _ x1)).trans x1
        replace x2 := (HR.out.cell (World.block_lt_of_cell? w _ x2)).trans x2
        replace x3 := (HR.out.cell (World.block_lt_of_cell? w _ x3)).trans x3
        replace x4 := (HR.out.cell (World.block_lt_of_cell? w _ x4)).trans x4
        replace x5 := (HR.out.cell (World.block_lt_of_cell? w _ x5)).trans x5
        have hjm : i.toNat < fs.length := by rw [← HNF.out]; omega
        have hrd : rd_T63 fs i = fs[i.toNat] := by simp [rd_T63, hjm]
        have hmem := List.getElem_mem hjm
        rw [hrd] at x0 x1 x2 x3 x4 x5
        have HTK : Aside0 (fieldsB ((fs.map cvF).take (i + 1).toNat) (t + 1) = fieldsB ((fs.map cvF).take i.toNat) (t + 1) ++ lineB (t + 1) (fieldLs (cvF fs[i.toNat]))) := ⟨by rw [show (i + 1).toNat = i.toNat + 1 by omega, fieldsB_take (fs.map cvF) (t + 1) i.toNat (by rw [List.length_map]; exact hjm), List.getElem_map]⟩
        have HMEM := Aside0.mk hmem
        clear hrd hmem
        generalize fs[i.toNat] = f at *
        obtain ⟨Y, hY⟩ : ∃ Y, Y = X1 ++ fieldsB ((fs.map cvF).take i.toNat) (t + 1) := ⟨_, rfl⟩
        rw [← hY] at hyz ⊢
        have HY := Aside0.mk hY
        clear hY hjm
        have HNUM : Aside0 (numV f.f3 = true) := ⟨HFN.out (cvF f) (List.mem_map_of_mem HMEM.out)⟩
        have hsz := nmF_mem HMEM.out
        obtain ⟨rep, ty, fnm, num, q0, q1⟩ := f
        simp only at x0 x1 x2 x3 x4 x5 HNUM hsz
        have htyz : ty.size ≤ 1000000 := by have := HZ.out; omega
        have hfnz : fnm.size ≤ 1000000 := by have := HZ.out; omega
        have hitz := itoaB_le num HNUM.out
        clear hsz
        cases rep with
        | false =>
          go_upto_region 10 with fail
          obtain ⟨wq, hwq⟩ : ∃ wq, wq = wr.alloc (.cells #[.bool false, .string ty, .string fnm, .int .i64 num, .int .i64 q0, .int .i64 q1] 63) := ⟨_, rfl⟩
          have HBA : Aside0 (Below w.heap.size w wq) := ⟨by rw [hwq]; exact below_alloc HR.out _⟩
          have HXA : Aside0 (wq.heap[w.heap.size]? = some (.cells #[.int .i64 a, .string nm, .int .i64 p0, .int .i64 p1, .slice (some ad) nf c4, .slice A5 nv c5, .slice A6 nmm c6, .slice A7 nd c7] 60 (0, 0))) := ⟨by rw [hwq]; exact blk_below HXR.out (below_alloc (Below.refl _ _) _)⟩
          have HBQ : Aside0 (wq.heap[wr.heap.size]? = some (.cells #[.bool false, .string ty, .string fnm, .int .i64 num, .int .i64 q0, .int .i64 q1] 63 (0, 0))) := ⟨by rw [hwq]; exact blk_new wr _⟩
          rw [← hwq]
          clear hwq x0 x1 x2 x3 x4 x5 kk
          obtain ⟨Z, hZ⟩ : ∃ Z, Z = Y ++ TI := ⟨_, rfl⟩
          rw [← hZ]
          have hzz : Z.size ≤ 140737490000000 := by rw [hZ]; simp only [ByteArray.size_append]; have e9 : ({ data := #[114, 101, 112, 101, 97, 116, 101, 100, 32] } : ByteArray).size = 9 := rfl; omega
          have HZZ := Aside0.mk hZ
          clear hZ
          have n0 : ¬ 9223372036854775807 < Z.size + ty.size := by omega
          have n1 : ¬ 9223372036854775807 < Z.size + ty.size + 1 := by omega
          have n2 : ¬ 9223372036854775807 < Z.size + ty.size + 1 + fnm.size := by omega
          have n3 : ¬ 9223372036854775807 < Z.size + ty.size + 1 + fnm.size + 3 := by omega
          have n4 : ¬ 9223372036854775807 < Z.size + ty.size + 1 + fnm.size + 3 + (itoaB num).size := by omega
          have n5 : ¬ 9223372036854775807 < Z.size + ty.size + 1 + fnm.size + 3 + (itoaB num).size + 2 := by omega
          have HQ : Aside0 (∀ W', Below wq.heap.size wq W' → (W'.cell? ⟨wr.heap.size, 1, none⟩ = some (.string ty) ∧ W'.cell? ⟨wr.heap.size, 2, none⟩ = some (.string fnm) ∧ W'.cell? ⟨wr.heap.size, 3, none⟩ = some (.int .i64 num))) := ⟨fun W' hb => ⟨blk_cell (blk_below HBQ.out hb) 1, blk_cell (blk_below HBQ.out hb) 2, blk_cell (blk_below HBQ.out hb) 3⟩⟩
          go_region_held3 (fun W' => W'.cell? ⟨wr.heap.size, 1, none⟩ = some (.string ty) ∧ W'.cell? ⟨wr.heap.size, 2, none⟩ = some (.string fnm) ∧ W'.cell? ⟨wr.heap.size, 3, none⟩ = some (.int .i64 num)) (first | exact HQ.out _ HB2.out | exact HQ.out _ (by repeat (first | exact Below.refl _ _ | refine below_drew ?_ | refine below_alloc ?_ _))) (first | (go_at_call 30; refine (itoa.calls num _ HNUM.out (HPOW.out _ (below_step HBA.out (by repeat (first | exact Below.refl _ _ | refine below_drew ?_ | refine below_alloc ?_ _))))).mono ?_; rintro e w2 ⟨rfl, hb2⟩; have HB2 : Aside0 (Below wq.heap.size wq w2) := ⟨below_step (by repeat (first | exact Below.refl _ _ | refine below_drew ?_ | refine below_alloc ?_ _)) hb2⟩; clear hb2))
          all_goals
            go_wp2_with fail
            go_roundw
            case rel => exact ⟨i + 1, by omega, by omega, rfl, by rw [HZZ.out, HTK.out, ← ByteArray.append_assoc, ← HY.out, ← field_textF _ _ _ _ _ ⟨q0, q1⟩, ← HTI.out], ⟨below_step HBA.out HB2.out⟩, ⟨blk_below HXA.out HB2.out⟩⟩
            case measure => simp [intOf]; omega
        | true =>
          go_upto_region 10 with fail
          obtain ⟨wq, hwq⟩ : ∃ wq, wq = wr.alloc (.cells #[.bool true, .string ty, .string fnm, .int .i64 num, .int .i64 q0, .int .i64 q1] 63) := ⟨_, rfl⟩
          have HBA : Aside0 (Below w.heap.size w wq) := ⟨by rw [hwq]; exact below_alloc HR.out _⟩
          have HXA : Aside0 (wq.heap[w.heap.size]? = some (.cells #[.int .i64 a, .string nm, .int .i64 p0, .int .i64 p1, .slice (some ad) nf c4, .slice A5 nv c5, .slice A6 nmm c6, .slice A7 nd c7] 60 (0, 0))) := ⟨by rw [hwq]; exact blk_below HXR.out (below_alloc (Below.refl _ _) _)⟩
          have HBQ : Aside0 (wq.heap[wr.heap.size]? = some (.cells #[.bool true, .string ty, .string fnm, .int .i64 num, .int .i64 q0, .int .i64 q1] 63 (0, 0))) := ⟨by rw [hwq]; exact blk_new wr _⟩
          rw [← hwq]
          clear hwq x0 x1 x2 x3 x4 x5 kk
          obtain ⟨Z, hZ⟩ : ∃ Z, Z = Y ++ TI ++ { data := #[114, 101, 112, 101, 97, 116, 101, 100, 32] } := ⟨_, rfl⟩
          rw [← hZ]
          have hzz : Z.size ≤ 140737490000000 := by rw [hZ]; simp only [ByteArray.size_append]; have e9 : ({ data := #[114, 101, 112, 101, 97, 116, 101, 100, 32] } : ByteArray).size = 9 := rfl; omega
          have HZZ := Aside0.mk hZ
          clear hZ
          have n0 : ¬ 9223372036854775807 < Z.size + ty.size := by omega
          have n1 : ¬ 9223372036854775807 < Z.size + ty.size + 1 := by omega
          have n2 : ¬ 9223372036854775807 < Z.size + ty.size + 1 + fnm.size := by omega
          have n3 : ¬ 9223372036854775807 < Z.size + ty.size + 1 + fnm.size + 3 := by omega
          have n4 : ¬ 9223372036854775807 < Z.size + ty.size + 1 + fnm.size + 3 + (itoaB num).size := by omega
          have n5 : ¬ 9223372036854775807 < Z.size + ty.size + 1 + fnm.size + 3 + (itoaB num).size + 2 := by omega
          have HQ : Aside0 (∀ W', Below wq.heap.size wq W' → (W'.cell? ⟨wr.heap.size, 1, none⟩ = some (.string ty) ∧ W'.cell? ⟨wr.heap.size, 2, none⟩ = some (.string fnm) ∧ W'.cell? ⟨wr.heap.size, 3, none⟩ = some (.int .i64 num))) := ⟨fun W' hb => ⟨blk_cell (blk_below HBQ.out hb) 1, blk_cell (blk_below HBQ.out hb) 2, blk_cell (blk_below HBQ.out hb) 3⟩⟩
          go_region_held3 (fun W' => W'.cell? ⟨wr.heap.size, 1, none⟩ = some (.string ty) ∧ W'.cell? ⟨wr.heap.size, 2, none⟩ = some (.string fnm) ∧ W'.cell? ⟨wr.heap.size, 3, none⟩ = some (.int .i64 num)) (first | exact HQ.out _ HB2.out | exact HQ.out _ (by repeat (first | exact Below.refl _ _ | refine below_drew ?_ | refine below_alloc ?_ _))) (first | (go_at_call 30; refine (itoa.calls num _ HNUM.out (HPOW.out _ (below_step HBA.out (by repeat (first | exact Below.refl _ _ | refine below_drew ?_ | refine below_alloc ?_ _))))).mono ?_; rintro e w2 ⟨rfl, hb2⟩; have HB2 : Aside0 (Below wq.heap.size wq w2) := ⟨below_step (by repeat (first | exact Below.refl _ _ | refine below_drew ?_ | refine below_alloc ?_ _)) hb2⟩; clear hb2))
          all_goals
            go_wp2_with fail
            go_roundw
            case rel => exact ⟨i + 1, by omega, by omega, rfl, by rw [HZZ.out, HTK.out, ← ByteArray.append_assoc, ← HY.out, ← field_textT _ _ _ _ _ ⟨q0, q1⟩, ← HTI.out], ⟨below_step HBA.out HB2.out⟩, ⟨blk_below HXA.out HB2.out⟩⟩
            case measure => simp [intOf]; omega
      · have t1 : decide (i < (nf : Int)) = false := decide_eq_false hlt
        have htk : (fs.map cvF).take i.toNat = fs.map cvF := List.take_of_length_le (by rw [List.length_map, ← HNF.out]; omega)
        rw [htk] at hyz ⊢
        obtain ⟨W2, rfl⟩ : ∃ wo : World, wo = wr := ⟨_, rfl⟩
        obtain ⟨X2S, hX2S⟩ : ∃ S', S' = X1 ++ fieldsB (fs.map cvF) (t + 1) := ⟨_, rfl⟩
        rw [← hX2S] at hyz ⊢
        have HX2S := Aside0.mk hX2S
        have HB2 := HR
        have HX2 := HXR
        have kk : W2.cell? ⟨w.heap.size, 5, none⟩ = some (.slice A5 nv c5) := blk_cell HXR.out 5
        clear htk hlt hi0 hil HR HXR hX2S
        go_wp2_with fail
        clear kk t1 hyz
        go_loopw [5, 63] (fun v5 v63 wr => ∃ i : Int, 0 ≤ i ∧ i ≤ (nv : Int) ∧ v63 = .int .i64 i ∧ v5 = .string (X2S ++ valuesB ((vs.map cvV).take i.toNat) (t + 1)) ∧ Aside0 (Below w.heap.size w wr) ∧ Aside0 (wr.heap[w.heap.size]? = some (.cells #[.int .i64 a, .string nm, .int .i64 p0, .int .i64 p1, .slice A4 nf c4, .slice A5 nv c5, .slice A6 nmm c6, .slice A7 nd c7] 60 (0, 0)))) (fun v5 v63 _ => nv - (intOf v63).toNat)
        case atStart => exact ⟨0, by omega, by omega, rfl, by rw [show (0 : Int).toNat = 0 from rfl, List.take_zero, show valuesB [] (t + 1) = ⟨#[]⟩ by first | rfl | rw [declL], app_nil], HB2, HX2⟩
        case round =>
          obtain ⟨i, hi0, hil, rfl, rfl, HR, HXR⟩ := hrel
          have hyz : (X2S ++ valuesB ((vs.map cvV).take i.toNat) (t + 1)).size ≤ 140737488355328 := by
            have h1 := HL.out
            have h2 := valuesB_part (vs.map cvV) (t + 1) i.toNat
            rw [HX2S.out, HX1S.out]
            simp only [ByteArray.size_append]
            omega
          by_cases hlt : i < (nv : Int)
          · have t1 : decide (i < (nv : Int)) = true := decide_eq_true hlt
            have kk : wr.cell? ⟨w.heap.size, 5, none⟩ = some (.slice A5 nv c5) := blk_cell HXR.out 5
            obtain ⟨ad, e0, x0, x1, x2, x3⟩ := at_T64 HC5.out i hi0 hlt
            subst e0
            replace x0 := (HR.out.cell (World.block_lt_of_cell? w _ x0)).trans x0
            replace x1 := (HR.out.cell (World.block_lt_of_cell? w _ x1)).trans x1
            replace x2 := (HR.out.cell (World.block_lt_of_cell? w _ x2)).trans x2
            replace x3 := (HR.out.cell (World.block_lt_of_cell? w _ x3)).trans x3
            have hjm : i.toNat < vs.length := by rw [← HNV.out]; omega
            have hrd : rd_T64 vs i = vs[i.toNat] := by simp [rd_T64, hjm]
            have hmem := List.getElem_mem hjm
            rw [hrd] at x0 x1 x2 x3
            have HTK : Aside0 (valuesB ((vs.map cvV).take (i + 1).toNat) (t + 1) = valuesB ((vs.map cvV).take i.toNat) (t + 1) ++ lineB (t + 1) (valueLs (cvV vs[i.toNat]))) := ⟨by rw [show (i + 1).toNat = i.toNat + 1 by omega, valuesB_take (vs.map cvV) (t + 1) i.toNat (by rw [List.length_map]; exact hjm), List.getElem_map]⟩
            have HMEM := Aside0.mk hmem
            clear hrd hmem
            generalize vs[i.toNat] = f at *
            obtain ⟨Y, hY⟩ : ∃ Y, Y = X2S ++ valuesB ((vs.map cvV).take i.toNat) (t + 1) := ⟨_, rfl⟩
            rw [← hY] at hyz ⊢
            have HY := Aside0.mk hY
            clear hY hjm
            have HNUM : Aside0 (numV f.f1 = true) := ⟨HVN.out (cvV f) (List.mem_map_of_mem HMEM.out)⟩
            have hsz := nmV_mem HMEM.out
            obtain ⟨fnm, num, q0, q1⟩ := f
            simp only at x0 x1 x2 x3 HNUM hsz
            have hfnz : fnm.size ≤ 1000000 := by have := HZ.out; omega
            have hitz := itoaB_le num HNUM.out
            have HK := Aside0.mk kk
            have HX0 := Aside0.mk x0
            have HX1 := Aside0.mk x1
            have HBA := HR
            have HXA := HXR
            clear hsz x2 x3 kk x0 x1
            go_upto_region 15 with fail
            have n0 : ¬ 9223372036854775807 < Y.size + TI.size := by omega
            have n1 : ¬ 9223372036854775807 < Y.size + TI.size + fnm.size := by omega
            have n2 : ¬ 9223372036854775807 < Y.size + TI.size + fnm.size + 3 := by omega
            have n3 : ¬ 9223372036854775807 < Y.size + TI.size + fnm.size + 3 + (itoaB num).size := by omega
            have n4 : ¬ 9223372036854775807 < Y.size + TI.size + fnm.size + 3 + (itoaB num).size + 2 := by omega
            have HQ : Aside0 (∀ W', Below wr.heap.size wr W' → (W'.cell? ⟨w.heap.size, 5, none⟩ = some (.slice (some ad) nv c5) ∧ W'.cell? (ad.add (i.toNat * 4)) = some (.string fnm) ∧ W'.cell? ⟨(ad.add (i.toNat * 4)).block, (ad.add (i.toNat * 4)).off + 1, none⟩ = some (.int .i64 num))) := ⟨fun W' hb => ⟨pw_cell_below hb HK.out, pw_cell_below hb HX0.out, pw_cell_below hb HX1.out⟩⟩
            go_region_held3 (fun W' => W'.cell? ⟨w.heap.size, 5, none⟩ = some (.slice (some ad) nv c5) ∧ W'.cell? (ad.add (i.toNat * 4)) = some (.string fnm) ∧ W'.cell? ⟨(ad.add (i.toNat * 4)).block, (ad.add (i.toNat * 4)).off + 1, none⟩ = some (.int .i64 num)) (first | exact HQ.out _ HB2.out | exact HQ.out _ (by repeat (first | exact Below.refl _ _ | refine below_drew ?_ | refine below_alloc ?_ _))) (first | (go_at_call 30; refine (itoa.calls num _ HNUM.out (HPOW.out _ (below_step HBA.out (by repeat (first | exact Below.refl _ _ | refine below_drew ?_ | refine below_alloc ?_ _))))).mono ?_; rintro e w2 ⟨rfl, hb2⟩; have HB2 : Aside0 (Below wr.heap.size wr w2) := ⟨below_step (by repeat (first | exact Below.refl _ _ | refine below_drew ?_ | refine below_alloc ?_ _)) hb2⟩; clear hb2))
            all_goals
              go_wp2_with fail
              go_roundw
              case rel => exact ⟨i + 1, by omega, by omega, rfl, by rw [HTK.out, ← ByteArray.append_assoc, ← HY.out, ← value_text _ _ _ _ ⟨q0, q1⟩, ← HTI.out], ⟨below_step HBA.out HB2.out⟩, ⟨blk_below HXA.out HB2.out⟩⟩
              case measure => simp [intOf]; omega
          · have t1 : decide (i < (nv : Int)) = false := decide_eq_false hlt
            have htk : (vs.map cvV).take i.toNat = vs.map cvV := List.take_of_length_le (by rw [List.length_map, ← HNV.out]; omega)
            rw [htk] at hyz ⊢
            obtain ⟨W3, rfl⟩ : ∃ wo : World, wo = wr := ⟨_, rfl⟩
            obtain ⟨X3S, hX3S⟩ : ∃ S', S' = X2S ++ valuesB (vs.map cvV) (t + 1) := ⟨_, rfl⟩
            rw [← hX3S] at hyz ⊢
            have HX3S := Aside0.mk hX3S
            have HB3 := HR
            have HX3 := HXR
            have kk : W3.cell? ⟨w.heap.size, 6, none⟩ = some (.slice A6 nmm c6) := blk_cell HXR.out 6
            clear htk hlt hi0 hil HR HXR hX3S
            go_wp2_with fail
            clear kk t1 hyz
            go_loopw [5, 90] (fun v5 v90 wr => ∃ i : Int, 0 ≤ i ∧ i ≤ (nmm : Int) ∧ v90 = .int .i64 i ∧ v5 = .string (X3S ++ methodsB ((ms.map cvM).take i.toNat) (t + 1)) ∧ Aside0 (Below w.heap.size w wr) ∧ Aside0 (wr.heap[w.heap.size]? = some (.cells #[.int .i64 a, .string nm, .int .i64 p0, .int .i64 p1, .slice A4 nf c4, .slice A5 nv c5, .slice A6 nmm c6, .slice A7 nd c7] 60 (0, 0)))) (fun v5 v90 _ => nmm - (intOf v90).toNat)
            case atStart => exact ⟨0, by omega, by omega, rfl, by rw [show (0 : Int).toNat = 0 from rfl, List.take_zero, show methodsB [] (t + 1) = ⟨#[]⟩ by first | rfl | rw [declL], app_nil], HB3, HX3⟩
            case round =>
              obtain ⟨i, hi0, hil, rfl, rfl, HR, HXR⟩ := hrel
              have hyz : (X3S ++ methodsB ((ms.map cvM).take i.toNat) (t + 1)).size ≤ 140737488355328 := by
                have h1 := HL.out
                have h2 := methodsB_part (ms.map cvM) (t + 1) i.toNat
                rw [HX3S.out, HX2S.out, HX1S.out]
                simp only [ByteArray.size_append]
                omega
              by_cases hlt : i < (nmm : Int)
              · have t1 : decide (i < (nmm : Int)) = true := decide_eq_true hlt
                have kk : wr.cell? ⟨w.heap.size, 6, none⟩ = some (.slice A6 nmm c6) := blk_cell HXR.out 6
                obtain ⟨ad, e0, x0, x1, x2, x3, x4⟩ := at_T67 HC6.out i hi0 hlt
                subst e0
                replace x0 := (HR.out.cell (World.block_lt_of_cell? w _ x0)).trans x0
                replace x1 := (HR.out.cell (World.block_lt_of_cell? w _ x1)).trans x1
                replace x2 := (HR.out.cell (World.block_lt_of_cell? w _ x2)).trans x2
                replace x3 := (HR.out.cell (World.block_lt_of_cell? w _ x3)).trans x3
                replace x4 := (HR.out.cell (World.block_lt_of_cell? w _ x4)).trans x4
                have hjm : i.toNat < ms.length := by rw [← HNM.out]; omega
                have hrd : rd_T67 ms i = ms[i.toNat] := by simp [rd_T67, hjm]
                have hmem := List.getElem_mem hjm
                rw [hrd] at x0 x1 x2 x3 x4
                have HTK : Aside0 (methodsB ((ms.map cvM).take (i + 1).toNat) (t + 1) = methodsB ((ms.map cvM).take i.toNat) (t + 1) ++ lineB (t + 1) (methodLs (cvM ms[i.toNat]))) := ⟨by rw [show (i + 1).toNat = i.toNat + 1 by omega, methodsB_take (ms.map cvM) (t + 1) i.toNat (by rw [List.length_map]; exact hjm), List.getElem_map]⟩
                have HMEM := Aside0.mk hmem
                clear hrd hmem
                generalize ms[i.toNat] = f at *
                obtain ⟨Y, hY⟩ : ∃ Y, Y = X3S ++ methodsB ((ms.map cvM).take i.toNat) (t + 1) := ⟨_, rfl⟩
                rw [← hY] at hyz ⊢
                have HY := Aside0.mk hY
                clear hY hjm
                have hsz := nmM_mem HMEM.out
                obtain ⟨fnm, ti, tu, q0, q1⟩ := f
                simp only at x0 x1 x2 x3 x4 hsz
                have hfnz : fnm.size ≤ 1000000 := by have := HZ.out; omega
                have hfiz : ti.size ≤ 1000000 := by have := HZ.out; omega
                have hfuz : tu.size ≤ 1000000 := by have := HZ.out; omega
                clear hsz
                go_wp2_with fail
                go_roundw
                case rel => exact ⟨i + 1, by omega, by omega, rfl, by rw [HTK.out, ← ByteArray.append_assoc, ← HY.out, ← method_text _ _ _ _ _ ⟨q0, q1⟩, ← HTI.out], ⟨below_alloc HR.out _⟩, ⟨blk_below HXR.out (below_alloc (Below.refl _ _) _)⟩⟩
                case measure => simp [intOf]; omega
              · have t1 : decide (i < (nmm : Int)) = false := decide_eq_false hlt
                have htk : (ms.map cvM).take i.toNat = ms.map cvM := List.take_of_length_le (by rw [List.length_map, ← HNM.out]; omega)
                rw [htk] at hyz ⊢
                obtain ⟨W4, rfl⟩ : ∃ wo : World, wo = wr := ⟨_, rfl⟩
                obtain ⟨X4S, hX4S⟩ : ∃ S', S' = X3S ++ methodsB (ms.map cvM) (t + 1) := ⟨_, rfl⟩
                rw [← hX4S] at hyz ⊢
                have HX4S := Aside0.mk hX4S
                have HB4 := HR
                have HX4 := HXR
                have kk : W4.cell? ⟨w.heap.size, 7, none⟩ = some (.slice A7 nd c7) := blk_cell HXR.out 7
                clear htk hlt hi0 hil HR HXR hX4S
                go_wp2_with fail
                clear kk t1 hyz
                go_loopw [5, 118] (fun v5 v118 wr => ∃ i : Int, 0 ≤ i ∧ i ≤ (nd : Int) ∧ v118 = .int .i64 i ∧ v5 = .string (X4S ++ declL ((ds.map cvD).take i.toNat) (t + 1)) ∧ Aside0 (Below w.heap.size w wr) ∧ Aside0 (wr.heap[w.heap.size]? = some (.cells #[.int .i64 a, .string nm, .int .i64 p0, .int .i64 p1, .slice A4 nf c4, .slice A5 nv c5, .slice A6 nmm c6, .slice A7 nd c7] 60 (0, 0)))) (fun v5 v118 _ => nd - (intOf v118).toNat)
                case atStart => exact ⟨0, by omega, by omega, rfl, by rw [show (0 : Int).toNat = 0 from rfl, List.take_zero, show declL [] (t + 1) = ⟨#[]⟩ by first | rfl | rw [declL], app_nil], HB4, HX4⟩
                case round =>
                  obtain ⟨i, hi0, hil, rfl, rfl, HR, HXR⟩ := hrel
                  have hyz : (X4S ++ declL ((ds.map cvD).take i.toNat) (t + 1)).size ≤ 140737488355328 := by
                    have h1 := HL.out
                    have h2 := declL_part (ds.map cvD) (t + 1) i.toNat
                    rw [HX4S.out, HX3S.out, HX2S.out, HX1S.out]
                    simp only [ByteArray.size_append]
                    omega
                  by_cases hlt : i < (nd : Int)
                  · have t1 : decide (i < (nd : Int)) = true := decide_eq_true hlt
                    have kk : wr.cell? ⟨w.heap.size, 7, none⟩ = some (.slice A7 nd c7) := blk_cell HXR.out 7
                    obtain ⟨ad, B4, k4, B5, k5, B6, k6, B7, k7, e0, x0, x1, x2, x3, x4, x5, x6, x7, l4, g4, l5, g5, l6, g6, l7, g7⟩ := at_T60 HC7.out i hi0 hlt
                    subst e0
                    replace x0 := (HR.out.cell (World.block_lt_of_cell? w _ x0)).trans x0
                    replace x1 := (HR.out.cell (World.block_lt_of_cell? w _ x1)).trans x1
                    replace x2 := (HR.out.cell (World.block_lt_of_cell? w _ x2)).trans x2
                    replace x3 := (HR.out.cell (World.block_lt_of_cell? w _ x3)).trans x3
                    replace x4 := (HR.out.cell (World.block_lt_of_cell? w _ x4)).trans x4
                    replace x5 := (HR.out.cell (World.block_lt_of_cell? w _ x5)).trans x5
                    replace x6 := (HR.out.cell (World.block_lt_of_cell? w _ x6)).trans x6
                    replace x7 := (HR.out.cell (World.block_lt_of_cell? w _ x7)).trans x7
                    have hjm : i.toNat < ds.length := by rw [← HND.out]; omega
                    have hrd : rd_T60 ds i = ds[i.toNat] := by simp [rd_T60, hjm]
                    have hmem := List.getElem_mem hjm
                    rw [hrd] at x0 x1 x2 x3 x4 x5 x6 x7 l4 g4 l5 g5 l6 g6 l7 g7
                    have HTK : Aside0 (declL ((ds.map cvD).take (i + 1).toNat) (t + 1) = declL ((ds.map cvD).take i.toNat) (t + 1) ++ declL [cvD ds[i.toNat]] (t + 1)) := ⟨by rw [show (i + 1).toNat = i.toNat + 1 by omega, declL_take (ds.map cvD) (t + 1) i.toNat (by rw [List.length_map]; exact hjm), List.getElem_map]⟩
                    have HMEM := Aside0.mk hmem
                    clear hrd hmem
                    generalize ds[i.toNat] = f at *
                    obtain ⟨Y, hY⟩ : ∃ Y, Y = X4S ++ declL ((ds.map cvD).take i.toNat) (t + 1) := ⟨_, rfl⟩
                    rw [← hY] at hyz ⊢
                    have HY := Aside0.mk hY
                    clear hY hjm
                    have HG4 := Aside0.mk (Kd.C_below g4 HR.out)
                    have HG5 := Aside0.mk (Kd.C_below g5 HR.out)
                    have HG6 := Aside0.mk (Kd.C_below g6 HR.out)
                    have HG7 := Aside0.mk (Kd.C_below g7 HR.out)
                    clear l4 g4 l5 g5 l6 g6 l7 g7
                    have HF1 : Aside0 (szL [f] ≤ szL ds) := ⟨szL_mem HMEM.out⟩
                    have HF2 : Aside0 (okL (cvL [f]) = true) := ⟨by rw [cvL_one]; exact okL_mem HIN.out (cvD f) (List.mem_map_of_mem HMEM.out)⟩
                    have hdz : (declL (cvL [f]) (t + 1)).size ≤ 140737488355328 - Y.size := by
                      have h1 := HL.out
                      have h2 := declL_part (ds.map cvD) (t + 1) (i + 1).toNat
                      rw [HTK.out, ByteArray.size_append] at h2
                      rw [HY.out, cvL_one]
                      simp only [ByteArray.size_append]
                      rw [HX4S.out, HX3S.out, HX2S.out, HX1S.out]
                      simp only [ByteArray.size_append]
                      omega
                    have HDZ := Aside0.mk hdz
                    obtain ⟨D, hD⟩ : ∃ D, D = declL (cvL [f]) (t + 1) := ⟨_, rfl⟩
                    rw [← hD] at hdz
                    have HD := Aside0.mk hD
                    clear hD
                    go_wp2_with fail
                    have HC := HIH.out (szL [f]) (by have h1 := HF1.out; have h2 := HN.out; omega) f B4 B5 B6 B7 k4 k5 k6 k7 (t + 1) wr (Nat.le_refl _) (by have h1 := HF1.out; have h2 := HZ.out; omega) HF2.out (by have h1 := HF1.out; have h2 := HTT.out; omega) (by have := HDZ.out; omega) (HPOW.out _ HR.out) HG4.out HG5.out HG6.out HG7.out
                    rw [← HTI.out, ← HD.out] at HC
                    refine HC.mono ?_
                    rintro e w4 ⟨rfl, hb4⟩
                    have HB4' := Aside0.mk hb4
                    clear hb4 HC x0 x1 x2 x3 x4 x5 x6 x7
                    go_wp2_with fail
                    go_roundw
                    case rel => exact ⟨i + 1, by omega, by omega, rfl, by rw [HTK.out, ← ByteArray.append_assoc, ← HY.out, HD.out, cvL_one], ⟨below_step HR.out HB4'.out⟩, ⟨blk_below HXR.out HB4'.out⟩⟩
                    case measure => simp [intOf]; omega
                  · have t1 : decide (i < (nd : Int)) = false := decide_eq_false hlt
                    have htk : (ds.map cvD).take i.toNat = ds.map cvD := List.take_of_length_le (by rw [List.length_map, ← HND.out]; omega)
                    rw [htk] at hyz ⊢
                    obtain ⟨W5, rfl⟩ : ∃ wo : World, wo = wr := ⟨_, rfl⟩
                    obtain ⟨X5S, hX5S⟩ : ∃ S', S' = X4S ++ declL (ds.map cvD) (t + 1) := ⟨_, rfl⟩
                    rw [← hX5S] at hyz ⊢
                    have HX5S := Aside0.mk hX5S
                    have HB5 := HR
                    have HX5 := HXR
                    clear htk hlt hi0 hil HR HXR hX5S
                    go_wp2_with fail
                    go_ret
                    refine ⟨congrArg (fun x => Ending.returned (Value.string x)) ?_, HB5.out⟩
                    rw [HE.out, HTB.out, end_text, HX5S.out, HX4S.out, HX3S.out, HX2S.out, HX1S.out]
                    simp only [ByteArray.append_assoc]
end Go.Proofs.YtknbhbppofphpaaGreatDoor.X
