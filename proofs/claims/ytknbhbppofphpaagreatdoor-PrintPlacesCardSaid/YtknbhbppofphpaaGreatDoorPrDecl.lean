/- printer.decl: what it writes. Printed by gen_prdecl.py. -/
import Derived.Test.YtknbhbppofphpaaGreatDoorPrDecl0
import Derived.Deep.RegionHeld3
import Derived.Deep.Cut
import Derived.Deep.CutRange
import Derived.Deep.DeepCutAuto
import Derived.LoopTactic
set_option linter.unusedVariables false
set_option linter.unusedSimpArgs false
namespace Go.Proofs.YtknbhbppofphpaaGreatDoor.X
open Go.RowKit Go.Shelf Go.Proofs.YtknbhbppofphpaaGreatDoorW.PrintWords Go.Proofs.YtknbhbppofphpaaGreatDoorW.PrintLast Go.Proofs.YtknbhbppofphpaaGreatDoorW.PrintMore
set_option maxHeartbeats 16000000 in
set_option maxRecDepth 100000 in
theorem pdecl.calls : ∀ (n : Nat) (d : PD) (A4 A5 A6 A7 : Option Addr) (c4 c5 c6 c7 : Nat) (b t : Nat) (S : ByteArray) (w0 w : World), szP [d] ≤ n → szP [d] ≤ 900000 → okL [d] = true → t + szP [d] ≤ 1000000 → S.size + (declL [d] t).size ≤ 140737488355328 → Pow w0 →
    Kd.C k62 w0 A4 d.f3.length d.f3 → Kd.C k36 w0 A5 d.f4.length d.f4 → Kd.C k66 w0 A6 d.f5.length d.f5 → Kd.C k41 w0 A7 d.f6.length d.f6 →
    Below w0.heap.size w0 w → PrAt w0.heap.size b t S w →
    Calls Tryz.prog 15 #[.pointer (some ⟨b, 0, none⟩), .agg #[.int .i64 d.f0, .string d.f1, .int .i64 d.f2.f0, .int .i64 d.f2.f1, .slice A4 d.f3.length c4, .slice A5 d.f4.length c5, .slice A6 d.f5.length c6, .slice A7 d.f6.length c7]] w fun e w' => e = .returned (.tuple #[]) ∧ PrAt w0.heap.size b t (S ++ declL [d] t) w' ∧ Below w0.heap.size w w' ∧ Lib.OthersKept 5 (some b) w w' := by
  intro n
  induction n using Nat.strongRecOn with
  | _ n ih =>
  intro d A4 A5 A6 A7 c4 c5 c6 c7 b t S w0 w hn hsz hok ht hlen hT hC4 hC5 hC6 hC7 hB0 hP
  obtain ⟨⟨hk1, hk3⟩, hnf, hnv, hin⟩ := okL_one hok
  rw [declL_one] at hlen
  have HE : Aside0 (declL [d] t = lineB t (headLs d.f0 d.f1) ++ (fieldsB d.f3 (t + 1) ++ (valuesB d.f4 (t + 1) ++ (methodsB d.f5 (t + 1) ++ (declL d.f6 (t + 1) ++ lineB t [⟨#[125]⟩]))))) := ⟨declL_one d t⟩
  obtain ⟨a, nm, ⟨p0, p1⟩, fs, vs, ms, ds⟩ := d
  simp only at hC4 hC5 hC6 hC7 hk1 hk3 hnf hnv hin hlen HE ⊢
  simp only [ByteArray.size_append] at hlen
  rw [szP, szP] at hn hsz ht
  have HIH := Aside0.mk ih
  have HT := Aside0.mk hT
  have HL := Aside0.mk hlen
  have HFN := Aside0.mk hnf
  have HVN := Aside0.mk hnv
  have HIN := Aside0.mk hin
  have HN := Aside0.mk hn
  have HZ := Aside0.mk hsz
  have HTT := Aside0.mk ht
  have HB0 := Aside0.mk hB0
  have hlf : fs.length ≤ 900000 := by have := nmPF_len fs; omega
  have hlv : vs.length ≤ 900000 := by have := nmPV_len vs; omega
  have hlm : ms.length ≤ 900000 := by have := nmPM_len ms; omega
  have hld : ds.length ≤ 900000 := by have := szP_len ds; omega
  have ht6 : t ≤ 1000000 := by omega
  clear ih hT hlen hnf hnv hin hn hsz ht hok
  obtain ⟨B, hBd⟩ : ∃ B, B = w0.heap.size := ⟨_, rfl⟩
  have HBD := Aside0.mk hBd
  have hBw : B ≤ w.heap.size := by rw [hBd]; exact hB0.size
  rw [← hBd] at hP ⊢
  have HP := Aside0.mk hP
  clear hB0 hP hBd
  obtain ⟨nf, hnf⟩ : ∃ nf, nf = fs.length := ⟨_, rfl⟩
  obtain ⟨nv, hnv⟩ : ∃ nv, nv = vs.length := ⟨_, rfl⟩
  obtain ⟨nmm, hnm⟩ : ∃ nmm, nmm = ms.length := ⟨_, rfl⟩
  obtain ⟨nd, hnd⟩ : ∃ nd, nd = ds.length := ⟨_, rfl⟩
  rw [← hnf] at hlf hC4
  rw [← hnv] at hlv hC5
  rw [← hnm] at hlm hC6
  rw [← hnd] at hld hC7
  rw [← hnf, ← hnv, ← hnm, ← hnd]
  have HNF := Aside0.mk hnf
  have HNV := Aside0.mk hnv
  have HNM := Aside0.mk hnm
  have HND := Aside0.mk hnd
  have HC4 := Aside0.mk hC4
  have HC5 := Aside0.mk hC5
  have HC6 := Aside0.mk hC6
  have HC7 := Aside0.mk hC7
  clear hnf hnv hnm hnd hC4 hC5 hC6 hC7
  -- what a line does
  have HLINE : Aside0 (∀ (k : Nat) (cs : Array Value) (t' : Nat) (S' : ByteArray) (W : World) (g : Nat) (m c : Nat) (ps : List ByteArray), DcI B b w k cs t' S' W → RowAt (some ⟨g, 0, none⟩) ps W → ps.length = m → m ≤ 1000 → S'.size + (lineB t' ps).size ≤ 140737488355328 →
      Calls Tryz.prog 14 #[.pointer (some ⟨b, 0, none⟩), .slice (some ⟨g, 0, none⟩) m c] W fun e w' => e = .returned (.tuple #[]) ∧ DcI B b w k cs t' (S' ++ lineB t' ps) w' ∧ Lib.OthersKept 5 (some b) W w') := ⟨fun k cs t' S' W g m c ps h hr hm hm9 hl =>
    (line.calls B b t' S' (some ⟨g, 0, none⟩) m c ps W h.pr hr hm hm9 (by rw [lineB_size] at hl; omega) h.ge).mono (fun e w' hp => ⟨hp.1, h.wrote hp.2.1 hp.2.2.1 hp.2.2.2, hp.2.2.2⟩)⟩
  have HBW : Aside0 (∀ W, Below B w W → Below w0.heap.size w0 W) := ⟨fun W h => by have hh := HBD.out; subst hh; exact HB0.out.trans h⟩
  have HPOW : Aside0 (∀ W, Below B w W → Pow W) := ⟨fun W h => Pow.below HT.out (HBW.out W h)⟩
  have HIHB : Aside0 (∀ (f : PD) (B4 B5 B6 B7 : Option Addr) (k4 k5 k6 k7 : Nat) (t' : Nat) (S' : ByteArray) (W : World), szP [f] < n → szP [f] ≤ 900000 → okL [f] = true → t' + szP [f] ≤ 1000000 → S'.size + (declL [f] t').size ≤ 140737488355328 →
      Kd.C k62 w0 B4 f.f3.length f.f3 → Kd.C k36 w0 B5 f.f4.length f.f4 → Kd.C k66 w0 B6 f.f5.length f.f5 → Kd.C k41 w0 B7 f.f6.length f.f6 → Below B w W → PrAt B b t' S' W →
      Calls Tryz.prog 15 #[.pointer (some ⟨b, 0, none⟩), .agg #[.int .i64 f.f0, .string f.f1, .int .i64 f.f2.f0, .int .i64 f.f2.f1, .slice B4 f.f3.length k4, .slice B5 f.f4.length k5, .slice B6 f.f5.length k6, .slice B7 f.f6.length k7]] W fun e w' => e = .returned (.tuple #[]) ∧ PrAt B b t' (S' ++ declL [f] t') w' ∧ Below B W w' ∧ Lib.OthersKept 5 (some b) W w') := ⟨fun f B4 B5 B6 B7 k4 k5 k6 k7 t' S' W h1 h2 h3 h4 h5 g4 g5 g6 g7 hb hp => by
    have hb0 := HBW.out W hb
    have hh := HBD.out
    subst hh
    exact HIH.out (szP [f]) h1 f B4 B5 B6 B7 k4 k5 k6 k7 b t' S' w0 W (Nat.le_refl _) h2 h3 h4 h5 HT.out g4 g5 g6 g7 hb0 hp⟩
  go_enter Tryz.func15, Tryz.ntmps15
  go_upto_region 1 with fail
  have hI : DcI B b w w.heap.size #[.int .i64 a, .string nm, .int .i64 p0, .int .i64 p1, .slice A4 nf c4, .slice A5 nv c5, .slice A6 nmm c6, .slice A7 nd c7] t S (w.alloc (.cells #[.int .i64 a, .string nm, .int .i64 p0, .int .i64 p1, .slice A4 nf c4, .slice A5 nv c5, .slice A6 nmm c6, .slice A7 nd c7] 41)) :=
    ⟨HP.out.below (below_alloc (Below.refl _ _) _), (Below.refl B w).alloc hBw _, (Lib.OthersKept.refl _ _ w).alloc _, blk_new w _, by simp; omega⟩
  have HI := Aside0.mk hI
  clear hI
  generalize w.alloc (.cells #[.int .i64 a, .string nm, .int .i64 p0, .int .i64 p1, .slice A4 nf c4, .slice A5 nv c5, .slice A6 nmm c6, .slice A7 nd c7] 41) = W0 at *
  have x0 : ∀ W', Below W0.heap.size W0 W' → W'.cell? ⟨w.heap.size, 0, none⟩ = some (.int .i64 a) := fun W' hb => blk_cell (blk_below HI.out.box hb) 0
  have x1 : ∀ W', Below W0.heap.size W0 W' → W'.cell? ⟨w.heap.size, 1, none⟩ = some (.string nm) := fun W' hb => blk_cell (blk_below HI.out.box hb) 1
  go_cut [] (fun wx => Aside0 (DcI B b w w.heap.size #[.int .i64 a, .string nm, .int .i64 p0, .int .i64 p1, .slice A4 nf c4, .slice A5 nv c5, .slice A6 nmm c6, .slice A7 nd c7] t (S ++ lineB t (headLs a nm)) wx))
  case first =>
    have hl1 : S.size + (lineB t (headLs a nm)).size ≤ 140737488355328 := by have := HL.out; omega
    have HL1 := Aside0.mk hl1
    have y0 := fun o => x0 (W0.alloc o) (below_alloc (Below.refl _ _) _)
    have y1 := fun o => x1 (W0.alloc o) (below_alloc (Below.refl _ _) _)
    have z0 := x0 W0 (Below.refl _ _)
    have z1 := x1 W0 (Below.refl _ _)
    have ta : IntKind.i64.wrap (a - 1) = a - 1 := by rw [IntKind.wrap_i64]; omega
    have hka := kind_at a hk1 hk3
    have i0 : 0 ≤ a - 1 := by omega
    have i1 : a - 1 < 3 := by omega
    clear x0 x1 hl1
    (first | go_region_with (first | (go_at_call 14; refine (HLINE.out w.heap.size _ t S _ (W0.heap.size + 1) 4 4 (headLs _ nm) (HI.out.step (by repeat (first | exact Below.refl _ _ | refine below_drew ?_ | refine below_alloc ?_ _))) (rowAt_new (W0.drew.alloc _) _ (by simp) (headLs _ nm) _ rfl) rfl (by decide) HL1.out).mono ?_; rintro e w1 ⟨rfl, hI1, _⟩)) | fail)
    all_goals (go_wp2_with fail; go_meet; exact ⟨hI1⟩)
  case rest =>
    have HC := hcut
    have c2 := hcut.out.pr.tabs.1
    have f2 := hcut.out.pr.tabs.2
    clear hcut x0 x1
    go_upto_region 3 with fail
    have hI1 : DcI B b w w.heap.size #[.int .i64 a, .string nm, .int .i64 p0, .int .i64 p1, .slice A4 nf c4, .slice A5 nv c5, .slice A6 nmm c6, .slice A7 nd c7] (t + 1) (S ++ lineB t (headLs a nm)) (wc.setCell ⟨b, 2, none⟩ (.int .i64 ((t : Int) + 1))) := HC.out.put (t + 1)
    have HI1 := Aside0.mk hI1
    clear hI1 HC HI c2 f2
    generalize wc.setCell ⟨b, 2, none⟩ (.int .i64 ((t : Int) + 1)) = W1 at *
    obtain ⟨S1, hS1⟩ : ∃ S1, S1 = S ++ lineB t (headLs a nm) := ⟨_, rfl⟩
    rw [← hS1] at HI1
    have HS1 := Aside0.mk hS1
    clear hS1
    have q : W1.cell? ⟨w.heap.size, 4, none⟩ = some (.slice A4 nf c4) := blk_cell HI1.out.box 4
    go_wp2_with fail
    clear q
    go_loopw [34] (fun v34 wr => ∃ i : Int, 0 ≤ i ∧ i ≤ (nf : Int) ∧ v34 = .int .i64 i ∧ Aside0 (DcI B b w w.heap.size #[.int .i64 a, .string nm, .int .i64 p0, .int .i64 p1, .slice A4 nf c4, .slice A5 nv c5, .slice A6 nmm c6, .slice A7 nd c7] (t + 1) (S1 ++ fieldsB (fs.take i.toNat) (t + 1)) wr)) (fun v34 _ => nf - (intOf v34).toNat)
    case atStart => exact ⟨0, by omega, by omega, rfl, ⟨by rw [show (0 : Int).toNat = 0 from rfl, List.take_zero, show fieldsB [] (t + 1) = ⟨#[]⟩ by first | rfl | rw [declL], app_nil]; exact HI1.out⟩⟩
    case round =>
      obtain ⟨i, hi0, hil, rfl, HR⟩ := hrel
      by_cases hlt : i < (nf : Int)
      · have t1 : decide (i < (nf : Int)) = true := decide_eq_true hlt
        obtain ⟨ad, e0, x0, x1, x2, x3, x4, x5⟩ := at_T62 HC4.out i hi0 hlt
        subst e0
        have hbw := HBW.out wr HR.out.bel
        replace x0 := (hbw.cell (World.block_lt_of_cell? w0 _ x0)).trans x0
        replace x1 := (hbw.cell (World.block_lt_of_cell? w0 _ x1)).trans x1
        replace x2 := (hbw.cell (World.block_lt_of_cell? w0 _ x2)).trans x2
        replace x3 := (hbw.cell (World.block_lt_of_cell? w0 _ x3)).trans x3
        replace x4 := (hbw.cell (World.block_lt_of_cell? w0 _ x4)).trans x4
        replace x5 := (hbw.cell (World.block_lt_of_cell? w0 _ x5)).trans x5
        have hjm : i.toNat < fs.length := by rw [← HNF.out]; omega
        have hrd : rd_T62 fs i = fs[i.toNat] := by simp [rd_T62, hjm]
        have hmem := List.getElem_mem hjm
        rw [hrd] at x0 x1 x2 x3 x4 x5
        have HTK : Aside0 (fieldsB (fs.take (i + 1).toNat) (t + 1) = fieldsB (fs.take i.toNat) (t + 1) ++ lineB (t + 1) (fieldLs fs[i.toNat])) := ⟨by rw [show (i + 1).toNat = i.toNat + 1 by omega]; exact fieldsB_take fs (t + 1) i.toNat hjm⟩
        have hnum := HFN.out _ hmem
        have hle := fieldsB_part fs (t + 1) (i + 1).toNat
        clear hrd hmem hbw
        generalize fs[i.toNat] = f at *
        obtain ⟨rep, ty, fnm, num, q0, q1⟩ := f
        simp only at x0 x1 x2 x3 x4 x5 hnum
        have HNUM := Aside0.mk hnum
        rw [HTK.out, ByteArray.size_append] at hle
        have HSZ : Aside0 ((S1 ++ fieldsB (fs.take i.toNat) (t + 1)).size + (lineB (t + 1) (fieldLs ⟨rep, ty, fnm, num, ⟨q0, q1⟩⟩)).size ≤ 140737488355328) := ⟨by have := HL.out; rw [HS1.out, ByteArray.size_append, ByteArray.size_append]; omega⟩
        clear hnum hle hjm
        cases rep with
        | false =>
          go_upto_region 9 with fail
          obtain ⟨wq, hwq⟩ : ∃ wq, wq = wr.alloc (.cells #[.bool false, .string ty, .string fnm, .int .i64 num, .int .i64 q0, .int .i64 q1] 62) := ⟨_, rfl⟩
          have HIQ := Aside0.mk (show DcI B b w w.heap.size _ (t + 1) _ wq by rw [hwq]; exact HR.out.step (below_alloc (Below.refl _ _) _))
          have HBQ : Aside0 (wq.heap[wr.heap.size]? = some (.cells #[.bool false, .string ty, .string fnm, .int .i64 num, .int .i64 q0, .int .i64 q1] 62 (0, 0))) := ⟨by rw [hwq]; exact blk_new wr _⟩
          rw [← hwq]
          have HQ : Aside0 (∀ W', Below wq.heap.size wq W' → (W'.cell? ⟨wr.heap.size, 1, none⟩ = some (.string ty) ∧ W'.cell? ⟨wr.heap.size, 2, none⟩ = some (.string fnm) ∧ W'.cell? ⟨wr.heap.size, 3, none⟩ = some (.int .i64 num))) := ⟨fun W' hb => ⟨blk_cell (blk_below HBQ.out hb) 1, blk_cell (blk_below HBQ.out hb) 2, blk_cell (blk_below HBQ.out hb) 3⟩⟩
          clear hwq x0 x1 x2 x3
          go_region_held3 (fun W' => W'.cell? ⟨wr.heap.size, 1, none⟩ = some (.string ty) ∧ W'.cell? ⟨wr.heap.size, 2, none⟩ = some (.string fnm) ∧ W'.cell? ⟨wr.heap.size, 3, none⟩ = some (.int .i64 num)) (first | exact ⟨blk_cell (HBX.out) 1, blk_cell (HBX.out) 2, blk_cell (HBX.out) 3⟩ | exact HQ.out _ (by repeat (first | exact HB2.out | exact Below.refl _ _ | refine below_drew ?_ | refine below_alloc ?_ _))) (first | (go_at_call 30; refine (itoa.calls num _ HNUM.out (HPOW.out _ (HIQ.out.step (by repeat (first | exact HB2.out | exact Below.refl _ _ | refine below_drew ?_ | refine below_alloc ?_ _))).bel)).mono ?_; rintro e w2 ⟨rfl, hb2⟩; have HB2 : Aside0 (Below wq.heap.size wq w2) := ⟨below_step (by repeat (first | exact Below.refl _ _ | refine below_drew ?_ | refine below_alloc ?_ _)) hb2⟩; clear hb2) | (go_at_call 14; refine (HLINE.out w.heap.size _ (t + 1) _ _ w2.heap.size 7 7 (fieldLs ⟨false, ty, fnm, num, ⟨q0, q1⟩⟩) (HIQ.out.step (by repeat (first | exact HB2.out | exact Below.refl _ _ | refine below_drew ?_ | refine below_alloc ?_ _))) (rowAt_new _ _ (by first | rfl | simp) (fieldLs ⟨false, ty, fnm, num, ⟨q0, q1⟩⟩) _ rfl) rfl (by decide) HSZ.out).mono ?_; rintro e w4 ⟨rfl, hI4, hk4⟩; have HBX := Aside0.mk (DcI.other (HIQ.out.step (by repeat (first | exact HB2.out | exact Below.refl _ _ | refine below_drew ?_ | refine below_alloc ?_ _))) hk4 (blk_below HBQ.out (by repeat (first | exact HB2.out | exact Below.refl _ _ | refine below_drew ?_ | refine below_alloc ?_ _))) (by decide) (by decide)); have HI4 := Aside0.mk hI4; clear hI4 hk4))
          go_wp2_with fail
          go_roundw
          case rel => exact ⟨i + 1, by omega, by omega, rfl, ⟨by rw [HTK.out, ← ByteArray.append_assoc]; exact HI4.out⟩⟩
          case measure => simp [intOf]; omega
        | true =>
          go_upto_region 9 with fail
          obtain ⟨wq, hwq⟩ : ∃ wq, wq = wr.alloc (.cells #[.bool true, .string ty, .string fnm, .int .i64 num, .int .i64 q0, .int .i64 q1] 62) := ⟨_, rfl⟩
          have HIQ := Aside0.mk (show DcI B b w w.heap.size _ (t + 1) _ wq by rw [hwq]; exact HR.out.step (below_alloc (Below.refl _ _) _))
          have HBQ : Aside0 (wq.heap[wr.heap.size]? = some (.cells #[.bool true, .string ty, .string fnm, .int .i64 num, .int .i64 q0, .int .i64 q1] 62 (0, 0))) := ⟨by rw [hwq]; exact blk_new wr _⟩
          rw [← hwq]
          have HQ : Aside0 (∀ W', Below wq.heap.size wq W' → (W'.cell? ⟨wr.heap.size, 1, none⟩ = some (.string ty) ∧ W'.cell? ⟨wr.heap.size, 2, none⟩ = some (.string fnm) ∧ W'.cell? ⟨wr.heap.size, 3, none⟩ = some (.int .i64 num))) := ⟨fun W' hb => ⟨blk_cell (blk_below HBQ.out hb) 1, blk_cell (blk_below HBQ.out hb) 2, blk_cell (blk_below HBQ.out hb) 3⟩⟩
          clear hwq x0 x1 x2 x3
          go_region_held3 (fun W' => W'.cell? ⟨wr.heap.size, 1, none⟩ = some (.string ty) ∧ W'.cell? ⟨wr.heap.size, 2, none⟩ = some (.string fnm) ∧ W'.cell? ⟨wr.heap.size, 3, none⟩ = some (.int .i64 num)) (first | exact ⟨blk_cell (HBX.out) 1, blk_cell (HBX.out) 2, blk_cell (HBX.out) 3⟩ | exact HQ.out _ (by repeat (first | exact HB2.out | exact Below.refl _ _ | refine below_drew ?_ | refine below_alloc ?_ _))) (first | (go_at_call 30; refine (itoa.calls num _ HNUM.out (HPOW.out _ (HIQ.out.step (by repeat (first | exact HB2.out | exact Below.refl _ _ | refine below_drew ?_ | refine below_alloc ?_ _))).bel)).mono ?_; rintro e w2 ⟨rfl, hb2⟩; have HB2 : Aside0 (Below wq.heap.size wq w2) := ⟨below_step (by repeat (first | exact Below.refl _ _ | refine below_drew ?_ | refine below_alloc ?_ _)) hb2⟩; clear hb2) | (go_at_call 14; refine (HLINE.out w.heap.size _ (t + 1) _ _ w2.heap.size 7 7 (fieldLs ⟨true, ty, fnm, num, ⟨q0, q1⟩⟩) (HIQ.out.step (by repeat (first | exact HB2.out | exact Below.refl _ _ | refine below_drew ?_ | refine below_alloc ?_ _))) (rowAt_new _ _ (by first | rfl | simp) (fieldLs ⟨true, ty, fnm, num, ⟨q0, q1⟩⟩) _ rfl) rfl (by decide) HSZ.out).mono ?_; rintro e w4 ⟨rfl, hI4, hk4⟩; have HBX := Aside0.mk (DcI.other (HIQ.out.step (by repeat (first | exact HB2.out | exact Below.refl _ _ | refine below_drew ?_ | refine below_alloc ?_ _))) hk4 (blk_below HBQ.out (by repeat (first | exact HB2.out | exact Below.refl _ _ | refine below_drew ?_ | refine below_alloc ?_ _))) (by decide) (by decide)); have HI4 := Aside0.mk hI4; clear hI4 hk4))
          go_wp2_with fail
          go_roundw
          case rel => exact ⟨i + 1, by omega, by omega, rfl, ⟨by rw [HTK.out, ← ByteArray.append_assoc]; exact HI4.out⟩⟩
          case measure => simp [intOf]; omega

      · have t1 : decide (i < (nf : Int)) = false := decide_eq_false hlt
        have htk : fs.take i.toNat = fs := List.take_of_length_le (by rw [← HNF.out]; omega)
        rw [htk] at HR
        obtain ⟨W2, rfl⟩ : ∃ wo : World, wo = wr := ⟨_, rfl⟩
        obtain ⟨S2, hS2⟩ : ∃ S', S' = S1 ++ fieldsB fs (t + 1) := ⟨_, rfl⟩
        rw [← hS2] at HR
        have HS2 := Aside0.mk hS2
        have HI2 := HR
        have q : W2.cell? ⟨w.heap.size, 5, none⟩ = some (.slice A5 nv c5) := blk_cell HR.out.box 5
        clear htk hlt hi0 hil HR hS2
        go_wp2_with fail
        clear q t1
        go_loopw [55] (fun v55 wr => ∃ i : Int, 0 ≤ i ∧ i ≤ (nv : Int) ∧ v55 = .int .i64 i ∧ Aside0 (DcI B b w w.heap.size #[.int .i64 a, .string nm, .int .i64 p0, .int .i64 p1, .slice A4 nf c4, .slice A5 nv c5, .slice A6 nmm c6, .slice A7 nd c7] (t + 1) (S2 ++ valuesB (vs.take i.toNat) (t + 1)) wr)) (fun v55 _ => nv - (intOf v55).toNat)
        case atStart => exact ⟨0, by omega, by omega, rfl, ⟨by rw [show (0 : Int).toNat = 0 from rfl, List.take_zero, show valuesB [] (t + 1) = ⟨#[]⟩ by first | rfl | rw [declL], app_nil]; exact HI2.out⟩⟩
        case round =>
          obtain ⟨i, hi0, hil, rfl, HR⟩ := hrel
          by_cases hlt : i < (nv : Int)
          · have t1 : decide (i < (nv : Int)) = true := decide_eq_true hlt
            obtain ⟨ad, e0, x0, x1, x2, x3⟩ := at_T36 HC5.out i hi0 hlt
            subst e0
            have hbw := HBW.out wr HR.out.bel
            replace x0 := (hbw.cell (World.block_lt_of_cell? w0 _ x0)).trans x0
            replace x1 := (hbw.cell (World.block_lt_of_cell? w0 _ x1)).trans x1
            replace x2 := (hbw.cell (World.block_lt_of_cell? w0 _ x2)).trans x2
            replace x3 := (hbw.cell (World.block_lt_of_cell? w0 _ x3)).trans x3
            have hjm : i.toNat < vs.length := by rw [← HNV.out]; omega
            have hrd : rd_T36 vs i = vs[i.toNat] := by simp [rd_T36, hjm]
            have hmem := List.getElem_mem hjm
            rw [hrd] at x0 x1 x2 x3
            have HTK : Aside0 (valuesB (vs.take (i + 1).toNat) (t + 1) = valuesB (vs.take i.toNat) (t + 1) ++ lineB (t + 1) (valueLs vs[i.toNat])) := ⟨by rw [show (i + 1).toNat = i.toNat + 1 by omega]; exact valuesB_take vs (t + 1) i.toNat hjm⟩
            have hle := valuesB_part vs (t + 1) (i + 1).toNat
            have HMEM := Aside0.mk hmem
            clear hrd hmem hbw
            generalize vs[i.toNat] = f at *
            have HNUM := Aside0.mk (HVN.out _ HMEM.out)
            obtain ⟨fnm, num, q0, q1⟩ := f
            simp only at x0 x1 x2 x3 HNUM
            rw [HTK.out, ByteArray.size_append] at hle
            have HSZ : Aside0 ((S2 ++ valuesB (vs.take i.toNat) (t + 1)).size + (lineB (t + 1) (valueLs ⟨fnm, num, ⟨q0, q1⟩⟩)).size ≤ 140737488355328) := ⟨by have := HL.out; rw [HS2.out, HS1.out]; simp only [ByteArray.size_append]; omega⟩
            clear hle hjm
            go_upto_region 14 with fail
            obtain ⟨wq, hwq⟩ : ∃ wq, wq = wr.alloc (.cells #[.string fnm, .int .i64 num, .int .i64 q0, .int .i64 q1] 36) := ⟨_, rfl⟩
            have HIQ := Aside0.mk (show DcI B b w w.heap.size _ (t + 1) _ wq by rw [hwq]; exact HR.out.step (below_alloc (Below.refl _ _) _))
            have HBQ : Aside0 (wq.heap[wr.heap.size]? = some (.cells #[.string fnm, .int .i64 num, .int .i64 q0, .int .i64 q1] 36 (0, 0))) := ⟨by rw [hwq]; exact blk_new wr _⟩
            rw [← hwq]
            have HQ : Aside0 (∀ W', Below wq.heap.size wq W' → (W'.cell? ⟨wr.heap.size, 0, none⟩ = some (.string fnm) ∧ W'.cell? ⟨wr.heap.size, 1, none⟩ = some (.int .i64 num))) := ⟨fun W' hb => ⟨blk_cell (blk_below HBQ.out hb) 0, blk_cell (blk_below HBQ.out hb) 1⟩⟩
            clear hwq x0 x1 x2 x3
            go_region_held3 (fun W' => W'.cell? ⟨wr.heap.size, 0, none⟩ = some (.string fnm) ∧ W'.cell? ⟨wr.heap.size, 1, none⟩ = some (.int .i64 num)) (first | exact ⟨blk_cell (HBX.out) 0, blk_cell (HBX.out) 1⟩ | exact HQ.out _ (by repeat (first | exact HB2.out | exact Below.refl _ _ | refine below_drew ?_ | refine below_alloc ?_ _))) (first | (go_at_call 30; refine (itoa.calls num _ HNUM.out (HPOW.out _ (HIQ.out.step (by repeat (first | exact HB2.out | exact Below.refl _ _ | refine below_drew ?_ | refine below_alloc ?_ _))).bel)).mono ?_; rintro e w2 ⟨rfl, hb2⟩; have HB2 : Aside0 (Below wq.heap.size wq w2) := ⟨below_step (by repeat (first | exact Below.refl _ _ | refine below_drew ?_ | refine below_alloc ?_ _)) hb2⟩; clear hb2) | (go_at_call 14; refine (HLINE.out w.heap.size _ (t + 1) _ _ w2.heap.size 4 4 (valueLs ⟨fnm, num, ⟨q0, q1⟩⟩) (HIQ.out.step (by repeat (first | exact HB2.out | exact Below.refl _ _ | refine below_drew ?_ | refine below_alloc ?_ _))) (rowAt_new _ _ (by first | rfl | simp) (valueLs ⟨fnm, num, ⟨q0, q1⟩⟩) _ rfl) rfl (by decide) HSZ.out).mono ?_; rintro e w4 ⟨rfl, hI4, hk4⟩; have HBX := Aside0.mk (DcI.other (HIQ.out.step (by repeat (first | exact HB2.out | exact Below.refl _ _ | refine below_drew ?_ | refine below_alloc ?_ _))) hk4 (blk_below HBQ.out (by repeat (first | exact HB2.out | exact Below.refl _ _ | refine below_drew ?_ | refine below_alloc ?_ _))) (by decide) (by decide)); have HI4 := Aside0.mk hI4; clear hI4 hk4))
            go_wp2_with fail
            go_roundw
            case rel => exact ⟨i + 1, by omega, by omega, rfl, ⟨by rw [HTK.out, ← ByteArray.append_assoc]; exact HI4.out⟩⟩
            case measure => simp [intOf]; omega
          · have t1 : decide (i < (nv : Int)) = false := decide_eq_false hlt
            have htk : vs.take i.toNat = vs := List.take_of_length_le (by rw [← HNV.out]; omega)
            rw [htk] at HR
            obtain ⟨W3, rfl⟩ : ∃ wo : World, wo = wr := ⟨_, rfl⟩
            obtain ⟨S3, hS3⟩ : ∃ S', S' = S2 ++ valuesB vs (t + 1) := ⟨_, rfl⟩
            rw [← hS3] at HR
            have HS3 := Aside0.mk hS3
            have HI3 := HR
            have q : W3.cell? ⟨w.heap.size, 6, none⟩ = some (.slice A6 nmm c6) := blk_cell HR.out.box 6
            clear htk hlt hi0 hil HR hS3
            go_wp2_with fail
            clear q t1
            go_loopw [71] (fun v71 wr => ∃ i : Int, 0 ≤ i ∧ i ≤ (nmm : Int) ∧ v71 = .int .i64 i ∧ Aside0 (DcI B b w w.heap.size #[.int .i64 a, .string nm, .int .i64 p0, .int .i64 p1, .slice A4 nf c4, .slice A5 nv c5, .slice A6 nmm c6, .slice A7 nd c7] (t + 1) (S3 ++ methodsB (ms.take i.toNat) (t + 1)) wr)) (fun v71 _ => nmm - (intOf v71).toNat)
            case atStart => exact ⟨0, by omega, by omega, rfl, ⟨by rw [show (0 : Int).toNat = 0 from rfl, List.take_zero, show methodsB [] (t + 1) = ⟨#[]⟩ by first | rfl | rw [declL], app_nil]; exact HI3.out⟩⟩
            case round =>
              obtain ⟨i, hi0, hil, rfl, HR⟩ := hrel
              by_cases hlt : i < (nmm : Int)
              · have t1 : decide (i < (nmm : Int)) = true := decide_eq_true hlt
                obtain ⟨ad, e0, x0, x1, x2, x3, x4⟩ := at_T66 HC6.out i hi0 hlt
                subst e0
                have hbw := HBW.out wr HR.out.bel
                replace x0 := (hbw.cell (World.block_lt_of_cell? w0 _ x0)).trans x0
                replace x1 := (hbw.cell (World.block_lt_of_cell? w0 _ x1)).trans x1
                replace x2 := (hbw.cell (World.block_lt_of_cell? w0 _ x2)).trans x2
                replace x3 := (hbw.cell (World.block_lt_of_cell? w0 _ x3)).trans x3
                replace x4 := (hbw.cell (World.block_lt_of_cell? w0 _ x4)).trans x4
                have hjm : i.toNat < ms.length := by rw [← HNM.out]; omega
                have hrd : rd_T66 ms i = ms[i.toNat] := by simp [rd_T66, hjm]
                have hmem := List.getElem_mem hjm
                rw [hrd] at x0 x1 x2 x3 x4
                have HTK : Aside0 (methodsB (ms.take (i + 1).toNat) (t + 1) = methodsB (ms.take i.toNat) (t + 1) ++ lineB (t + 1) (methodLs ms[i.toNat])) := ⟨by rw [show (i + 1).toNat = i.toNat + 1 by omega]; exact methodsB_take ms (t + 1) i.toNat hjm⟩
                have hle := methodsB_part ms (t + 1) (i + 1).toNat
                have HMEM := Aside0.mk hmem
                clear hrd hmem hbw
                generalize ms[i.toNat] = f at *
                obtain ⟨fnm, ti, tu, q0, q1⟩ := f
                simp only at x0 x1 x2 x3 x4
                rw [HTK.out, ByteArray.size_append] at hle
                have HSZ : Aside0 ((S3 ++ methodsB (ms.take i.toNat) (t + 1)).size + (lineB (t + 1) (methodLs ⟨fnm, ti, tu, ⟨q0, q1⟩⟩)).size ≤ 140737488355328) := ⟨by have := HL.out; rw [HS3.out, HS2.out, HS1.out]; simp only [ByteArray.size_append]; omega⟩
                clear hle hjm
                go_wp2_with fail
                refine (HLINE.out w.heap.size _ (t + 1) _ _ (wr.heap.size + 1) 7 7 (methodLs ⟨fnm, ti, tu, ⟨q0, q1⟩⟩) (HR.out.step (by repeat (first | exact Below.refl _ _ | refine below_drew ?_ | refine below_alloc ?_ _))) (rowAt_new _ _ (by simp) (methodLs ⟨fnm, ti, tu, ⟨q0, q1⟩⟩) _ rfl) rfl (by decide) HSZ.out).mono ?_
                rintro e w4 ⟨rfl, hI4, _⟩
                have HI4 := Aside0.mk hI4
                clear hI4 x0 x1 x2 x3 x4
                go_wp2_with fail
                go_roundw
                case rel => exact ⟨i + 1, by omega, by omega, rfl, ⟨by rw [HTK.out, ← ByteArray.append_assoc]; exact HI4.out⟩⟩
                case measure => simp [intOf]; omega
              · have t1 : decide (i < (nmm : Int)) = false := decide_eq_false hlt
                have htk : ms.take i.toNat = ms := List.take_of_length_le (by rw [← HNM.out]; omega)
                rw [htk] at HR
                obtain ⟨W4, rfl⟩ : ∃ wo : World, wo = wr := ⟨_, rfl⟩
                obtain ⟨S4, hS4⟩ : ∃ S', S' = S3 ++ methodsB ms (t + 1) := ⟨_, rfl⟩
                rw [← hS4] at HR
                have HS4 := Aside0.mk hS4
                have HI4 := HR
                have q : W4.cell? ⟨w.heap.size, 7, none⟩ = some (.slice A7 nd c7) := blk_cell HR.out.box 7
                clear htk hlt hi0 hil HR hS4
                go_wp2_with fail
                clear q t1
                go_loopw [88] (fun v88 wr => ∃ i : Int, 0 ≤ i ∧ i ≤ (nd : Int) ∧ v88 = .int .i64 i ∧ Aside0 (DcI B b w w.heap.size #[.int .i64 a, .string nm, .int .i64 p0, .int .i64 p1, .slice A4 nf c4, .slice A5 nv c5, .slice A6 nmm c6, .slice A7 nd c7] (t + 1) (S4 ++ declL (ds.take i.toNat) (t + 1)) wr)) (fun v88 _ => nd - (intOf v88).toNat)
                case atStart => exact ⟨0, by omega, by omega, rfl, ⟨by rw [show (0 : Int).toNat = 0 from rfl, List.take_zero, show declL [] (t + 1) = ⟨#[]⟩ by first | rfl | rw [declL], app_nil]; exact HI4.out⟩⟩
                case round =>
                  obtain ⟨i, hi0, hil, rfl, HR⟩ := hrel
                  by_cases hlt : i < (nd : Int)
                  · have t1 : decide (i < (nd : Int)) = true := decide_eq_true hlt
                    obtain ⟨ad, B4, k4, B5, k5, B6, k6, B7, k7, e0, x0, x1, x2, x3, x4, x5, x6, x7, l4, g4, l5, g5, l6, g6, l7, g7⟩ := at_T41 HC7.out i hi0 hlt
                    subst e0
                    have hbw := HBW.out wr HR.out.bel
                    replace x0 := (hbw.cell (World.block_lt_of_cell? w0 _ x0)).trans x0
                    replace x1 := (hbw.cell (World.block_lt_of_cell? w0 _ x1)).trans x1
                    replace x2 := (hbw.cell (World.block_lt_of_cell? w0 _ x2)).trans x2
                    replace x3 := (hbw.cell (World.block_lt_of_cell? w0 _ x3)).trans x3
                    replace x4 := (hbw.cell (World.block_lt_of_cell? w0 _ x4)).trans x4
                    replace x5 := (hbw.cell (World.block_lt_of_cell? w0 _ x5)).trans x5
                    replace x6 := (hbw.cell (World.block_lt_of_cell? w0 _ x6)).trans x6
                    replace x7 := (hbw.cell (World.block_lt_of_cell? w0 _ x7)).trans x7
                    have hjm : i.toNat < ds.length := by rw [← HND.out]; omega
                    have hrd : rd_T41 ds i = ds[i.toNat] := by simp [rd_T41, hjm]
                    have hmem := List.getElem_mem hjm
                    rw [hrd] at x0 x1 x2 x3 x4 x5 x6 x7 l4 g4 l5 g5 l6 g6 l7 g7
                    have HTK : Aside0 (declL (ds.take (i + 1).toNat) (t + 1) = declL (ds.take i.toNat) (t + 1) ++ declL [ds[i.toNat]] (t + 1)) := ⟨by rw [show (i + 1).toNat = i.toNat + 1 by omega]; exact declL_take ds (t + 1) i.toNat hjm⟩
                    have hle := declL_part ds (t + 1) (i + 1).toNat
                    have HMEM := Aside0.mk hmem
                    clear hrd hmem hbw
                    generalize ds[i.toNat] = f at *
                    have HG4 := Aside0.mk g4
                    have HG5 := Aside0.mk g5
                    have HG6 := Aside0.mk g6
                    have HG7 := Aside0.mk g7
                    clear l4 g4 l5 g5 l6 g6 l7 g7
                    have HF1 : Aside0 (szP [f] ≤ szP ds) := ⟨szP_mem HMEM.out⟩
                    have HF2 : Aside0 (okL [f] = true) := ⟨okL_mem HIN.out f HMEM.out⟩
                    rw [HTK.out, ByteArray.size_append] at hle
                    have HSZ : Aside0 ((S4 ++ declL (ds.take i.toNat) (t + 1)).size + (declL [f] (t + 1)).size ≤ 140737488355328) := ⟨by have := HL.out; rw [HS4.out, HS3.out, HS2.out, HS1.out]; simp only [ByteArray.size_append]; omega⟩
                    clear hle hjm
                    go_wp2_with fail
                    refine (HIHB.out f B4 B5 B6 B7 k4 k5 k6 k7 (t + 1) _ _ (by have h1 := HF1.out; have h2 := HN.out; omega) (by have h1 := HF1.out; have h2 := HZ.out; omega) HF2.out (by have h1 := HF1.out; have h2 := HTT.out; omega) HSZ.out HG4.out HG5.out HG6.out HG7.out (HR.out.step (by repeat (first | exact Below.refl _ _ | refine below_drew ?_ | refine below_alloc ?_ _))).bel (HR.out.step (by repeat (first | exact Below.refl _ _ | refine below_drew ?_ | refine below_alloc ?_ _))).pr).mono ?_
                    rintro e w4 ⟨rfl, hp4, hb4, hk4⟩
                    have HI4' := Aside0.mk ((HR.out.step (by repeat (first | exact Below.refl _ _ | refine below_drew ?_ | refine below_alloc ?_ _))).wrote hp4 hb4 hk4)
                    clear hp4 hb4 hk4 x0 x1 x2 x3 x4 x5 x6 x7
                    go_wp2_with fail
                    go_roundw
                    case rel => exact ⟨i + 1, by omega, by omega, rfl, ⟨by rw [HTK.out, ← ByteArray.append_assoc]; exact HI4'.out⟩⟩
                    case measure => simp [intOf]; omega
                  · have t1 : decide (i < (nd : Int)) = false := decide_eq_false hlt
                    have htk : ds.take i.toNat = ds := List.take_of_length_le (by rw [← HND.out]; omega)
                    rw [htk] at HR
                    obtain ⟨W5, rfl⟩ : ∃ wo : World, wo = wr := ⟨_, rfl⟩
                    obtain ⟨S5, hS5⟩ : ∃ S', S' = S4 ++ declL ds (t + 1) := ⟨_, rfl⟩
                    rw [← hS5] at HR
                    have HS5 := Aside0.mk hS5
                    have HI5 := HR
                    clear htk hlt hi0 hil HR hS5
                    have c2 : W5.cell? ⟨b, 2, none⟩ = some (.int .i64 ((t : Int) + 1)) := HI5.out.pr.tabs.1
                    have f2 := HI5.out.pr.tabs.2
                    go_upto_region 27 with fail
                    have HI6 := Aside0.mk (HI5.out.put t)
                    clear HI5 c2 f2
                    generalize W5.setCell ⟨b, 2, none⟩ (.int .i64 (t : Int)) = W6 at *
                    have hs6 : S5.size + (lineB t [⟨#[125]⟩]).size ≤ 140737488355328 := by have := HL.out; rw [HS5.out, HS4.out, HS3.out, HS2.out, HS1.out]; simp only [ByteArray.size_append]; omega
                    have HS6 := Aside0.mk hs6
                    clear hs6
                    go_wp2_with fail
                    refine (HLINE.out w.heap.size _ t S5 _ W6.heap.size 1 1 [⟨#[125]⟩] (HI6.out.step (by repeat (first | exact Below.refl _ _ | refine below_drew ?_ | refine below_alloc ?_ _))) (rowAt_new _ _ rfl [⟨#[125]⟩] _ rfl) rfl (by decide) HS6.out).mono ?_
                    rintro e w7 ⟨rfl, hI7, _⟩
                    have HI7 := Aside0.mk hI7
                    clear hI7
                    go_wp2_with fail
                    go_end0
                    refine ⟨rfl, ?_, HI7.out.bel, HI7.out.oth⟩
                    rw [HE.out, show S ++ (lineB t (headLs a nm) ++ (fieldsB fs (t + 1) ++ (valuesB vs (t + 1) ++ (methodsB ms (t + 1) ++ (declL ds (t + 1) ++ lineB t [⟨#[125]⟩]))))) = S5 ++ lineB t [⟨#[125]⟩] by rw [HS5.out, HS4.out, HS3.out, HS2.out, HS1.out]; simp only [ByteArray.append_assoc]]
                    exact HI7.out.pr
end Go.Proofs.YtknbhbppofphpaaGreatDoor.X
