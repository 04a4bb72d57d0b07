/- print.Formed, print.File: what they answer of declarations of few bytes. -/
import Derived.Test.YtknbhbppofphpaaGreatDoorPrFileMath
import Derived.Test.YtknbhbppofphpaaGreatDoorPfFormed
import Derived.Test.YtknbhbppofphpaaGreatDoorPrDecl
import Derived.LoopTactic
set_option linter.unusedVariables false
set_option linter.unusedSimpArgs false
namespace Go.Proofs.YtknbhbppofphpaaGreatDoor.X
open Go.RowKit Go.Shelf Go.Proofs.YtknbhbppofphpaaGreatDoorW.PrintWords Go.Proofs.YtknbhbppofphpaaGreatDoorW.PrintLast Go.Proofs.YtknbhbppofphpaaGreatDoorW.PrintMore
set_option maxHeartbeats 4000000 in
set_option maxRecDepth 100000 in
theorem pFormed.calls (l : List PD) (A : Option Addr) (c : Nat) (m : Int) (w : World) (hC : Kd.C k41 w A l.length l) (hsz : szP l ≤ 900000) (hm : w.cell? ⟨3, 0, none⟩ = some (.int .i64 m)) :
    Calls Tryz.prog 11 #[.slice A l.length c] w fun e w' => e = .returned (.bool (formedP l)) ∧ Below w.heap.size w w' := by
  have HA := Aside0.mk (any_F1.calls (fun d => !pfrmD d 1) A l.length c l w hC (by have := szP_len l; omega) (fun d hd w' A4 A5 A6 A7 c4 c5 c6 c7 hb g4 _ g5 _ g6 _ g7 _ =>
    Formed1.calls d A4 A5 A6 A7 c4 c5 c6 c7 (pfrmD d 1) w' (fun W hW =>
      pformed.calls (szP [d]) d A4 A5 A6 A7 c4 c5 c6 c7 1 m W (Nat.le_refl _) (Nat.le_trans (szP_mem hd) hsz) (by decide) (by have := szP_mem hd; omega) (pw_cell_below (below_step hb hW) hm) (Kd.C_below g4 hW) (Kd.C_below g5 hW) (Kd.C_below g6 hW) (Kd.C_below g7 hW))))
  clear hC hm
  go_enter Tryz.func11, Tryz.ntmps11
  go_wp2_with fail
  refine HA.out.mono ?_
  rintro e w2 ⟨rfl, hb⟩
  have HB := Aside0.mk hb
  have HV : Aside0 (formedP l = !(l.any fun d => !pfrmD d 1)) := ⟨(any_not l _).symm⟩
  clear hb HA
  generalize (l.any fun d => !pfrmD d 1) = x at *
  go_wp2_with fail
  go_ret
  exact ⟨congrArg (fun b => Ending.returned (Value.bool b)) HV.out.symm, HB.out⟩
theorem PrA_fresh (B : Nat) (w : World) (hB : B ≤ w.heap.size) (o : Obj) (ho : o = .cells #[.pointer none, .slice none 0 0, .int .i64 0] 49) : PrA B w.heap.size (.pointer none) 0 ⟨#[]⟩ (w.alloc o) := by
  subst ho
  refine ⟨hB, _, blk_new w _, ?_⟩
  exact World.ownsRowF_nil _ _ _ _
theorem file_string (B pb : Nat) (l : List PD) (w : World) (h : PrAt B pb 0 (fileB l) w) (h0 : l = [] → w.heap[pb]? = some (.cells #[.pointer none, .slice none 0 0, .int .i64 0] 49 (0, 0))) :
    Calls Tryz.prog 16 #[.pointer (some ⟨pb, 0, none⟩)] w fun e w' => e = .returned (.string (fileB l)) ∧ Below B w w' := by
  cases l with
  | nil => exact PrString_nil B pb _ 0 w (h0 rfl)
  | cons d l => exact PrString B pb 0 _ w h (fileB_ne d l)
set_option maxHeartbeats 8000000 in
set_option maxRecDepth 100000 in
theorem printFile.calls (l : List PD) (A : Option Addr) (c : Nat) (m : Int) (w : World) (hC : Kd.C k41 w A l.length l) (hsz : szP l ≤ 300000) (hm : w.cell? ⟨3, 0, none⟩ = some (.int .i64 m)) (hT : LexTabs w) :
    Calls Tryz.prog 7 #[.slice A l.length c] w fun e w' => e = .returned (.tuple #[.string (printV l).1, .int .i64 (printV l).2]) ∧ Below w.heap.size w w' := by
  have HFO := Aside0.mk (pFormed.calls l A c m w hC (by omega) hm)
  have HC := Aside0.mk hC
  have HT := Aside0.mk hT
  have HZ := Aside0.mk hsz
  have hln : l.length ≤ 300000 := by have := szP_len l; omega
  obtain ⟨n, hn⟩ : ∃ n, n = l.length := ⟨_, rfl⟩
  rw [← hn] at HFO HC hln ⊢
  have HN := Aside0.mk hn
  have HOK : Aside0 (formedP l = true → okL l = true) := ⟨formedP_ok⟩
  have HV : Aside0 (printV l = if formedP l then (if (lexE (fileB l) != 0) then (⟨#[]⟩, 4) else (fileB l, 0)) else (⟨#[]⟩, 1)) := ⟨rfl⟩
  clear hC hsz hm hT hn
  go_enter Tryz.func7, Tryz.ntmps7
  go_wp2_with fail
  refine HFO.out.mono ?_
  rintro e w1 ⟨rfl, hb⟩
  have HB1 := Aside0.mk hb
  have hsz1 := hb.size
  clear hb HFO
  generalize formedP l = fo at *
  cases fo with
  | false =>
    rw [if_neg (by decide)] at HV
    go_wp2_with fail
    go_ret2
    exact ⟨congrArg (fun (r : ByteArray × Int) => Ending.returned (Value.tuple #[.string r.1, .int .i64 r.2])) HV.out.symm, HB1.out⟩
  | true =>
  rw [if_pos rfl] at HV
  replace HOK : Aside0 (okL l = true) := ⟨HOK.out rfl⟩
  have HFL : Aside0 ((fileB l).size ≤ 1000000000000) := ⟨fileB_le l HOK.out HZ.out⟩
  go_wp2_with fail
  obtain ⟨B, hB⟩ : ∃ B, B = w.heap.size := ⟨_, rfl⟩
  obtain ⟨pb, hpb⟩ : ∃ pb, pb = w1.heap.size := ⟨_, rfl⟩
  have hPr : PrAt B pb 0 ⟨#[]⟩ (w1.alloc (.cells #[.pointer none, .slice none 0 0, .int .i64 0] 49)) := by rw [hpb, hB]; exact .inl (PrA_fresh _ w1 hsz1 _ rfl)
  have HPR := Aside0.mk hPr
  have HB2 : Aside0 (Below B w (w1.alloc (.cells #[.pointer none, .slice none 0 0, .int .i64 0] 49))) := ⟨by rw [hB]; exact below_alloc HB1.out _⟩
  have HSZ2 : Aside0 (B ≤ (w1.alloc (.cells #[.pointer none, .slice none 0 0, .int .i64 0] 49)).heap.size) := ⟨by rw [hB]; exact (below_alloc HB1.out _).size⟩
  have HX2 : Aside0 ((w1.alloc (.cells #[.pointer none, .slice none 0 0, .int .i64 0] 49)).heap[pb]? = some (.cells #[.pointer none, .slice none 0 0, .int .i64 0] 49 (0, 0))) := ⟨by rw [hpb]; exact blk_new w1 _⟩
  rw [← hpb]
  generalize w1.alloc (.cells #[.pointer none, .slice none 0 0, .int .i64 0] 49) = W2 at *
  have HBD := Aside0.mk hB
  clear hPr hpb hB HB1 hsz1
  have HBW : Aside0 (∀ W, Below B w W → Below w.heap.size w W) := ⟨fun W h => by have hh := HBD.out; subst hh; exact h⟩
  have HWB : Aside0 (∀ W, Below w.heap.size w W → Below B w W) := ⟨fun W h => by have hh := HBD.out; subst hh; exact h⟩
  have HDECL : Aside0 (∀ (d : PD) (A4 A5 A6 A7 : Option Addr) (c4 c5 c6 c7 : Nat) (S : ByteArray) (W : World), szP [d] ≤ 300000 → okL [d] = true → S.size + (declL [d] 0).size ≤ 140737488355328 →
      Kd.C k62 w A4 d.f3.length d.f3 → Kd.C k36 w A5 d.f4.length d.f4 → Kd.C k66 w A6 d.f5.length d.f5 → Kd.C k41 w A7 d.f6.length d.f6 →
      Below B w W → PrAt B pb 0 S W → Calls Tryz.prog 15 #[.pointer (some ⟨pb, 0, none⟩), .agg #[.int .i64 d.f0, .string d.f1, .int .i64 d.f2.f0, .int .i64 d.f2.f1, .slice A4 d.f3.length c4, .slice A5 d.f4.length c5, .slice A6 d.f5.length c6, .slice A7 d.f6.length c7]] W fun e w' => e = .returned (.tuple #[]) ∧ PrAt B pb 0 (S ++ declL [d] 0) w' ∧ Below B W w') := ⟨fun d A4 A5 A6 A7 c4 c5 c6 c7 S W h1 h2 h3 g4 g5 g6 g7 hb hp => by
    have hb' := HBW.out W hb
    have hh := HBD.out
    subst hh
    exact (pdecl.calls (szP [d]) d A4 A5 A6 A7 c4 c5 c6 c7 pb 0 S w W (Nat.le_refl _) (by omega) h2 (by omega) h3 HT.out.pow g4 g5 g6 g7 hb' hp).mono (fun e w' h => ⟨h.1, h.2.1, h.2.2.1⟩)⟩
  go_loopw [18] (fun v18 wr => ∃ i : Int, 0 ≤ i ∧ i ≤ (n : Int) ∧ v18 = .int .i64 i ∧ Aside0 (PrAt B pb 0 (fileB (l.take i.toNat)) wr) ∧ Aside0 (Below B w wr) ∧ Aside0 (B ≤ wr.heap.size) ∧ Aside0 (n = 0 → wr = W2)) (fun v18 _ => n - (intOf v18).toNat)
  case atStart => exact ⟨0, by omega, by omega, rfl, ⟨by rw [show (0 : Int).toNat = 0 from rfl, List.take_zero]; exact HPR.out⟩, HB2, HSZ2, ⟨fun _ => rfl⟩⟩
  case round =>
    obtain ⟨i, hi0, hil, rfl, HP, HR, HS, HZR⟩ := hrel
    by_cases hlt : i < (n : Int)
    · have t1 : decide (i < (n : Int)) = true := decide_eq_true hlt
      obtain ⟨ad, B4, k4, B5, k5, B6, k6, B7, k7, e0, x0, x1, x2, x3, x4, x5, x6, x7, l4, g4, l5, g5, l6, g6, l7, g7⟩ := at_T41 HC.out i hi0 hlt
      subst e0
      have hbw := HBW.out wr HR.out
      replace x0 := (hbw.cell (World.block_lt_of_cell? w _ x0)).trans x0
      replace x1 := (hbw.cell (World.block_lt_of_cell? w _ x1)).trans x1
      replace x2 := (hbw.cell (World.block_lt_of_cell? w _ x2)).trans x2
      replace x3 := (hbw.cell (World.block_lt_of_cell? w _ x3)).trans x3
      replace x4 := (hbw.cell (World.block_lt_of_cell? w _ x4)).trans x4
      replace x5 := (hbw.cell (World.block_lt_of_cell? w _ x5)).trans x5
      replace x6 := (hbw.cell (World.block_lt_of_cell? w _ x6)).trans x6
      replace x7 := (hbw.cell (World.block_lt_of_cell? w _ x7)).trans x7
      have hjm : i.toNat < l.length := by rw [← HN.out]; omega
      have hrd : rd_T41 l i = l[i.toNat] := by simp [rd_T41, hjm]
      have hmem := List.getElem_mem hjm
      rw [hrd] at x0 x1 x2 x3 x4 x5 x6 x7 l4 g4 l5 g5 l6 g6 l7 g7
      have HTK : Aside0 (fileB (l.take (i + 1).toNat) = fileB (l.take i.toNat) ++ sepB i.toNat ++ declL [l[i.toNat]] 0) := ⟨by rw [show (i + 1).toNat = i.toNat + 1 by omega]; exact fileB_take l i.toNat hjm⟩
      have hle := fileB_part l (i + 1).toNat
      have HF1 : Aside0 (szP [l[i.toNat]] ≤ 300000) := ⟨Nat.le_trans (szP_mem hmem) HZ.out⟩
      have HF2 : Aside0 (okL [l[i.toNat]] = true) := ⟨okL_mem HOK.out _ hmem⟩
      clear hrd hmem hbw
      generalize l[i.toNat] = f at *
      rw [HTK.out, ByteArray.size_append, ByteArray.size_append] at hle
      have HSZ : Aside0 ((fileB (l.take i.toNat)).size + (sepB i.toNat).size + (declL [f] 0).size ≤ 1000000000000) := ⟨Nat.le_trans hle HFL.out⟩
      have HG4 := Aside0.mk g4
      have HG5 := Aside0.mk g5
      have HG6 := Aside0.mk g6
      have HG7 := Aside0.mk g7
      clear hle hjm l4 g4 l5 g5 l6 g6 l7 g7
      obtain ⟨S0, hS0⟩ : ∃ S, S = fileB (l.take i.toNat) := ⟨_, rfl⟩
      rw [← hS0] at HP HTK HSZ
      clear hS0
      by_cases hp0 : 0 < i
      · have t2 : decide (0 < i) = true := decide_eq_true hp0
        have HSEP : Aside0 (sepB i.toNat = ⟨#[10]⟩) := ⟨if_pos (by omega)⟩
        rw [HSEP.out] at HTK HSZ
        go_wp2_with fail
        refine (line.calls B pb 0 S0 none 0 0 [] _ (HP.out.below (below_alloc (Below.refl _ _) _)) (.inl rfl) rfl (by decide) (by have := HSZ.out; have e : (⟨#[10]⟩ : ByteArray).size = 1 := rfl; have e0 : (catB []).size = 0 := rfl; omega) (Nat.le_trans HS.out (below_alloc (Below.refl _ _) _).size)).mono ?_
        rintro e w4 ⟨rfl, hp4, hb4, hk4⟩
        rw [show lineB 0 [] = (⟨#[10]⟩ : ByteArray) by unfold lineB tabsB catB; rw [nil_app, nil_app]] at hp4
        obtain ⟨ds, fz, hx⟩ := (HP.out.below (below_alloc (Below.refl _ _) _)).block
        have hnew := blk_new wr (.cells #[.int .i64 f.f0, .string f.f1, .int .i64 f.f2.f0, .int .i64 f.f2.f1, .slice B4 f.f3.length k4, .slice B5 f.f4.length k5, .slice B6 f.f5.length k6, .slice B7 f.f6.length k7] 41)
        have hbox := kept_of (B := 0) hk4 hnew (ne_of_type hnew hx (by decide)) (by decide)
        have d0 := blk_cell hbox 0
        have d1 := blk_cell hbox 1
        have d2 := blk_cell hbox 2
        have d3 := blk_cell hbox 3
        have d4 := blk_cell hbox 4
        have d5 := blk_cell hbox 5
        have d6 := blk_cell hbox 6
        have d7 := blk_cell hbox 7
        have HP4 := Aside0.mk hp4
        have HB4 := Aside0.mk ((HR.out.alloc HS.out _).trans hb4)
        have HS4 := Aside0.mk (Nat.le_trans HS.out (Nat.le_trans (below_alloc (Below.refl _ _) _).size hb4.size))
        clear hp4 hb4 hk4 hx hbox hnew
        go_wp2_with fail
        refine (HDECL.out f B4 B5 B6 B7 k4 k5 k6 k7 _ w4 HF1.out HF2.out (by have h1 := HSZ.out; rw [ByteArray.size_append]; omega) HG4.out HG5.out HG6.out HG7.out HB4.out HP4.out).mono ?_
        rintro e w5 ⟨rfl, hp5, hb5⟩
        have HP5 := Aside0.mk hp5
        have HB5 := Aside0.mk (HB4.out.trans hb5)
        have HS5 := Aside0.mk (Nat.le_trans HS4.out hb5.size)
        clear hp5 hb5
        go_wp2_with fail
        go_roundw
        case rel => exact ⟨i + 1, by omega, by omega, rfl, ⟨by rw [HTK.out]; exact HP5.out⟩, HB5, HS5, ⟨fun h => by omega⟩⟩
        case measure => simp [intOf]; omega
      · have t2 : decide (0 < i) = false := decide_eq_false hp0
        have HSEP : Aside0 (sepB i.toNat = ⟨#[]⟩) := ⟨if_neg (by omega)⟩
        rw [HSEP.out, app_nil] at HTK
        go_wp2_with fail
        have HPQ := Aside0.mk (HP.out.below (below_alloc (Below.refl _ _) (.cells #[.int .i64 f.f0, .string f.f1, .int .i64 f.f2.f0, .int .i64 f.f2.f1, .slice B4 f.f3.length k4, .slice B5 f.f4.length k5, .slice B6 f.f5.length k6, .slice B7 f.f6.length k7] 41)))
        refine (HDECL.out f B4 B5 B6 B7 k4 k5 k6 k7 _ _ HF1.out HF2.out (by have h1 := HSZ.out; omega) HG4.out HG5.out HG6.out HG7.out (HR.out.alloc HS.out _) HPQ.out).mono ?_
        rintro e w5 ⟨rfl, hp5, hb5⟩
        have HP5 := Aside0.mk hp5
        have HB5 := Aside0.mk ((HR.out.alloc HS.out _).trans hb5)
        have HS5 := Aside0.mk (Nat.le_trans HS.out (Nat.le_trans (below_alloc (Below.refl _ _) _).size hb5.size))
        clear hp5 hb5
        go_wp2_with fail
        go_roundw
        case rel => exact ⟨i + 1, by omega, by omega, rfl, ⟨by rw [HTK.out]; exact HP5.out⟩, HB5, HS5, ⟨fun h => by omega⟩⟩
        case measure => simp [intOf]; omega
    · have t1 : decide (i < (n : Int)) = false := decide_eq_false hlt
      have htk : l.take i.toNat = l := List.take_of_length_le (by rw [← HN.out]; omega)
      rw [htk] at HP
      clear htk hlt
      have HSTR : Aside0 (Calls Tryz.prog 16 #[.pointer (some ⟨pb, 0, none⟩)] wr fun e w' => e = .returned (.string (fileB l)) ∧ Below B wr w') := ⟨file_string B pb l wr HP.out (fun h => by rw [HZR.out (by rw [HN.out, h]; rfl)]; exact HX2.out)⟩
      go_wp2_with fail
      refine HSTR.out.mono ?_
      rintro e w5 ⟨rfl, hb5⟩
      have HB5 := Aside0.mk (HR.out.trans hb5)
      clear hb5 HSTR
      go_wp2_with fail
      refine (lex_Words.calls (fileB l) w5 (HT.out.below (HBW.out w5 HB5.out))).mono ?_
      rintro e w6 ⟨v, rfl, _, _, hb6⟩
      have HB6 := Aside0.mk (below_step (HBW.out w5 HB5.out) hb6)
      clear hb6
      have HLE : Aside0 (lexE (fileB l) = (wordsP (fileB l)).2.2.2) := ⟨rfl⟩
      obtain ⟨E, hE⟩ : ∃ E, E = (wordsP (fileB l)).2.2.2 := ⟨_, rfl⟩
      obtain ⟨Q1, hQ1⟩ : ∃ E, E = (wordsP (fileB l)).2.1 := ⟨_, rfl⟩
      obtain ⟨Q2, hQ2⟩ : ∃ E, E = (wordsP (fileB l)).2.2.1 := ⟨_, rfl⟩
      rw [← hE, ← hQ1, ← hQ2]
      rw [HLE.out, ← hE] at HV
      clear hE hQ1 hQ2 HLE
      obtain ⟨bE, hbE⟩ : ∃ b, (E != 0) = b := ⟨_, rfl⟩
      rw [hbE] at HV
      cases bE with
      | true =>
        rw [if_pos rfl] at HV
        go_wp2_with fail
        go_ret2
        exact ⟨congrArg (fun (r : ByteArray × Int) => Ending.returned (Value.tuple #[.string r.1, .int .i64 r.2])) HV.out.symm, below_alloc HB6.out _⟩
      | false =>
        rw [if_neg (by decide)] at HV
        go_wp2_with fail
        go_ret2
        exact ⟨congrArg (fun (r : ByteArray × Int) => Ending.returned (Value.tuple #[.string r.1, .int .i64 r.2])) HV.out.symm, below_alloc HB6.out _⟩
end Go.Proofs.YtknbhbppofphpaaGreatDoor.X
