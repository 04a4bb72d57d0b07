/- courierref03.Words: what it answers of any text. -/
import Derived.Test.YtknbhbppofphpaaGreatDoorRefLexM
import Derived.RegionTactic
import Derived.BigRegion
import Derived.ChangeAlike
import Derived.Deep.AppendLies
set_option linter.unusedVariables false
set_option linter.unusedSimpArgs false
namespace Go.Proofs.YtknbhbppofphpaaGreatDoor.X
open Go.RowKit Go.Shelf Go.Proofs.YtknbhbppofphpaaGreatDoorW.PrintWords Go.Proofs.YtknbhbppofphpaaGreatDoorW.PrintLast Go.Proofs.YtknbhbppofphpaaGreatDoorW.PrintMore
def szOf : Value → Nat
  | .string t => t.size
  | _ => 0
def RefPost (r : List Wd × Int × Int × Int) (w : World) (e : Ending) (w' : World) : Prop :=
  ∃ v, e = .returned (.tuple #[v, .agg #[.int .i64 r.2.1, .int .i64 r.2.2.1], .int .i64 r.2.2.2]) ∧ w'.ownsRow w.heap.size 100 4 v r.1.length (rowCells r.1) ∧ r.1.length ≤ 4000 ∧ Below w.heap.size w w'
theorem infoWordR : (Tryz.prog.info? 100).map (fun i => (i.zero, i.size, i.bytes)) = some (some (.agg #[.int .i64 0, .string ⟨#[]⟩, .int .i64 0, .int .i64 0]), 4, 40) := by kernel_rfl
theorem sz_cut {T : ByteArray} {m : Nat} (h0 : 0 < m) (h1 : m ≤ T.size) : szOf (.string (T.extract m T.size)) < szOf (.string T) := by
  show (T.extract m T.size).size < T.size
  rw [ByteArray.size_extract]
  omega
theorem wd_cells (x : Wd) : ∀ u ∈ [Value.int .i64 x.kind, .string x.text, .int .i64 x.line, .int .i64 x.col], u.oneCell' = true := wd_one x
theorem row_snoc (o : List Wd) (x : Wd) : rowCells (o ++ [x]) = rowCells o ++ [Value.int .i64 x.kind, .string x.text, .int .i64 x.line, .int .i64 x.col] := by rw [rowCells_append, rowCells_one]; rfl
set_option maxHeartbeats 4000000 in
set_option maxRecDepth 100000 in
theorem courierref03_Words.calls (s : ByteArray) (w : World) (hT : Lib.Utf8Tabs (Tryz.lays196_ren.g 3) (Tryz.lays196_ren.g 4) w) :
    Calls Tryz.prog 23 #[.string s] w (RefPost (refWords s) w) := by
  have HT := Aside0.mk hT
  clear hT
  have HW0 : Aside0 (refWords s = if 20000 < s.size then ([], 1, 1, 4) else refW s s.size 0 [] 1 1) := ⟨rfl⟩
  have HZ := Aside0.mk (blk_new w (.cells #[.int .i64 0, .int .i64 0] 34))
  have HZP : Aside0 (((w.alloc (.cells #[.int .i64 0, .int .i64 0] 34)).alloc (.cells #[.int .i64 1, .int .i64 1] 34)).heap[w.heap.size + 1]? = some (.cells #[.int .i64 1, .int .i64 1] 34 (0, 0))) := ⟨by
    have h := blk_new (w.alloc (.cells #[.int .i64 0, .int .i64 0] 34)) (.cells #[.int .i64 1, .int .i64 1] 34)
    have e : (w.alloc (.cells #[.int .i64 0, .int .i64 0] 34)).heap.size = w.heap.size + 1 := by simp
    rw [e] at h
    exact h⟩
  by_cases h20 : 20000 < s.size
  · have t0 : decide ((20000 : Int) < (s.size : Int)) = true := decide_eq_true (by omega)
    have t0n : decide (20000 < s.size) = true := decide_eq_true h20
    rw [if_pos h20] at HW0
    clear h20
    go_enter Tryz.func23, Tryz.ntmps23
    go_wp2_with fail
    refine bodyPost_ret (v := .tuple #[.slice none 0 0, .agg #[.int .i64 1, .int .i64 1], .int .i64 4]) (by simp [results, Tryz.results23, go_sem]) rfl ?_
    rw [HW0.out]
    exact ⟨.slice none 0 0, rfl, own_nil _ _ _ _, by simp, by repeat (first | exact Below.refl _ _ | refine bel_set ?_ (Nat.le_refl _) _ | refine below_alloc ?_ _)⟩
  have t0 : decide ((20000 : Int) < (s.size : Int)) = false := decide_eq_false (by omega)
  have t0n : decide (20000 < s.size) = false := decide_eq_false h20
  rw [if_neg h20] at HW0
  have hs : s.size ≤ 20000 := by omega
  have hsx := sfx_zero s
  have HS0 := Aside0.mk hsx
  clear h20 hsx
  go_enter Tryz.func23, Tryz.ntmps23
  go_wp2_with fail
  go_loopw [0, 5] (fun v0 v5 wr => ∃ (pos f : Nat) (o : List Wd) (l c : Int) (A : Option Addr) (n cap : Nat), v0 = .string (sfx s pos) ∧ v5 = .slice A n cap ∧ Aside0 (n = o.length) ∧ n ≤ 4000 ∧ pos ≤ s.size ∧ s.size ≤ pos + f ∧ 0 ≤ l ∧ l ≤ (pos : Int) + 1 ∧ 0 ≤ c ∧ c ≤ (pos : Int) + 1 ∧ Aside0 (wr.heap[w.heap.size]? = some (.cells #[.int .i64 0, .int .i64 0] 34 (0, 0))) ∧ Aside0 (wr.heap[w.heap.size + 1]? = some (.cells #[.int .i64 l, .int .i64 c] 34 (0, 0))) ∧ Aside0 (wr.ownsRow w.heap.size 100 4 (.slice A n cap) n (rowCells o)) ∧ Aside0 (Below w.heap.size w wr) ∧ Aside0 (refW s f pos o l c = refWords s)) (fun v0 _ _ => szOf v0)
  case atStart =>
    refine ⟨0, s.size, [], 1, 1, none, 0, 0, by rw [HS0.out], rfl, ⟨rfl⟩, by omega, by omega, by omega, by omega, by omega, by omega, by omega, ⟨?_⟩, ⟨?_⟩, ⟨own_nil _ _ _ _⟩, ⟨?_⟩, ⟨HW0.out.symm⟩⟩
    · exact blk_alloc HZ.out _
    · exact HZP.out
    · exact below_alloc (below_alloc (Below.refl _ _) _) _
  case round =>
    obtain ⟨pos, f, o, l, c, A, n, cap, rfl, rfl, HN, hn, hp, hf, hl0, hl1, hc0, hc1, HZ1, HP, HO, HB, HA⟩ := hrel
    obtain ⟨T, hTe⟩ : ∃ T, sfx s pos = T := ⟨_, rfl⟩
    have HTE := Aside0.mk hTe
    have hTz : pos + T.size ≤ s.size ∧ s.size ≤ pos + T.size := by have := sfx_size s pos; rw [hTe] at this; omega
    rw [hTe]
    clear hTe
    by_cases hlt : 0 < T.size
    · have t1 : decide ((0 : Int) < (T.size : Int)) = true := decide_eq_true (by omega)
      have t1n : decide (0 < T.size) = true := decide_eq_true hlt
      have hps : pos < s.size := by omega
      obtain ⟨g, rfl⟩ : ∃ g, f = g + 1 := ⟨f - 1, by omega⟩
      have HG : Aside0 (refW s (g + 1) pos o l c = if lxRune s pos = 10 then refW s g (pos + 1) o (l + 1) 1
        else if lxRune s pos = 32 ∨ lxRune s pos = 9 then refW s g (pos + 1) o l (c + 1)
        else if lxRune s pos = 47 ∧ pos + 1 < s.size ∧ (s.get! (pos + 1)).toNat = 47 then refW s g (remR s s.size pos c).1 o l (remR s s.size pos c).2
        else if rightR (wdR s pos l c).1 (lxRune s pos) = true then
          (if o.length = 4000 then ([], l, c, 4) else refW s g (wdR s pos l c).2.1 (o ++ [(wdR s pos l c).1]) l (c + (wdR s pos l c).2.2))
        else ([], l, c, 6)) := ⟨by rw [refW, if_pos hps]⟩
      have hwd := Lib.width_pos s pos
      have hin := width_in hps
      have hcn := courierref03_next.calls s pos hps wr (Utf8Tabs_below HT.out HB.out)
      rw [HTE.out] at hcn
      have HCN := Aside0.mk hcn
      have hbd := rune_bd s pos
      have HPS := Aside0.mk hps
      have HWD : Aside0 (wdR s pos l c = wdR s pos l c) := ⟨rfl⟩
      have HB10 : Aside0 (∀ b : Nat, b < 128 → lxRune s pos = (b : Int) → (Utf8.decode s pos).2 = 1) := ⟨fun b hb h => lxRune_wid hb h⟩
      clear hcn hps
      go_wp2_with fail
      refine HCN.out.mono ?_
      rintro e w1 ⟨rfl, hb⟩
      have HB1 := Aside0.mk (below_step HB.out hb)
      have hp1 := blk_below HP.out hb
      have hz1 := blk_below HZ1.out hb
      have HP1 := Aside0.mk hp1
      have HZ2 := Aside0.mk hz1
      have HO1 := Aside0.mk (pw_own_below HO.out hb)
      have d0 : w1.cell? ⟨w.heap.size + 1, 0, none⟩ = some (.int .i64 l) := blk_cell hp1 0
      have d1 : w1.cell? ⟨w.heap.size + 1, 1, none⟩ = some (.int .i64 c) := blk_cell hp1 1
      have f0 := blk_frozen hp1 0
      have f1 := blk_frozen hp1 1
      clear hb HCN hp1 hz1 HB HP HZ1 HO
      obtain ⟨R, hR⟩ : ∃ R, lxRune s pos = R := ⟨_, rfl⟩
      obtain ⟨q, hq⟩ : ∃ q, (Utf8.decode s pos).2 = q := ⟨_, rfl⟩
      rw [hR] at HG hbd HB10 ⊢
      rw [hq] at hwd hin HB10 ⊢
      have HR := Aside0.mk hR
      have HQ := Aside0.mk hq
      clear hR hq
      by_cases h10 : R = 10
      · have u10 : (R == 10) = true := beq_iff_eq.mpr h10
        rw [if_pos h10] at HG
        have hq1 : q = 1 := HB10.out 10 (by decide) h10
        have HNE : Aside0 (some (w.heap.size + 1) ≠ (Value.slice A n cap).ownBlock) := ⟨own_ne HO1.out HP1.out (by decide)⟩
        clear h10 hq1
        go_wp2_with fail
        go_roundw
        case rel =>
          refine ⟨pos + 1, g, o, l + 1, 1, A, n, cap, by rw [← HTE.out, sfx_sfx hp (by omega)], rfl, HN, hn, by omega, by omega, by omega, by omega, by omega, by omega, ⟨?_⟩, ⟨?_⟩, ⟨?_⟩, ⟨?_⟩, ⟨HG.out.symm.trans HA.out⟩⟩
          · exact blk_far (blk_far HZ2.out (by show w.heap.size ≠ w.heap.size + 1; omega) _) (by show w.heap.size ≠ w.heap.size + 1; omega) _
          · exact blk_put (blk_put HP1.out 0 _ rfl) 1 _ rfl
          · exact own_setCell (own_setCell HO1.out HNE.out _) HNE.out _
          · exact bel_set (bel_set HB1.out (by omega) _) (by omega) _
        case measure => exact sz_cut (by omega) (by omega)
      have u10 : (R == 10) = false := beq_eq_false_iff_ne.mpr h10
      rw [if_neg h10] at HG
      by_cases h32 : R = 32 ∨ R = 9
      · rw [if_pos h32] at HG
        have HNE : Aside0 (some (w.heap.size + 1) ≠ (Value.slice A n cap).ownBlock) := ⟨own_ne HO1.out HP1.out (by decide)⟩
        by_cases h3 : R = 32
        · have u32 : (R == 32) = true := beq_iff_eq.mpr h3
          clear h10 h32 h3
          go_wp2_with fail
          go_roundw
          case rel =>
            refine ⟨pos + 1, g, o, l, c + 1, A, n, cap, by rw [← HTE.out, sfx_sfx hp (by omega)], rfl, HN, hn, by omega, by omega, by omega, by omega, by omega, by omega, ⟨?_⟩, ⟨?_⟩, ⟨?_⟩, ⟨?_⟩, ⟨HG.out.symm.trans HA.out⟩⟩
            · exact blk_far HZ2.out (by show w.heap.size ≠ w.heap.size + 1; omega) _
            · exact blk_put HP1.out 1 _ rfl
            · exact own_setCell HO1.out HNE.out _
            · exact bel_set HB1.out (by omega) _
          case measure => exact sz_cut (by omega) (by omega)
        · have u32 : (R == 32) = false := beq_eq_false_iff_ne.mpr h3
          have u9 : (R == 9) = true := beq_iff_eq.mpr (h32.resolve_left h3)
          clear h10 h32 h3
          go_wp2_with fail
          go_roundw
          case rel =>
            refine ⟨pos + 1, g, o, l, c + 1, A, n, cap, by rw [← HTE.out, sfx_sfx hp (by omega)], rfl, HN, hn, by omega, by omega, by omega, by omega, by omega, by omega, ⟨?_⟩, ⟨?_⟩, ⟨?_⟩, ⟨?_⟩, ⟨HG.out.symm.trans HA.out⟩⟩
            · exact blk_far HZ2.out (by show w.heap.size ≠ w.heap.size + 1; omega) _
            · exact blk_put HP1.out 1 _ rfl
            · exact own_setCell HO1.out HNE.out _
            · exact bel_set HB1.out (by omega) _
          case measure => exact sz_cut (by omega) (by omega)
      have u32 : (R == 32) = false := beq_eq_false_iff_ne.mpr (by omega)
      have u9 : (R == 9) = false := beq_eq_false_iff_ne.mpr (by omega)
      rw [if_neg h32] at HG
      by_cases h47 : R = 47
      · have u47 : (R == 47) = true := beq_iff_eq.mpr h47
        have hl2 : letterZ R = false := by rw [h47]; decide
        have hd2 : digitZ R = false := by rw [h47]; decide
        by_cases h1 : 1 < T.size
        · have t2i : decide ((1 : Int) < (T.size : Int)) = true := decide_eq_true (by omega)
          have t2 : decide (1 < T.size) = true := decide_eq_true h1
          have hel : T[1]'h1 = s.get! (pos + 1) := by rw [get_el h1, ← HTE.out, sfx_get hp]
          by_cases hb2 : (s.get! (pos + 1)).toNat = 47
          · have u2 : (((T[1]'h1).toNat : Int) == 47) = true := beq_iff_eq.mpr (by rw [hel]; omega)
            rw [if_pos ⟨h47, by omega, hb2⟩] at HG
            have HNT : Aside0 ((s.get! pos).toNat ≠ 10) := ⟨by rw [lxRune_byte (b := 47) (by decide) (HR.out.trans h47)]; decide⟩
            have HLE := Aside0.mk (remR_le s s.size pos c hp)
            have HGO := Aside0.mk (remR_go (f := s.size) (by omega) HPS.out HNT.out c)
            clear h10 h32 h47 hl2 hd2 hel hb2 d0 d1 f0 f1
            go_wp2_with fail
            clear t1 t1n u10 u32 u9 u47 t2i t2 u2 hwd hin hbd
            go_loopw [0] (fun v0 wq => ∃ (p2 f2 : Nat) (c2 : Int), v0 = .string (sfx s p2) ∧ pos ≤ p2 ∧ p2 ≤ s.size ∧ s.size ≤ p2 + f2 ∧ c ≤ c2 ∧ c2 ≤ (p2 : Int) + 1 ∧ Aside0 (wq.heap[w.heap.size]? = some (.cells #[.int .i64 0, .int .i64 0] 34 (0, 0))) ∧ Aside0 (wq.heap[w.heap.size + 1]? = some (.cells #[.int .i64 l, .int .i64 c2] 34 (0, 0))) ∧ Aside0 (wq.ownsRow w.heap.size 100 4 (.slice A n cap) n (rowCells o)) ∧ Aside0 (Below w.heap.size w wq) ∧ Aside0 (remR s f2 p2 c2 = remR s s.size pos c)) (fun v0 _ => szOf v0)
            case atStart => exact ⟨pos, s.size, c, by rw [HTE.out], by omega, by omega, by omega, by omega, by omega, HZ2, HP1, HO1, HB1, ⟨rfl⟩⟩
            case round =>
              clear HZ2 HP1 HO1 HB1
              obtain ⟨p2, f2, c2, rfl, hpp, hp2, hf2, hcc, hc2, HZ7, HP7, HO7, HB7, HA2⟩ := hrel
              obtain ⟨U, hUe⟩ : ∃ U, sfx s p2 = U := ⟨_, rfl⟩
              have HUE := Aside0.mk hUe
              have hUz : p2 + U.size ≤ s.size ∧ s.size ≤ p2 + U.size := by have := sfx_size s p2; rw [hUe] at this; omega
              rw [hUe]
              clear hUe
              have HNE : Aside0 (some (w.heap.size + 1) ≠ (Value.slice A n cap).ownBlock) := ⟨own_ne HO7.out HP7.out (by decide)⟩
              have hend : p2 = (remR s s.size pos c).1 → c2 = (remR s s.size pos c).2 → szOf (.string U) < szOf (.string T) := by
                intro e _
                have h1 := HGO.out
                have h2 := HLE.out
                show U.size < T.size
                omega
              have HEND := Aside0.mk hend
              clear hend
              by_cases hu : 0 < U.size
              · have v1 : decide ((0 : Int) < (U.size : Int)) = true := decide_eq_true (by omega)
                have v1n : decide (0 < U.size) = true := decide_eq_true hu
                have hel : U[0]'hu = s.get! p2 := by rw [get_el hu, ← HUE.out, sfx_get hp2]; rfl
                obtain ⟨g2, rfl⟩ : ∃ g2, f2 = g2 + 1 := ⟨f2 - 1, by omega⟩
                have HRM : Aside0 (remR s (g2 + 1) p2 c2 = if p2 < s.size ∧ (s.get! p2).toNat ≠ 10 then remR s g2 (p2 + (Utf8.decode s p2).2) (c2 + 1) else (p2, c2)) := ⟨by rw [remR]⟩
                have hp2s : p2 < s.size := by omega
                by_cases hten : (s.get! p2).toNat = 10
                · have u3 : (((U[0]'hu).toNat : Int) != 10) = false := bne_eq_false_iff_eq.mpr (by rw [hel]; omega)
                  have u3b : (((U[0]'hu).toNat : Int) == 10) = true := beq_iff_eq.mpr (by rw [hel]; omega)
                  have HRE : Aside0 ((p2, c2) = remR s s.size pos c) := ⟨by rw [← HA2.out, HRM.out, if_neg (fun h => h.2 hten)]⟩
                  have hgo2 := HGO.out
                  rw [← HRE.out] at HG hgo2
                  dsimp only at HG hgo2
                  clear hel hten hp2s
                  go_wp2_with fail
                  go_roundw
                  case rel =>
                    exact ⟨p2, g, o, l, c2, A, n, cap, by rw [HUE.out], rfl, HN, hn, hp2, by omega, by omega, by omega, by omega, by omega, HZ7, HP7, HO7, HB7, ⟨HG.out.symm.trans HA.out⟩⟩
                  case measure => exact HEND.out (by rw [← HRE.out]) (by rw [← HRE.out])
                · have u3 : (((U[0]'hu).toNat : Int) != 10) = true := bne_iff_ne.mpr (by rw [hel]; omega)
                  have u3b : (((U[0]'hu).toNat : Int) == 10) = false := beq_eq_false_iff_ne.mpr (by rw [hel]; omega)
                  have hwd2 := Lib.width_pos s p2
                  have hin2 := width_in hp2s
                  have hcn := courierref03_next.calls s p2 hp2s _ (Utf8Tabs_below HT.out HB7.out)
                  rw [HUE.out] at hcn
                  have HCN := Aside0.mk hcn
                  have HRE : Aside0 (remR s g2 (p2 + (Utf8.decode s p2).2) (c2 + 1) = remR s s.size pos c) := ⟨by rw [← HA2.out, HRM.out, if_pos ⟨hp2s, hten⟩]⟩
                  generalize (Utf8.decode s p2).2 = q2 at *
                  clear hel hten hp2s hcn
                  go_wp2_with fail
                  refine HCN.out.mono ?_
                  rintro e w8 ⟨rfl, hb⟩
                  have hp8 := blk_below HP7.out hb
                  have HP8 := Aside0.mk hp8
                  have HZ8 := Aside0.mk (blk_below HZ7.out hb)
                  have HO8 := Aside0.mk (pw_own_below HO7.out hb)
                  have HB8 := Aside0.mk (below_step HB7.out hb)
                  have d1 : w8.cell? ⟨w.heap.size + 1, 1, none⟩ = some (.int .i64 c2) := blk_cell hp8 1
                  have f1 := blk_frozen hp8 1
                  have hqi2 : (q2 : Int) ≤ (U.size : Int) := by omega
                  clear hb HCN hp8 HB7 HP7 HZ7 HO7
                  go_wp2_with fail
                  go_roundw
                  case rel =>
                    refine ⟨p2 + q2, g2, c2 + 1, by rw [← HUE.out, sfx_sfx hp2 (by omega)], by omega, by omega, by omega, by omega, by omega, ⟨?_⟩, ⟨?_⟩, ⟨?_⟩, ⟨?_⟩, HRE⟩
                    · exact blk_far HZ8.out (by show w.heap.size ≠ w.heap.size + 1; omega) _
                    · exact blk_put HP8.out 1 _ rfl
                    · exact own_setCell HO8.out HNE.out _
                    · exact bel_set HB8.out (by omega) _
                  case measure => exact sz_cut (by omega) (by omega)
              · have v1 : decide ((0 : Int) < (U.size : Int)) = false := decide_eq_false (by omega)
                have v1n : decide (0 < U.size) = false := decide_eq_false hu
                have HRE : Aside0 ((p2, c2) = remR s s.size pos c) := ⟨by
                  rw [← HA2.out]
                  cases f2 with
                  | zero => rfl
                  | succ f2 => rw [remR, if_neg (by omega)]⟩
                have hgo2 := HGO.out
                rw [← HRE.out] at HG hgo2
                dsimp only at HG hgo2
                go_wp2_with fail
                go_roundw
                case rel =>
                  exact ⟨p2, g, o, l, c2, A, n, cap, by rw [HUE.out], rfl, HN, hn, hp2, by omega, by omega, by omega, by omega, by omega, HZ7, HP7, HO7, HB7, ⟨HG.out.symm.trans HA.out⟩⟩
                case measure => exact HEND.out (by rw [← HRE.out]) (by rw [← HRE.out])
          · have u2 : (((T[1]'h1).toNat : Int) == 47) = false := beq_eq_false_iff_ne.mpr (by rw [hel]; omega)
            rw [if_neg (fun h => hb2 h.2.2)] at HG
            clear h10 h32 h47 hel hb2
            have hqi : (q : Int) ≤ (T.size : Int) := by omega
            have hszh := blk_lt HP1.out
            have d0a : (w1.alloc (.cells #[.int .i64 0, .string { data := #[] }, .int .i64 0, .int .i64 0] 100)).cell? ⟨w.heap.size + 1, 0, none⟩ = some (.int .i64 l) := pw_cell_below (below_alloc (Below.refl _ _) _) d0
            have d1a : (w1.alloc (.cells #[.int .i64 0, .string { data := #[] }, .int .i64 0, .int .i64 0] 100)).cell? ⟨w.heap.size + 1, 1, none⟩ = some (.int .i64 c) := pw_cell_below (below_alloc (Below.refl _ _) _) d1
            go_wp2_with fail
            go_region
            obtain ⟨b, hbe⟩ : ∃ b, b = w1.heap.size := ⟨_, rfl⟩
            have hbh : w.heap.size + 1 < b := by omega
            rw [← hbe]
            obtain ⟨W2, hW2⟩ : ∃ W2, W2 = (w1.alloc (.cells #[.int .i64 3, .string (T.extract 0 q), .int .i64 l, .int .i64 c] 100)).drew := ⟨_, rfl⟩
            have HX2 : Aside0 (W2.heap[b]? = some (.cells #[.int .i64 3, .string (T.extract 0 q), .int .i64 l, .int .i64 c] 100 (0, 0))) := ⟨by rw [hW2, hbe]; exact blk_new w1 _⟩
            have HP2 : Aside0 (W2.heap[w.heap.size + 1]? = some (.cells #[.int .i64 l, .int .i64 c] 34 (0, 0))) := ⟨by rw [hW2]; exact blk_drew (blk_alloc HP1.out _)⟩
            have HZ3 : Aside0 (W2.heap[w.heap.size]? = some (.cells #[.int .i64 0, .int .i64 0] 34 (0, 0))) := ⟨by rw [hW2]; exact blk_drew (blk_alloc HZ2.out _)⟩
            have HO2 : Aside0 (W2.ownsRow w.heap.size 100 4 (.slice A n cap) n (rowCells o)) := ⟨by rw [hW2]; exact own_drew (own_alloc HO1.out _)⟩
            have HB2 : Aside0 (Below w.heap.size w W2) := ⟨by rw [hW2]; exact below_drew (below_alloc HB1.out _)⟩
            have HNB : Aside0 (some b ≠ (Value.slice A n cap).ownBlock) := ⟨by rw [hbe]; exact own_ne_new HO1.out 0⟩
            rw [← hW2]
            have HL := Aside0.mk (refletterZ_f R)
            have HD := Aside0.mk (refdigitZ_f R)
            clear hbe hW2 HP1 HZ2 HO1 HB1 d0 d1 f0 f1 d0a d1a hszh
            rw [hl2] at HL
            rw [hd2] at HD
            have HLZ := Aside0.mk (And.intro hl2 hd2)
            clear hl2 hd2
            go_wp2_with fail
            refine (courierref03_Letter.calls R false _ HL.out).mono ?_
            rintro e w' ⟨rfl, ⟨nd, rfl⟩⟩
            go_wp2_with fail
            refine (courierref03_digit.calls R false _ HD.out).mono ?_
            rintro e w' ⟨rfl, ⟨nd2, rfl⟩⟩
            have x0 : W2.cell? ⟨b, 0, none⟩ = some (.int .i64 3) := blk_cell HX2.out 0
            have x1 : W2.cell? ⟨b, 1, none⟩ = some (.string (T.extract 0 q)) := blk_cell HX2.out 1
            have x2 : W2.cell? ⟨b, 2, none⟩ = some (.int .i64 l) := blk_cell HX2.out 2
            have x3 : W2.cell? ⟨b, 3, none⟩ = some (.int .i64 c) := blk_cell HX2.out 3
            go_wp2_with fail
            obtain ⟨W4, hW4⟩ : ∃ W4, W4 = W2.drewN (nd + nd2) := ⟨_, rfl⟩
            have HX4 : Aside0 (W4.heap[b]? = some (.cells #[.int .i64 3, .string (T.extract 0 q), .int .i64 l, .int .i64 c] 100 (0, 0))) := ⟨by rw [hW4]; exact blk_drewN HX2.out _⟩
            have HP4 : Aside0 (W4.heap[w.heap.size + 1]? = some (.cells #[.int .i64 l, .int .i64 c] 34 (0, 0))) := ⟨by rw [hW4]; exact blk_drewN HP2.out _⟩
            have HZ5 : Aside0 (W4.heap[w.heap.size]? = some (.cells #[.int .i64 0, .int .i64 0] 34 (0, 0))) := ⟨by rw [hW4]; exact blk_drewN HZ3.out _⟩
            have HO4 : Aside0 (W4.ownsRow w.heap.size 100 4 (.slice A n cap) n (rowCells o)) := ⟨by rw [hW4]; exact row_drewN HO2.out _⟩
            have HB4 : Aside0 (Below w.heap.size w W4) := ⟨by rw [hW4]; exact pw_below_drewN HB2.out _⟩
            rw [← hW4]
            have hWX : wdR s pos l c = (⟨3, T.extract 0 q, l, c⟩, pos + q, 1) := by
              unfold wdR
              rw [HR.out, if_neg (by rw [HLZ.out.1]; decide), if_neg (by rw [HLZ.out.2]; decide), HQ.out, ← HTE.out, sfx_ext hp]
              rfl
            rw [hWX] at HG
            dsimp only at HG
            clear hW4 hWX
            refine (courierref03_right.calls ⟨3, T.extract 0 q, l, c⟩ R W4 (.inr (.inr rfl)) (by show (T.extract 0 q).size ≤ _; rw [ByteArray.size_extract]; omega) (Utf8Tabs_below HT.out HB4.out)).mono ?_
            rintro e w5 ⟨rfl, hb⟩
            have hx5 := blk_below HX4.out hb
            have hp5 := blk_below HP4.out hb
            have hz5 := blk_below HZ5.out hb
            have HP5 := Aside0.mk hp5
            have HZ6 := Aside0.mk hz5
            have HO5 := Aside0.mk (pw_own_below HO4.out hb)
            have HB5 := Aside0.mk (below_step HB4.out hb)
            have y0 : w5.cell? ⟨b, 0, none⟩ = some (.int .i64 3) := blk_cell hx5 0
            have y1 : w5.cell? ⟨b, 1, none⟩ = some (.string (T.extract 0 q)) := blk_cell hx5 1
            have y2 : w5.cell? ⟨b, 2, none⟩ = some (.int .i64 l) := blk_cell hx5 2
            have y3 : w5.cell? ⟨b, 3, none⟩ = some (.int .i64 c) := blk_cell hx5 3
            have d0 : w5.cell? ⟨w.heap.size + 1, 0, none⟩ = some (.int .i64 l) := blk_cell hp5 0
            have d1 : w5.cell? ⟨w.heap.size + 1, 1, none⟩ = some (.int .i64 c) := blk_cell hp5 1
            have f0 := blk_frozen hp5 0
            have f1 := blk_frozen hp5 1
            have r0 : w5.cell? ⟨w.heap.size, 0, none⟩ = some (.int .i64 0) := blk_cell hz5 0
            have r1 : w5.cell? ⟨w.heap.size, 1, none⟩ = some (.int .i64 0) := blk_cell hz5 1
            have rf0 := blk_frozen hz5 0
            have rf1 := blk_frozen hz5 1
            clear hb hx5 hp5 hz5 HX4 HP4 HZ5 HO4 HB4
            obtain ⟨z, hz⟩ : ∃ z, rightR ⟨3, T.extract 0 q, l, c⟩ R = z := ⟨_, rfl⟩
            rw [hz] at HG ⊢
            clear hz
            cases z with
            | false =>
              rw [if_neg (by decide)] at HG
              go_wp2_with fail
              go_region
              go_wp2_with fail
              refine bodyPost_ret (v := .tuple #[.slice none 0 0, .agg #[.int .i64 l, .int .i64 c], .int .i64 6]) (by simp [results, Tryz.results23, go_sem, r0, r1, rf0, rf1]) rfl ?_
              rw [← HA.out, HG.out]
              exact ⟨.slice none 0 0, rfl, own_nil _ _ _ _, by simp, by repeat (first | exact HB5.out | refine below_drew ?_ | refine bel_set ?_ (by omega) _ | refine below_alloc ?_ _)⟩
            | true =>
              rw [if_pos rfl, ← HN.out] at HG
              by_cases h4 : n = 4000
              · have t4 : (n == 4000) = true := beq_iff_eq.mpr h4
                have t4i : ((n : Int) == 4000) = true := beq_iff_eq.mpr (by omega)
                rw [if_pos h4] at HG
                clear h4
                go_wp2_with fail
                go_region
                go_wp2_with fail
                refine bodyPost_ret (v := .tuple #[.slice none 0 0, .agg #[.int .i64 l, .int .i64 c], .int .i64 4]) (by simp [results, Tryz.results23, go_sem, r0, r1, rf0, rf1]) rfl ?_
                rw [← HA.out, HG.out]
                exact ⟨.slice none 0 0, rfl, own_nil _ _ _ _, by simp, by repeat (first | exact HB5.out | refine below_drew ?_ | refine bel_set ?_ (by omega) _ | refine below_alloc ?_ _)⟩
              · have t4 : (n == 4000) = false := beq_eq_false_iff_ne.mpr h4
                have t4i : ((n : Int) == 4000) = false := beq_eq_false_iff_ne.mpr (by omega)
                rw [if_neg h4] at HG
                have HNE : Aside0 (some (w.heap.size + 1) ≠ (Value.slice A n cap).ownBlock) := ⟨own_ne HO5.out HP5.out (by decide)⟩
                have HNE0 : Aside0 (some w.heap.size ≠ (Value.slice A n cap).ownBlock) := ⟨own_ne HO5.out HZ6.out (by decide)⟩
                have hn4 : n < 4000 := by omega
                have hhw := HB5.out.size
                go_wp2_with (at_builtin; refine print_append_cells (w0 := w) w.heap.size rfl (.tmp 121) (.tmp 123) 73 100 (.agg #[.int .i64 0, .string ⟨#[]⟩, .int .i64 0, .int .i64 0]) 4 40 rfl Tryz.underlying73 infoWordR rfl (by decide) (by decide) (.slice A n cap) n (rowCells o) [.int .i64 3, .string (T.extract 0 q), .int .i64 l, .int .i64 c] (by simp [Act.eval, Act.put]) (by simp [Act.eval, Act.put]) rfl (wd_cells ⟨3, T.extract 0 q, l, c⟩) HO5.out HB5.out hhw (by omega) ?_; intro v1 wA hown1 hbel1 hgrow1 hat1; obtain ⟨A1, c1, rfl⟩ := own_slice hown1; have hpA := blk_grown HP5.out hgrow1 HNE.out; have HPA := Aside0.mk hpA; have HZA := Aside0.mk (blk_grown HZ6.out hgrow1 HNE0.out); have HOA := Aside0.mk hown1; have HBA := Aside0.mk hbel1; have d1A : wA.cell? ⟨w.heap.size + 1, 1, none⟩ = some (.int .i64 c) := blk_cell hpA 1; have f1A := blk_frozen hpA 1; clear hown1 hbel1 hgrow1 hat1 hpA d0 d1 f0 f1 r0 r1 rf0 rf1 y0 y1 y2 y3)
                have HNEA : Aside0 (some (w.heap.size + 1) ≠ (Value.slice A1 (n + 1) c1).ownBlock) := ⟨own_ne HOA.out HPA.out (by decide)⟩
                go_roundw
                case rel =>
                  refine ⟨pos + q, g, o ++ [⟨3, T.extract 0 q, l, c⟩], l, c + 1, A1, n + 1, c1, by rw [← HTE.out, sfx_sfx hp (by omega)], rfl, ⟨by rw [HN.out]; simp⟩, by omega, by omega, by omega, hl0, by omega, by omega, by omega, ⟨?_⟩, ⟨?_⟩, ⟨?_⟩, ⟨?_⟩, ⟨HG.out.symm.trans HA.out⟩⟩
                  · exact blk_far HZA.out (by show w.heap.size ≠ w.heap.size + 1; omega) _
                  · exact blk_put HPA.out 1 _ rfl
                  · rw [row_snoc]; exact own_setCell HOA.out HNEA.out _
                  · exact bel_set HBA.out (by omega) _
                case measure => exact sz_cut (by omega) (by omega)
        · have t2i : decide ((1 : Int) < (T.size : Int)) = false := decide_eq_false (by omega)
          have t2 : decide (1 < T.size) = false := decide_eq_false h1
          rw [if_neg (fun h => h1 (by omega))] at HG
          clear h10 h32 h47 h1
          have hqi : (q : Int) ≤ (T.size : Int) := by omega
          have hszh := blk_lt HP1.out
          have d0a : (w1.alloc (.cells #[.int .i64 0, .string { data := #[] }, .int .i64 0, .int .i64 0] 100)).cell? ⟨w.heap.size + 1, 0, none⟩ = some (.int .i64 l) := pw_cell_below (below_alloc (Below.refl _ _) _) d0
          have d1a : (w1.alloc (.cells #[.int .i64 0, .string { data := #[] }, .int .i64 0, .int .i64 0] 100)).cell? ⟨w.heap.size + 1, 1, none⟩ = some (.int .i64 c) := pw_cell_below (below_alloc (Below.refl _ _) _) d1
          go_wp2_with fail
          go_region
          obtain ⟨b, hbe⟩ : ∃ b, b = w1.heap.size := ⟨_, rfl⟩
          have hbh : w.heap.size + 1 < b := by omega
          rw [← hbe]
          obtain ⟨W2, hW2⟩ : ∃ W2, W2 = (w1.alloc (.cells #[.int .i64 3, .string (T.extract 0 q), .int .i64 l, .int .i64 c] 100)).drew := ⟨_, rfl⟩
          have HX2 : Aside0 (W2.heap[b]? = some (.cells #[.int .i64 3, .string (T.extract 0 q), .int .i64 l, .int .i64 c] 100 (0, 0))) := ⟨by rw [hW2, hbe]; exact blk_new w1 _⟩
          have HP2 : Aside0 (W2.heap[w.heap.size + 1]? = some (.cells #[.int .i64 l, .int .i64 c] 34 (0, 0))) := ⟨by rw [hW2]; exact blk_drew (blk_alloc HP1.out _)⟩
          have HZ3 : Aside0 (W2.heap[w.heap.size]? = some (.cells #[.int .i64 0, .int .i64 0] 34 (0, 0))) := ⟨by rw [hW2]; exact blk_drew (blk_alloc HZ2.out _)⟩
          have HO2 : Aside0 (W2.ownsRow w.heap.size 100 4 (.slice A n cap) n (rowCells o)) := ⟨by rw [hW2]; exact own_drew (own_alloc HO1.out _)⟩
          have HB2 : Aside0 (Below w.heap.size w W2) := ⟨by rw [hW2]; exact below_drew (below_alloc HB1.out _)⟩
          have HNB : Aside0 (some b ≠ (Value.slice A n cap).ownBlock) := ⟨by rw [hbe]; exact own_ne_new HO1.out 0⟩
          rw [← hW2]
          have HL := Aside0.mk (refletterZ_f R)
          have HD := Aside0.mk (refdigitZ_f R)
          clear hbe hW2 HP1 HZ2 HO1 HB1 d0 d1 f0 f1 d0a d1a hszh
          rw [hl2] at HL
          rw [hd2] at HD
          have HLZ := Aside0.mk (And.intro hl2 hd2)
          clear hl2 hd2
          go_wp2_with fail
          refine (courierref03_Letter.calls R false _ HL.out).mono ?_
          rintro e w' ⟨rfl, ⟨nd, rfl⟩⟩
          go_wp2_with fail
          refine (courierref03_digit.calls R false _ HD.out).mono ?_
          rintro e w' ⟨rfl, ⟨nd2, rfl⟩⟩
          have x0 : W2.cell? ⟨b, 0, none⟩ = some (.int .i64 3) := blk_cell HX2.out 0
          have x1 : W2.cell? ⟨b, 1, none⟩ = some (.string (T.extract 0 q)) := blk_cell HX2.out 1
          have x2 : W2.cell? ⟨b, 2, none⟩ = some (.int .i64 l) := blk_cell HX2.out 2
          have x3 : W2.cell? ⟨b, 3, none⟩ = some (.int .i64 c) := blk_cell HX2.out 3
          go_wp2_with fail
          obtain ⟨W4, hW4⟩ : ∃ W4, W4 = W2.drewN (nd + nd2) := ⟨_, rfl⟩
          have HX4 : Aside0 (W4.heap[b]? = some (.cells #[.int .i64 3, .string (T.extract 0 q), .int .i64 l, .int .i64 c] 100 (0, 0))) := ⟨by rw [hW4]; exact blk_drewN HX2.out _⟩
          have HP4 : Aside0 (W4.heap[w.heap.size + 1]? = some (.cells #[.int .i64 l, .int .i64 c] 34 (0, 0))) := ⟨by rw [hW4]; exact blk_drewN HP2.out _⟩
          have HZ5 : Aside0 (W4.heap[w.heap.size]? = some (.cells #[.int .i64 0, .int .i64 0] 34 (0, 0))) := ⟨by rw [hW4]; exact blk_drewN HZ3.out _⟩
          have HO4 : Aside0 (W4.ownsRow w.heap.size 100 4 (.slice A n cap) n (rowCells o)) := ⟨by rw [hW4]; exact row_drewN HO2.out _⟩
          have HB4 : Aside0 (Below w.heap.size w W4) := ⟨by rw [hW4]; exact pw_below_drewN HB2.out _⟩
          rw [← hW4]
          have hWX : wdR s pos l c = (⟨3, T.extract 0 q, l, c⟩, pos + q, 1) := by
            unfold wdR
            rw [HR.out, if_neg (by rw [HLZ.out.1]; decide), if_neg (by rw [HLZ.out.2]; decide), HQ.out, ← HTE.out, sfx_ext hp]
            rfl
          rw [hWX] at HG
          dsimp only at HG
          clear hW4 hWX
          refine (courierref03_right.calls ⟨3, T.extract 0 q, l, c⟩ R W4 (.inr (.inr rfl)) (by show (T.extract 0 q).size ≤ _; rw [ByteArray.size_extract]; omega) (Utf8Tabs_below HT.out HB4.out)).mono ?_
          rintro e w5 ⟨rfl, hb⟩
          have hx5 := blk_below HX4.out hb
          have hp5 := blk_below HP4.out hb
          have hz5 := blk_below HZ5.out hb
          have HP5 := Aside0.mk hp5
          have HZ6 := Aside0.mk hz5
          have HO5 := Aside0.mk (pw_own_below HO4.out hb)
          have HB5 := Aside0.mk (below_step HB4.out hb)
          have y0 : w5.cell? ⟨b, 0, none⟩ = some (.int .i64 3) := blk_cell hx5 0
          have y1 : w5.cell? ⟨b, 1, none⟩ = some (.string (T.extract 0 q)) := blk_cell hx5 1
          have y2 : w5.cell? ⟨b, 2, none⟩ = some (.int .i64 l) := blk_cell hx5 2
          have y3 : w5.cell? ⟨b, 3, none⟩ = some (.int .i64 c) := blk_cell hx5 3
          have d0 : w5.cell? ⟨w.heap.size + 1, 0, none⟩ = some (.int .i64 l) := blk_cell hp5 0
          have d1 : w5.cell? ⟨w.heap.size + 1, 1, none⟩ = some (.int .i64 c) := blk_cell hp5 1
          have f0 := blk_frozen hp5 0
          have f1 := blk_frozen hp5 1
          have r0 : w5.cell? ⟨w.heap.size, 0, none⟩ = some (.int .i64 0) := blk_cell hz5 0
          have r1 : w5.cell? ⟨w.heap.size, 1, none⟩ = some (.int .i64 0) := blk_cell hz5 1
          have rf0 := blk_frozen hz5 0
          have rf1 := blk_frozen hz5 1
          clear hb hx5 hp5 hz5 HX4 HP4 HZ5 HO4 HB4
          obtain ⟨z, hz⟩ : ∃ z, rightR ⟨3, T.extract 0 q, l, c⟩ R = z := ⟨_, rfl⟩
          rw [hz] at HG ⊢
          clear hz
          cases z with
          | false =>
            rw [if_neg (by decide)] at HG
            go_wp2_with fail
            go_region
            go_wp2_with fail
            refine bodyPost_ret (v := .tuple #[.slice none 0 0, .agg #[.int .i64 l, .int .i64 c], .int .i64 6]) (by simp [results, Tryz.results23, go_sem, r0, r1, rf0, rf1]) rfl ?_
            rw [← HA.out, HG.out]
            exact ⟨.slice none 0 0, rfl, own_nil _ _ _ _, by simp, by repeat (first | exact HB5.out | refine below_drew ?_ | refine bel_set ?_ (by omega) _ | refine below_alloc ?_ _)⟩
          | true =>
            rw [if_pos rfl, ← HN.out] at HG
            by_cases h4 : n = 4000
            · have t4 : (n == 4000) = true := beq_iff_eq.mpr h4
              have t4i : ((n : Int) == 4000) = true := beq_iff_eq.mpr (by omega)
              rw [if_pos h4] at HG
              clear h4
              go_wp2_with fail
              go_region
              go_wp2_with fail
              refine bodyPost_ret (v := .tuple #[.slice none 0 0, .agg #[.int .i64 l, .int .i64 c], .int .i64 4]) (by simp [results, Tryz.results23, go_sem, r0, r1, rf0, rf1]) rfl ?_
              rw [← HA.out, HG.out]
              exact ⟨.slice none 0 0, rfl, own_nil _ _ _ _, by simp, by repeat (first | exact HB5.out | refine below_drew ?_ | refine bel_set ?_ (by omega) _ | refine below_alloc ?_ _)⟩
            · have t4 : (n == 4000) = false := beq_eq_false_iff_ne.mpr h4
              have t4i : ((n : Int) == 4000) = false := beq_eq_false_iff_ne.mpr (by omega)
              rw [if_neg h4] at HG
              have HNE : Aside0 (some (w.heap.size + 1) ≠ (Value.slice A n cap).ownBlock) := ⟨own_ne HO5.out HP5.out (by decide)⟩
              have HNE0 : Aside0 (some w.heap.size ≠ (Value.slice A n cap).ownBlock) := ⟨own_ne HO5.out HZ6.out (by decide)⟩
              have hn4 : n < 4000 := by omega
              have hhw := HB5.out.size
              go_wp2_with (at_builtin; refine print_append_cells (w0 := w) w.heap.size rfl (.tmp 121) (.tmp 123) 73 100 (.agg #[.int .i64 0, .string ⟨#[]⟩, .int .i64 0, .int .i64 0]) 4 40 rfl Tryz.underlying73 infoWordR rfl (by decide) (by decide) (.slice A n cap) n (rowCells o) [.int .i64 3, .string (T.extract 0 q), .int .i64 l, .int .i64 c] (by simp [Act.eval, Act.put]) (by simp [Act.eval, Act.put]) rfl (wd_cells ⟨3, T.extract 0 q, l, c⟩) HO5.out HB5.out hhw (by omega) ?_; intro v1 wA hown1 hbel1 hgrow1 hat1; obtain ⟨A1, c1, rfl⟩ := own_slice hown1; have hpA := blk_grown HP5.out hgrow1 HNE.out; have HPA := Aside0.mk hpA; have HZA := Aside0.mk (blk_grown HZ6.out hgrow1 HNE0.out); have HOA := Aside0.mk hown1; have HBA := Aside0.mk hbel1; have d1A : wA.cell? ⟨w.heap.size + 1, 1, none⟩ = some (.int .i64 c) := blk_cell hpA 1; have f1A := blk_frozen hpA 1; clear hown1 hbel1 hgrow1 hat1 hpA d0 d1 f0 f1 r0 r1 rf0 rf1 y0 y1 y2 y3)
              have HNEA : Aside0 (some (w.heap.size + 1) ≠ (Value.slice A1 (n + 1) c1).ownBlock) := ⟨own_ne HOA.out HPA.out (by decide)⟩
              go_roundw
              case rel =>
                refine ⟨pos + q, g, o ++ [⟨3, T.extract 0 q, l, c⟩], l, c + 1, A1, n + 1, c1, by rw [← HTE.out, sfx_sfx hp (by omega)], rfl, ⟨by rw [HN.out]; simp⟩, by omega, by omega, by omega, hl0, by omega, by omega, by omega, ⟨?_⟩, ⟨?_⟩, ⟨?_⟩, ⟨?_⟩, ⟨HG.out.symm.trans HA.out⟩⟩
                · exact blk_far HZA.out (by show w.heap.size ≠ w.heap.size + 1; omega) _
                · exact blk_put HPA.out 1 _ rfl
                · rw [row_snoc]; exact own_setCell HOA.out HNEA.out _
                · exact bel_set HBA.out (by omega) _
              case measure => exact sz_cut (by omega) (by omega)
      have u47 : (R == 47) = false := beq_eq_false_iff_ne.mpr h47
      rw [if_neg (fun h => h47 h.1)] at HG
      clear h10 h32 h47
      have hqi : (q : Int) ≤ (T.size : Int) := by omega
      have hszh := blk_lt HP1.out
      have d0a : (w1.alloc (.cells #[.int .i64 0, .string { data := #[] }, .int .i64 0, .int .i64 0] 100)).cell? ⟨w.heap.size + 1, 0, none⟩ = some (.int .i64 l) := pw_cell_below (below_alloc (Below.refl _ _) _) d0
      have d1a : (w1.alloc (.cells #[.int .i64 0, .string { data := #[] }, .int .i64 0, .int .i64 0] 100)).cell? ⟨w.heap.size + 1, 1, none⟩ = some (.int .i64 c) := pw_cell_below (below_alloc (Below.refl _ _) _) d1
      go_wp2_with fail
      go_region
      obtain ⟨b, hbe⟩ : ∃ b, b = w1.heap.size := ⟨_, rfl⟩
      have hbh : w.heap.size + 1 < b := by omega
      rw [← hbe]
      obtain ⟨W2, hW2⟩ : ∃ W2, W2 = (w1.alloc (.cells #[.int .i64 3, .string (T.extract 0 q), .int .i64 l, .int .i64 c] 100)).drew := ⟨_, rfl⟩
      have HX2 : Aside0 (W2.heap[b]? = some (.cells #[.int .i64 3, .string (T.extract 0 q), .int .i64 l, .int .i64 c] 100 (0, 0))) := ⟨by rw [hW2, hbe]; exact blk_new w1 _⟩
      have HP2 : Aside0 (W2.heap[w.heap.size + 1]? = some (.cells #[.int .i64 l, .int .i64 c] 34 (0, 0))) := ⟨by rw [hW2]; exact blk_drew (blk_alloc HP1.out _)⟩
      have HZ3 : Aside0 (W2.heap[w.heap.size]? = some (.cells #[.int .i64 0, .int .i64 0] 34 (0, 0))) := ⟨by rw [hW2]; exact blk_drew (blk_alloc HZ2.out _)⟩
      have HO2 : Aside0 (W2.ownsRow w.heap.size 100 4 (.slice A n cap) n (rowCells o)) := ⟨by rw [hW2]; exact own_drew (own_alloc HO1.out _)⟩
      have HB2 : Aside0 (Below w.heap.size w W2) := ⟨by rw [hW2]; exact below_drew (below_alloc HB1.out _)⟩
      have HNB : Aside0 (some b ≠ (Value.slice A n cap).ownBlock) := ⟨by rw [hbe]; exact own_ne_new HO1.out 0⟩
      rw [← hW2]
      have HL := Aside0.mk (refletterZ_f R)
      have HD := Aside0.mk (refdigitZ_f R)
      clear hbe hW2 HP1 HZ2 HO1 HB1 d0 d1 f0 f1 d0a d1a hszh
      by_cases hl : letterZ R = true
      · rw [hl] at HL
        have HRUN : Aside0 (∀ W, Below w.heap.size w W → Calls Tryz.prog 37 #[.string T] W fun e w' => e = .returned (.tuple #[.int .i64 ((runR s s.size pos).1 - pos : Nat), .int .i64 (runR s s.size pos).2]) ∧ Below W.heap.size W w') := ⟨fun W h => by rw [← HTE.out]; exact courierref03_run.calls s pos hp (by omega) W (Utf8Tabs_below HT.out h)⟩
        have hle := runR_le s s.size pos hp
        have hgo := runR_go (s := s) (f := s.size) (pos := pos) (by omega) HPS.out (by rw [HR.out]; unfold insideZ; rw [hl]; simp)
        obtain ⟨e1, he1⟩ : ∃ e1, (runR s s.size pos).1 = e1 := ⟨_, rfl⟩
        obtain ⟨k1, hk1⟩ : ∃ k1, (runR s s.size pos).2 = k1 := ⟨_, rfl⟩
        rw [he1, hk1] at HRUN hle
        rw [he1] at hgo
        have HE1 := Aside0.mk he1
        have HK1 := Aside0.mk hk1
        obtain ⟨m, hm⟩ : ∃ m, e1 = pos + m := ⟨e1 - pos, by omega⟩
        rw [hm, Nat.add_sub_cancel_left] at HRUN
        rw [hm] at HE1 hle hgo
        have HLZ := Aside0.mk hl
        clear he1 hk1 hm hl
        go_wp2_with fail
        refine (courierref03_Letter.calls R true _ HL.out).mono ?_
        rintro e w' ⟨rfl, ⟨nd, rfl⟩⟩
        go_wp2_with fail
        refine (HRUN.out _ (pw_below_drewN HB2.out nd)).mono ?_
        rintro e w3 ⟨rfl, hb⟩
        have hx3 := blk_below (blk_drewN HX2.out nd) hb
        have HX3 := Aside0.mk hx3
        have HP3 := Aside0.mk (blk_below (blk_drewN HP2.out nd) hb)
        have HZ4 := Aside0.mk (blk_below (blk_drewN HZ3.out nd) hb)
        have HO3 := Aside0.mk (pw_own_below (row_drewN HO2.out nd) hb)
        have HB3 := Aside0.mk (below_step (pw_below_drewN HB2.out nd) hb)
        have x0 : w3.cell? ⟨b, 0, none⟩ = some (.int .i64 3) := blk_cell hx3 0
        have x1 : w3.cell? ⟨b, 1, none⟩ = some (.string (T.extract 0 q)) := blk_cell hx3 1
        have x2 : w3.cell? ⟨b, 2, none⟩ = some (.int .i64 l) := blk_cell hx3 2
        have x3 : w3.cell? ⟨b, 3, none⟩ = some (.int .i64 c) := blk_cell hx3 3
        have xf0 := blk_frozen hx3 0
        have xf1 := blk_frozen hx3 1
        have hmi : (m : Int) ≤ (T.size : Int) := by omega
        clear hx3 hb HX2 HP2 HZ3 HO2 HB2 HRUN
        go_wp2_with fail
        go_region
        go_wp2_with fail
        obtain ⟨W4, hW4⟩ : ∃ W4, W4 = ((w3.setCell ⟨b, 0, none⟩ (.int .i64 1)).setCell ⟨b, 1, none⟩ (.string (T.extract 0 m))).drew := ⟨_, rfl⟩
        have HX4 : Aside0 (W4.heap[b]? = some (.cells #[.int .i64 1, .string (T.extract 0 m), .int .i64 l, .int .i64 c] 100 (0, 0))) := ⟨by rw [hW4]; exact blk_drew (blk_put (blk_put HX3.out 0 _ rfl) 1 _ rfl)⟩
        have HP4 : Aside0 (W4.heap[w.heap.size + 1]? = some (.cells #[.int .i64 l, .int .i64 c] 34 (0, 0))) := ⟨by rw [hW4]; exact blk_drew (blk_far (blk_far HP3.out (by show w.heap.size + 1 ≠ b; omega) _) (by show w.heap.size + 1 ≠ b; omega) _)⟩
        have HZ5 : Aside0 (W4.heap[w.heap.size]? = some (.cells #[.int .i64 0, .int .i64 0] 34 (0, 0))) := ⟨by rw [hW4]; exact blk_drew (blk_far (blk_far HZ4.out (by show w.heap.size ≠ b; omega) _) (by show w.heap.size ≠ b; omega) _)⟩
        have HO4 : Aside0 (W4.ownsRow w.heap.size 100 4 (.slice A n cap) n (rowCells o)) := ⟨by rw [hW4]; exact own_drew (own_setCell (own_setCell HO3.out HNB.out _) HNB.out _)⟩
        have HB4 : Aside0 (Below w.heap.size w W4) := ⟨by rw [hW4]; exact below_drew (bel_set (bel_set HB3.out (by omega) _) (by omega) _)⟩
        rw [← hW4]
        have hWX : wdR s pos l c = (⟨1, T.extract 0 m, l, c⟩, pos + m, k1) := by
          unfold wdR
          rw [HR.out, if_pos HLZ.out, HE1.out, HK1.out, ← HTE.out, sfx_ext hp]
          rfl
        rw [hWX] at HG
        dsimp only at HG
        clear hW4 hWX
        refine (courierref03_right.calls ⟨1, T.extract 0 m, l, c⟩ R W4 (.inl rfl) (by show (T.extract 0 m).size ≤ _; rw [ByteArray.size_extract]; omega) (Utf8Tabs_below HT.out HB4.out)).mono ?_
        rintro e w5 ⟨rfl, hb⟩
        have hx5 := blk_below HX4.out hb
        have hp5 := blk_below HP4.out hb
        have hz5 := blk_below HZ5.out hb
        have HP5 := Aside0.mk hp5
        have HZ6 := Aside0.mk hz5
        have HO5 := Aside0.mk (pw_own_below HO4.out hb)
        have HB5 := Aside0.mk (below_step HB4.out hb)
        have y0 : w5.cell? ⟨b, 0, none⟩ = some (.int .i64 1) := blk_cell hx5 0
        have y1 : w5.cell? ⟨b, 1, none⟩ = some (.string (T.extract 0 m)) := blk_cell hx5 1
        have y2 : w5.cell? ⟨b, 2, none⟩ = some (.int .i64 l) := blk_cell hx5 2
        have y3 : w5.cell? ⟨b, 3, none⟩ = some (.int .i64 c) := blk_cell hx5 3
        have d0 : w5.cell? ⟨w.heap.size + 1, 0, none⟩ = some (.int .i64 l) := blk_cell hp5 0
        have d1 : w5.cell? ⟨w.heap.size + 1, 1, none⟩ = some (.int .i64 c) := blk_cell hp5 1
        have f0 := blk_frozen hp5 0
        have f1 := blk_frozen hp5 1
        have r0 : w5.cell? ⟨w.heap.size, 0, none⟩ = some (.int .i64 0) := blk_cell hz5 0
        have r1 : w5.cell? ⟨w.heap.size, 1, none⟩ = some (.int .i64 0) := blk_cell hz5 1
        have rf0 := blk_frozen hz5 0
        have rf1 := blk_frozen hz5 1
        clear hb hx5 hp5 hz5 HX4 HP4 HZ5 HO4 HB4
        obtain ⟨z, hz⟩ : ∃ z, rightR ⟨1, T.extract 0 m, l, c⟩ R = z := ⟨_, rfl⟩
        rw [hz] at HG ⊢
        clear hz
        cases z with
        | false =>
          rw [if_neg (by decide)] at HG
          go_wp2_with fail
          go_region
          go_wp2_with fail
          refine bodyPost_ret (v := .tuple #[.slice none 0 0, .agg #[.int .i64 l, .int .i64 c], .int .i64 6]) (by simp [results, Tryz.results23, go_sem, r0, r1, rf0, rf1]) rfl ?_
          rw [← HA.out, HG.out]
          exact ⟨.slice none 0 0, rfl, own_nil _ _ _ _, by simp, by repeat (first | exact HB5.out | refine below_drew ?_ | refine bel_set ?_ (by omega) _ | refine below_alloc ?_ _)⟩
        | true =>
          rw [if_pos rfl, ← HN.out] at HG
          by_cases h4 : n = 4000
          · have t4 : (n == 4000) = true := beq_iff_eq.mpr h4
            have t4i : ((n : Int) == 4000) = true := beq_iff_eq.mpr (by omega)
            rw [if_pos h4] at HG
            clear h4
            go_wp2_with fail
            go_region
            go_wp2_with fail
            refine bodyPost_ret (v := .tuple #[.slice none 0 0, .agg #[.int .i64 l, .int .i64 c], .int .i64 4]) (by simp [results, Tryz.results23, go_sem, r0, r1, rf0, rf1]) rfl ?_
            rw [← HA.out, HG.out]
            exact ⟨.slice none 0 0, rfl, own_nil _ _ _ _, by simp, by repeat (first | exact HB5.out | refine below_drew ?_ | refine bel_set ?_ (by omega) _ | refine below_alloc ?_ _)⟩
          · have t4 : (n == 4000) = false := beq_eq_false_iff_ne.mpr h4
            have t4i : ((n : Int) == 4000) = false := beq_eq_false_iff_ne.mpr (by omega)
            rw [if_neg h4] at HG
            have HNE : Aside0 (some (w.heap.size + 1) ≠ (Value.slice A n cap).ownBlock) := ⟨own_ne HO5.out HP5.out (by decide)⟩
            have HNE0 : Aside0 (some w.heap.size ≠ (Value.slice A n cap).ownBlock) := ⟨own_ne HO5.out HZ6.out (by decide)⟩
            have hn4 : n < 4000 := by omega
            have hhw := HB5.out.size
            go_wp2_with (at_builtin; refine print_append_cells (w0 := w) w.heap.size rfl (.tmp 121) (.tmp 123) 73 100 (.agg #[.int .i64 0, .string ⟨#[]⟩, .int .i64 0, .int .i64 0]) 4 40 rfl Tryz.underlying73 infoWordR rfl (by decide) (by decide) (.slice A n cap) n (rowCells o) [.int .i64 1, .string (T.extract 0 m), .int .i64 l, .int .i64 c] (by simp [Act.eval, Act.put]) (by simp [Act.eval, Act.put]) rfl (wd_cells ⟨1, T.extract 0 m, l, c⟩) HO5.out HB5.out hhw (by omega) ?_; intro v1 wA hown1 hbel1 hgrow1 hat1; obtain ⟨A1, c1, rfl⟩ := own_slice hown1; have hpA := blk_grown HP5.out hgrow1 HNE.out; have HPA := Aside0.mk hpA; have HZA := Aside0.mk (blk_grown HZ6.out hgrow1 HNE0.out); have HOA := Aside0.mk hown1; have HBA := Aside0.mk hbel1; have d1A : wA.cell? ⟨w.heap.size + 1, 1, none⟩ = some (.int .i64 c) := blk_cell hpA 1; have f1A := blk_frozen hpA 1; clear hown1 hbel1 hgrow1 hat1 hpA d0 d1 f0 f1 r0 r1 rf0 rf1 y0 y1 y2 y3)
            have HNEA : Aside0 (some (w.heap.size + 1) ≠ (Value.slice A1 (n + 1) c1).ownBlock) := ⟨own_ne HOA.out HPA.out (by decide)⟩
            go_roundw
            case rel =>
              refine ⟨pos + m, g, o ++ [⟨1, T.extract 0 m, l, c⟩], l, c + k1, A1, n + 1, c1, by rw [← HTE.out, sfx_sfx hp (by omega)], rfl, ⟨by rw [HN.out]; simp⟩, by omega, by omega, by omega, hl0, by omega, by omega, by omega, ⟨?_⟩, ⟨?_⟩, ⟨?_⟩, ⟨?_⟩, ⟨HG.out.symm.trans HA.out⟩⟩
              · exact blk_far HZA.out (by show w.heap.size ≠ w.heap.size + 1; omega) _
              · exact blk_put HPA.out 1 _ rfl
              · rw [row_snoc]; exact own_setCell HOA.out HNEA.out _
              · exact bel_set HBA.out (by omega) _
            case measure => exact sz_cut (by omega) (by omega)
      have hl2 : letterZ R = false := Bool.eq_false_iff.2 hl
      rw [hl2] at HL
      clear hl
      by_cases hd : digitZ R = true
      · rw [hd] at HD
        have HRUN : Aside0 (∀ W, Below w.heap.size w W → Calls Tryz.prog 37 #[.string T] W fun e w' => e = .returned (.tuple #[.int .i64 ((runR s s.size pos).1 - pos : Nat), .int .i64 (runR s s.size pos).2]) ∧ Below W.heap.size W w') := ⟨fun W h => by rw [← HTE.out]; exact courierref03_run.calls s pos hp (by omega) W (Utf8Tabs_below HT.out h)⟩
        have hle := runR_le s s.size pos hp
        have hgo := runR_go (s := s) (f := s.size) (pos := pos) (by omega) HPS.out (by rw [HR.out]; unfold insideZ; rw [hd]; simp)
        obtain ⟨e1, he1⟩ : ∃ e1, (runR s s.size pos).1 = e1 := ⟨_, rfl⟩
        obtain ⟨k1, hk1⟩ : ∃ k1, (runR s s.size pos).2 = k1 := ⟨_, rfl⟩
        rw [he1, hk1] at HRUN hle
        rw [he1] at hgo
        have HE1 := Aside0.mk he1
        have HK1 := Aside0.mk hk1
        obtain ⟨m, hm⟩ : ∃ m, e1 = pos + m := ⟨e1 - pos, by omega⟩
        rw [hm, Nat.add_sub_cancel_left] at HRUN
        rw [hm] at HE1 hle hgo
        have HLZ := Aside0.mk (And.intro hl2 hd)
        clear he1 hk1 hm hl2 hd
        go_wp2_with fail
        refine (courierref03_Letter.calls R false _ HL.out).mono ?_
        rintro e w' ⟨rfl, ⟨nd, rfl⟩⟩
        go_wp2_with fail
        refine (courierref03_digit.calls R true _ HD.out).mono ?_
        rintro e w' ⟨rfl, ⟨nd2, rfl⟩⟩
        go_wp2_with fail
        refine (HRUN.out _ (pw_below_drewN HB2.out (nd + nd2))).mono ?_
        rintro e w3 ⟨rfl, hb⟩
        have hx3 := blk_below (blk_drewN HX2.out (nd + nd2)) hb
        have HX3 := Aside0.mk hx3
        have HP3 := Aside0.mk (blk_below (blk_drewN HP2.out (nd + nd2)) hb)
        have HZ4 := Aside0.mk (blk_below (blk_drewN HZ3.out (nd + nd2)) hb)
        have HO3 := Aside0.mk (pw_own_below (row_drewN HO2.out (nd + nd2)) hb)
        have HB3 := Aside0.mk (below_step (pw_below_drewN HB2.out (nd + nd2)) hb)
        have x0 : w3.cell? ⟨b, 0, none⟩ = some (.int .i64 3) := blk_cell hx3 0
        have x1 : w3.cell? ⟨b, 1, none⟩ = some (.string (T.extract 0 q)) := blk_cell hx3 1
        have x2 : w3.cell? ⟨b, 2, none⟩ = some (.int .i64 l) := blk_cell hx3 2
        have x3 : w3.cell? ⟨b, 3, none⟩ = some (.int .i64 c) := blk_cell hx3 3
        have xf0 := blk_frozen hx3 0
        have xf1 := blk_frozen hx3 1
        have hmi : (m : Int) ≤ (T.size : Int) := by omega
        clear hx3 hb HX2 HP2 HZ3 HO2 HB2 HRUN
        go_wp2_with fail
        go_region
        go_wp2_with fail
        obtain ⟨W4, hW4⟩ : ∃ W4, W4 = ((w3.setCell ⟨b, 0, none⟩ (.int .i64 2)).setCell ⟨b, 1, none⟩ (.string (T.extract 0 m))).drew := ⟨_, rfl⟩
        have HX4 : Aside0 (W4.heap[b]? = some (.cells #[.int .i64 2, .string (T.extract 0 m), .int .i64 l, .int .i64 c] 100 (0, 0))) := ⟨by rw [hW4]; exact blk_drew (blk_put (blk_put HX3.out 0 _ rfl) 1 _ rfl)⟩
        have HP4 : Aside0 (W4.heap[w.heap.size + 1]? = some (.cells #[.int .i64 l, .int .i64 c] 34 (0, 0))) := ⟨by rw [hW4]; exact blk_drew (blk_far (blk_far HP3.out (by show w.heap.size + 1 ≠ b; omega) _) (by show w.heap.size + 1 ≠ b; omega) _)⟩
        have HZ5 : Aside0 (W4.heap[w.heap.size]? = some (.cells #[.int .i64 0, .int .i64 0] 34 (0, 0))) := ⟨by rw [hW4]; exact blk_drew (blk_far (blk_far HZ4.out (by show w.heap.size ≠ b; omega) _) (by show w.heap.size ≠ b; omega) _)⟩
        have HO4 : Aside0 (W4.ownsRow w.heap.size 100 4 (.slice A n cap) n (rowCells o)) := ⟨by rw [hW4]; exact own_drew (own_setCell (own_setCell HO3.out HNB.out _) HNB.out _)⟩
        have HB4 : Aside0 (Below w.heap.size w W4) := ⟨by rw [hW4]; exact below_drew (bel_set (bel_set HB3.out (by omega) _) (by omega) _)⟩
        rw [← hW4]
        have hWX : wdR s pos l c = (⟨2, T.extract 0 m, l, c⟩, pos + m, k1) := by
          unfold wdR
          rw [HR.out, if_neg (by rw [HLZ.out.1]; decide), if_pos HLZ.out.2, HE1.out, HK1.out, ← HTE.out, sfx_ext hp]
          rfl
        rw [hWX] at HG
        dsimp only at HG
        clear hW4 hWX
        refine (courierref03_right.calls ⟨2, T.extract 0 m, l, c⟩ R W4 (.inr (.inl ⟨rfl, by show 0 < (T.extract 0 m).size; rw [ByteArray.size_extract]; omega⟩)) (by show (T.extract 0 m).size ≤ _; rw [ByteArray.size_extract]; omega) (Utf8Tabs_below HT.out HB4.out)).mono ?_
        rintro e w5 ⟨rfl, hb⟩
        have hx5 := blk_below HX4.out hb
        have hp5 := blk_below HP4.out hb
        have hz5 := blk_below HZ5.out hb
        have HP5 := Aside0.mk hp5
        have HZ6 := Aside0.mk hz5
        have HO5 := Aside0.mk (pw_own_below HO4.out hb)
        have HB5 := Aside0.mk (below_step HB4.out hb)
        have y0 : w5.cell? ⟨b, 0, none⟩ = some (.int .i64 2) := blk_cell hx5 0
        have y1 : w5.cell? ⟨b, 1, none⟩ = some (.string (T.extract 0 m)) := blk_cell hx5 1
        have y2 : w5.cell? ⟨b, 2, none⟩ = some (.int .i64 l) := blk_cell hx5 2
        have y3 : w5.cell? ⟨b, 3, none⟩ = some (.int .i64 c) := blk_cell hx5 3
        have d0 : w5.cell? ⟨w.heap.size + 1, 0, none⟩ = some (.int .i64 l) := blk_cell hp5 0
        have d1 : w5.cell? ⟨w.heap.size + 1, 1, none⟩ = some (.int .i64 c) := blk_cell hp5 1
        have f0 := blk_frozen hp5 0
        have f1 := blk_frozen hp5 1
        have r0 : w5.cell? ⟨w.heap.size, 0, none⟩ = some (.int .i64 0) := blk_cell hz5 0
        have r1 : w5.cell? ⟨w.heap.size, 1, none⟩ = some (.int .i64 0) := blk_cell hz5 1
        have rf0 := blk_frozen hz5 0
        have rf1 := blk_frozen hz5 1
        clear hb hx5 hp5 hz5 HX4 HP4 HZ5 HO4 HB4
        obtain ⟨z, hz⟩ : ∃ z, rightR ⟨2, T.extract 0 m, l, c⟩ R = z := ⟨_, rfl⟩
        rw [hz] at HG ⊢
        clear hz
        cases z with
        | false =>
          rw [if_neg (by decide)] at HG
          go_wp2_with fail
          go_region
          go_wp2_with fail
          refine bodyPost_ret (v := .tuple #[.slice none 0 0, .agg #[.int .i64 l, .int .i64 c], .int .i64 6]) (by simp [results, Tryz.results23, go_sem, r0, r1, rf0, rf1]) rfl ?_
          rw [← HA.out, HG.out]
          exact ⟨.slice none 0 0, rfl, own_nil _ _ _ _, by simp, by repeat (first | exact HB5.out | refine below_drew ?_ | refine bel_set ?_ (by omega) _ | refine below_alloc ?_ _)⟩
        | true =>
          rw [if_pos rfl, ← HN.out] at HG
          by_cases h4 : n = 4000
          · have t4 : (n == 4000) = true := beq_iff_eq.mpr h4
            have t4i : ((n : Int) == 4000) = true := beq_iff_eq.mpr (by omega)
            rw [if_pos h4] at HG
            clear h4
            go_wp2_with fail
            go_region
            go_wp2_with fail
            refine bodyPost_ret (v := .tuple #[.slice none 0 0, .agg #[.int .i64 l, .int .i64 c], .int .i64 4]) (by simp [results, Tryz.results23, go_sem, r0, r1, rf0, rf1]) rfl ?_
            rw [← HA.out, HG.out]
            exact ⟨.slice none 0 0, rfl, own_nil _ _ _ _, by simp, by repeat (first | exact HB5.out | refine below_drew ?_ | refine bel_set ?_ (by omega) _ | refine below_alloc ?_ _)⟩
          · have t4 : (n == 4000) = false := beq_eq_false_iff_ne.mpr h4
            have t4i : ((n : Int) == 4000) = false := beq_eq_false_iff_ne.mpr (by omega)
            rw [if_neg h4] at HG
            have HNE : Aside0 (some (w.heap.size + 1) ≠ (Value.slice A n cap).ownBlock) := ⟨own_ne HO5.out HP5.out (by decide)⟩
            have HNE0 : Aside0 (some w.heap.size ≠ (Value.slice A n cap).ownBlock) := ⟨own_ne HO5.out HZ6.out (by decide)⟩
            have hn4 : n < 4000 := by omega
            have hhw := HB5.out.size
            go_wp2_with (at_builtin; refine print_append_cells (w0 := w) w.heap.size rfl (.tmp 121) (.tmp 123) 73 100 (.agg #[.int .i64 0, .string ⟨#[]⟩, .int .i64 0, .int .i64 0]) 4 40 rfl Tryz.underlying73 infoWordR rfl (by decide) (by decide) (.slice A n cap) n (rowCells o) [.int .i64 2, .string (T.extract 0 m), .int .i64 l, .int .i64 c] (by simp [Act.eval, Act.put]) (by simp [Act.eval, Act.put]) rfl (wd_cells ⟨2, T.extract 0 m, l, c⟩) HO5.out HB5.out hhw (by omega) ?_; intro v1 wA hown1 hbel1 hgrow1 hat1; obtain ⟨A1, c1, rfl⟩ := own_slice hown1; have hpA := blk_grown HP5.out hgrow1 HNE.out; have HPA := Aside0.mk hpA; have HZA := Aside0.mk (blk_grown HZ6.out hgrow1 HNE0.out); have HOA := Aside0.mk hown1; have HBA := Aside0.mk hbel1; have d1A : wA.cell? ⟨w.heap.size + 1, 1, none⟩ = some (.int .i64 c) := blk_cell hpA 1; have f1A := blk_frozen hpA 1; clear hown1 hbel1 hgrow1 hat1 hpA d0 d1 f0 f1 r0 r1 rf0 rf1 y0 y1 y2 y3)
            have HNEA : Aside0 (some (w.heap.size + 1) ≠ (Value.slice A1 (n + 1) c1).ownBlock) := ⟨own_ne HOA.out HPA.out (by decide)⟩
            go_roundw
            case rel =>
              refine ⟨pos + m, g, o ++ [⟨2, T.extract 0 m, l, c⟩], l, c + k1, A1, n + 1, c1, by rw [← HTE.out, sfx_sfx hp (by omega)], rfl, ⟨by rw [HN.out]; simp⟩, by omega, by omega, by omega, hl0, by omega, by omega, by omega, ⟨?_⟩, ⟨?_⟩, ⟨?_⟩, ⟨?_⟩, ⟨HG.out.symm.trans HA.out⟩⟩
              · exact blk_far HZA.out (by show w.heap.size ≠ w.heap.size + 1; omega) _
              · exact blk_put HPA.out 1 _ rfl
              · rw [row_snoc]; exact own_setCell HOA.out HNEA.out _
              · exact bel_set HBA.out (by omega) _
            case measure => exact sz_cut (by omega) (by omega)
      have hd2 : digitZ R = false := Bool.eq_false_iff.2 hd
      rw [hd2] at HD
      clear hd
      have HLZ := Aside0.mk (And.intro hl2 hd2)
      clear hl2 hd2
      go_wp2_with fail
      refine (courierref03_Letter.calls R false _ HL.out).mono ?_
      rintro e w' ⟨rfl, ⟨nd, rfl⟩⟩
      go_wp2_with fail
      refine (courierref03_digit.calls R false _ HD.out).mono ?_
      rintro e w' ⟨rfl, ⟨nd2, rfl⟩⟩
      have x0 : W2.cell? ⟨b, 0, none⟩ = some (.int .i64 3) := blk_cell HX2.out 0
      have x1 : W2.cell? ⟨b, 1, none⟩ = some (.string (T.extract 0 q)) := blk_cell HX2.out 1
      have x2 : W2.cell? ⟨b, 2, none⟩ = some (.int .i64 l) := blk_cell HX2.out 2
      have x3 : W2.cell? ⟨b, 3, none⟩ = some (.int .i64 c) := blk_cell HX2.out 3
      go_wp2_with fail
      obtain ⟨W4, hW4⟩ : ∃ W4, W4 = W2.drewN (nd + nd2) := ⟨_, rfl⟩
      have HX4 : Aside0 (W4.heap[b]? = some (.cells #[.int .i64 3, .string (T.extract 0 q), .int .i64 l, .int .i64 c] 100 (0, 0))) := ⟨by rw [hW4]; exact blk_drewN HX2.out _⟩
      have HP4 : Aside0 (W4.heap[w.heap.size + 1]? = some (.cells #[.int .i64 l, .int .i64 c] 34 (0, 0))) := ⟨by rw [hW4]; exact blk_drewN HP2.out _⟩
      have HZ5 : Aside0 (W4.heap[w.heap.size]? = some (.cells #[.int .i64 0, .int .i64 0] 34 (0, 0))) := ⟨by rw [hW4]; exact blk_drewN HZ3.out _⟩
      have HO4 : Aside0 (W4.ownsRow w.heap.size 100 4 (.slice A n cap) n (rowCells o)) := ⟨by rw [hW4]; exact row_drewN HO2.out _⟩
      have HB4 : Aside0 (Below w.heap.size w W4) := ⟨by rw [hW4]; exact pw_below_drewN HB2.out _⟩
      rw [← hW4]
      have hWX : wdR s pos l c = (⟨3, T.extract 0 q, l, c⟩, pos + q, 1) := by
        unfold wdR
        rw [HR.out, if_neg (by rw [HLZ.out.1]; decide), if_neg (by rw [HLZ.out.2]; decide), HQ.out, ← HTE.out, sfx_ext hp]
        rfl
      rw [hWX] at HG
      dsimp only at HG
      clear hW4 hWX
      refine (courierref03_right.calls ⟨3, T.extract 0 q, l, c⟩ R W4 (.inr (.inr rfl)) (by show (T.extract 0 q).size ≤ _; rw [ByteArray.size_extract]; omega) (Utf8Tabs_below HT.out HB4.out)).mono ?_
      rintro e w5 ⟨rfl, hb⟩
      have hx5 := blk_below HX4.out hb
      have hp5 := blk_below HP4.out hb
      have hz5 := blk_below HZ5.out hb
      have HP5 := Aside0.mk hp5
      have HZ6 := Aside0.mk hz5
      have HO5 := Aside0.mk (pw_own_below HO4.out hb)
      have HB5 := Aside0.mk (below_step HB4.out hb)
      have y0 : w5.cell? ⟨b, 0, none⟩ = some (.int .i64 3) := blk_cell hx5 0
      have y1 : w5.cell? ⟨b, 1, none⟩ = some (.string (T.extract 0 q)) := blk_cell hx5 1
      have y2 : w5.cell? ⟨b, 2, none⟩ = some (.int .i64 l) := blk_cell hx5 2
      have y3 : w5.cell? ⟨b, 3, none⟩ = some (.int .i64 c) := blk_cell hx5 3
      have d0 : w5.cell? ⟨w.heap.size + 1, 0, none⟩ = some (.int .i64 l) := blk_cell hp5 0
      have d1 : w5.cell? ⟨w.heap.size + 1, 1, none⟩ = some (.int .i64 c) := blk_cell hp5 1
      have f0 := blk_frozen hp5 0
      have f1 := blk_frozen hp5 1
      have r0 : w5.cell? ⟨w.heap.size, 0, none⟩ = some (.int .i64 0) := blk_cell hz5 0
      have r1 : w5.cell? ⟨w.heap.size, 1, none⟩ = some (.int .i64 0) := blk_cell hz5 1
      have rf0 := blk_frozen hz5 0
      have rf1 := blk_frozen hz5 1
      clear hb hx5 hp5 hz5 HX4 HP4 HZ5 HO4 HB4
      obtain ⟨z, hz⟩ : ∃ z, rightR ⟨3, T.extract 0 q, l, c⟩ R = z := ⟨_, rfl⟩
      rw [hz] at HG ⊢
      clear hz
      cases z with
      | false =>
        rw [if_neg (by decide)] at HG
        go_wp2_with fail
        go_region
        go_wp2_with fail
        refine bodyPost_ret (v := .tuple #[.slice none 0 0, .agg #[.int .i64 l, .int .i64 c], .int .i64 6]) (by simp [results, Tryz.results23, go_sem, r0, r1, rf0, rf1]) rfl ?_
        rw [← HA.out, HG.out]
        exact ⟨.slice none 0 0, rfl, own_nil _ _ _ _, by simp, by repeat (first | exact HB5.out | refine below_drew ?_ | refine bel_set ?_ (by omega) _ | refine below_alloc ?_ _)⟩
      | true =>
        rw [if_pos rfl, ← HN.out] at HG
        by_cases h4 : n = 4000
        · have t4 : (n == 4000) = true := beq_iff_eq.mpr h4
          have t4i : ((n : Int) == 4000) = true := beq_iff_eq.mpr (by omega)
          rw [if_pos h4] at HG
          clear h4
          go_wp2_with fail
          go_region
          go_wp2_with fail
          refine bodyPost_ret (v := .tuple #[.slice none 0 0, .agg #[.int .i64 l, .int .i64 c], .int .i64 4]) (by simp [results, Tryz.results23, go_sem, r0, r1, rf0, rf1]) rfl ?_
          rw [← HA.out, HG.out]
          exact ⟨.slice none 0 0, rfl, own_nil _ _ _ _, by simp, by repeat (first | exact HB5.out | refine below_drew ?_ | refine bel_set ?_ (by omega) _ | refine below_alloc ?_ _)⟩
        · have t4 : (n == 4000) = false := beq_eq_false_iff_ne.mpr h4
          have t4i : ((n : Int) == 4000) = false := beq_eq_false_iff_ne.mpr (by omega)
          rw [if_neg h4] at HG
          have HNE : Aside0 (some (w.heap.size + 1) ≠ (Value.slice A n cap).ownBlock) := ⟨own_ne HO5.out HP5.out (by decide)⟩
          have HNE0 : Aside0 (some w.heap.size ≠ (Value.slice A n cap).ownBlock) := ⟨own_ne HO5.out HZ6.out (by decide)⟩
          have hn4 : n < 4000 := by omega
          have hhw := HB5.out.size
          go_wp2_with (at_builtin; refine print_append_cells (w0 := w) w.heap.size rfl (.tmp 121) (.tmp 123) 73 100 (.agg #[.int .i64 0, .string ⟨#[]⟩, .int .i64 0, .int .i64 0]) 4 40 rfl Tryz.underlying73 infoWordR rfl (by decide) (by decide) (.slice A n cap) n (rowCells o) [.int .i64 3, .string (T.extract 0 q), .int .i64 l, .int .i64 c] (by simp [Act.eval, Act.put]) (by simp [Act.eval, Act.put]) rfl (wd_cells ⟨3, T.extract 0 q, l, c⟩) HO5.out HB5.out hhw (by omega) ?_; intro v1 wA hown1 hbel1 hgrow1 hat1; obtain ⟨A1, c1, rfl⟩ := own_slice hown1; have hpA := blk_grown HP5.out hgrow1 HNE.out; have HPA := Aside0.mk hpA; have HZA := Aside0.mk (blk_grown HZ6.out hgrow1 HNE0.out); have HOA := Aside0.mk hown1; have HBA := Aside0.mk hbel1; have d1A : wA.cell? ⟨w.heap.size + 1, 1, none⟩ = some (.int .i64 c) := blk_cell hpA 1; have f1A := blk_frozen hpA 1; clear hown1 hbel1 hgrow1 hat1 hpA d0 d1 f0 f1 r0 r1 rf0 rf1 y0 y1 y2 y3)
          have HNEA : Aside0 (some (w.heap.size + 1) ≠ (Value.slice A1 (n + 1) c1).ownBlock) := ⟨own_ne HOA.out HPA.out (by decide)⟩
          go_roundw
          case rel =>
            refine ⟨pos + q, g, o ++ [⟨3, T.extract 0 q, l, c⟩], l, c + 1, A1, n + 1, c1, by rw [← HTE.out, sfx_sfx hp (by omega)], rfl, ⟨by rw [HN.out]; simp⟩, by omega, by omega, by omega, hl0, by omega, by omega, by omega, ⟨?_⟩, ⟨?_⟩, ⟨?_⟩, ⟨?_⟩, ⟨HG.out.symm.trans HA.out⟩⟩
            · exact blk_far HZA.out (by show w.heap.size ≠ w.heap.size + 1; omega) _
            · exact blk_put HPA.out 1 _ rfl
            · rw [row_snoc]; exact own_setCell HOA.out HNEA.out _
            · exact bel_set HBA.out (by omega) _
          case measure => exact sz_cut (by omega) (by omega)
    · have t1 : decide ((0 : Int) < (T.size : Int)) = false := decide_eq_false (by omega)
      have t1n : decide (0 < T.size) = false := decide_eq_false hlt
      have HE : Aside0 (refWords s = (o, 0, 0, 0)) := ⟨by
        rw [← HA.out]
        cases f with
        | zero => rfl
        | succ f => rw [refW, if_neg (by omega)]⟩
      have r0 : wr.cell? ⟨w.heap.size, 0, none⟩ = some (.int .i64 0) := blk_cell HZ1.out 0
      have r1 : wr.cell? ⟨w.heap.size, 1, none⟩ = some (.int .i64 0) := blk_cell HZ1.out 1
      have rf0 := blk_frozen HZ1.out 0
      have rf1 := blk_frozen HZ1.out 1
      have HNE0 : Aside0 (some w.heap.size ≠ (Value.slice A n cap).ownBlock) := ⟨own_ne HO.out HZ1.out (by decide)⟩
      clear hlt
      go_wp2_with fail
      refine bodyPost_ret (v := .tuple #[.slice A n cap, .agg #[.int .i64 0, .int .i64 0], .int .i64 0]) (by simp [results, Tryz.results23, go_sem, r0, r1, rf0, rf1]) rfl ?_
      rw [HE.out]
      refine ⟨.slice A n cap, rfl, ?_, by dsimp only; rw [← HN.out]; exact hn, by repeat (first | exact HB.out | refine below_drew ?_ | refine bel_set ?_ (by omega) _ | refine below_alloc ?_ _)⟩
      dsimp only
      rw [← HN.out]
      exact own_setCell (own_setCell HO.out HNE0.out _) HNE0.out _
end Go.Proofs.YtknbhbppofphpaaGreatDoor.X
