/- scope.New: a finder of any declarations: the first kind of each whole name. -/
import Derived.Test.YtbhfecciegfdjaaDoorScopeMap
import Derived.BigQuiet
import Derived.StillTailTactics
set_option linter.unusedVariables false
set_option linter.unusedSimpArgs false
namespace Go.Proofs.YtbhfecciegfdjaaDoor.X
open Go.RowKit Go.Proofs.YtbhfecciegfdjaaDoorW.PrintWords Go.Proofs.YtbhfecciegfdjaaDoorW.PrintLast Go.Proofs.YtbhfecciegfdjaaDoorW.PrintMore
theorem alL_size : ∀ (l : List PD) (p : ByteArray), ∀ x ∈ alL l p, x.f0.size ≤ p.size + nmP l := by
  intro l
  induction l using pd_ind with
  | nil => intro p x hx; rw [alL] at hx; cases hx
  | cons a b c fs vs ms ds l ihd ihl =>
    intro p x hx
    rw [alL] at hx
    rw [nmP]
    have hd : dot.size = 1 := rfl
    rcases List.mem_cons.1 hx with rfl | hx
    · show (p ++ b).size ≤ _
      rw [ByteArray.size_append]
      omega
    · rcases List.mem_append.1 hx with hx | hx
      · have := ihd _ x hx
        rw [ByteArray.size_append, ByteArray.size_append] at this
        omega
      · have := ihl _ x hx
        omega
def Kinds (l : List RS) : Prop := ∀ x ∈ l, (Lit.int .i64 x.f1).wf = true
/-- A finder at block bf, its map at bm. -/
def FinderAt (w : World) (bf bm n : Nat) (g : ByteArray → Option Int) : Prop :=
  w.heap[bf]? = some (.cells #[.map (some bm)] 74 (0, 0)) ∧ Kmap w bm n g
def NewPost (g : ByteArray → Option Int) (w : World) (e : Ending) (w' : World) : Prop :=
  ∃ bf bm n, e = .returned (.pointer (some ⟨bf, 0, none⟩)) ∧ FinderAt w' bf bm n g ∧ Below w.heap.size w w'
theorem sym_split (l : List RS) (i : Int) (h0 : 0 ≤ i) (h1 : i < (l.length : Int)) : l.take (i.toNat + 1) = l.take i.toNat ++ [rd_T32 l i] ∧ rd_T32 l i ∈ l := by
  have hi : i.toNat < l.length := by omega
  have e : rd_T32 l i = l[i.toNat] := by simp [rd_T32, hi]
  rw [e]
  exact ⟨List.take_succ_eq_append_getElem hi, List.getElem_mem hi⟩
theorem keep_cell {w w1 : World} {b n : Nat} {g : ByteArray → Option Int} (hk : KeepBut w w1 b none) (hm : Kmap w b n g) {a : Addr} {v : Value} (hc : w.cell? a = some v) : w1.cell? a = some v := by
  have h1 := World.block_lt_of_cell? w a hc
  have h2 := hk.2 a.block h1 (hm.no_cell hc) (by simp)
  unfold World.cell? at hc ⊢
  rw [h2]
  exact hc
theorem KeepBut.alloc' {w w1 : World} {g : Nat} (h : KeepBut w w1 g none) (o : Obj) : KeepBut w (w1.alloc o) g none :=
  ⟨Nat.le_trans h.1 (below_alloc (Below.refl w1.heap.size w1) o).size, fun i hi h1 h2 => (Below.heap_alloc w1 o i (Nat.lt_of_lt_of_le hi h.1)).trans (h.2 i hi h1 h2)⟩
theorem KeepBut.drewN' {w w1 : World} {g : Nat} (h : KeepBut w w1 g none) (n : Nat) : KeepBut w (w1.drewN n) g none := h
theorem KeepBut.own' {w w1 w2 : World} {g : Nat} (h : KeepBut w w1 g none) (hg : w1.grownBy w2 (some g)) : KeepBut w w2 g none :=
  ⟨Nat.le_trans h.1 hg.size, fun i hi h1 h2 => (hg.block i (Nat.lt_of_lt_of_le hi h.1) (by simpa using h1)).trans (h.2 i hi h1 h2)⟩
set_option maxHeartbeats 4000000 in
set_option maxRecDepth 100000 in
theorem scope_New.calls (l : List PD) (A : Option Addr) (c : Nat) (w : World) (hC : Kd.C kP w A l.length l) (hc : l.length ≤ c) (hn : nmP l ≤ 900000000) (hk : Kinds (alL l ⟨#[]⟩)) :
    Calls Tryd.prog 17 #[.slice A l.length c] w (NewPost (kindOf (alL l ⟨#[]⟩)) w) := by
  have HC := Aside0.mk hC
  have HK := Aside0.mk hk
  clear hC hk
  have hmm := @run_makeMap Tryd.prog
  go_enter Tryd.func17, Tryd.ntmps17
  go_wp2_with fail
  obtain ⟨W0, hW0⟩ : ∃ W0, W0 = (w.alloc (.map #[] 0)).alloc (Obj.cells #[Value.map (some w.heap.size)] 74) := ⟨_, rfl⟩
  have hB0 : Below w.heap.size w W0 := by rw [hW0]; exact below_alloc (below_alloc (Below.refl _ _) _) _
  have hM0 : Kmap W0 w.heap.size 0 (kindOf []) := by rw [hW0]; exact (Kmap.made w).alloc _
  have hF0 : W0.heap[w.heap.size + 1]? = some (.cells #[.map (some w.heap.size)] 74 (0, 0)) := by
    rw [hW0]
    have h := blk_new (w.alloc (.map #[] 0)) (Obj.cells #[Value.map (some w.heap.size)] 74)
    simpa using h
  rw [← hW0]
  refine (scope_All.calls l A c W0 (Kd.C_below HC.out hB0) hc hn).mono ?_
  rintro e w1 ⟨v, rfl, hR, hB1⟩
  have hszA := alL_size l ⟨#[]⟩
  have hlenA := alL_len l ⟨#[]⟩
  have hz : (⟨#[]⟩ : ByteArray).size = 0 := rfl
  generalize alL l ⟨#[]⟩ = L at *
  obtain ⟨A1, c1, rfl, hlc, hCL⟩ := Kd.R_reads hR
  have HCL := Aside0.mk hCL
  have HS := Aside0.mk hszA
  have HB1 := Aside0.mk (below_step hB0 hB1)
  have HM1 := Aside0.mk (hM0.below hB1)
  have HF1 := Aside0.mk (blk_below hF0 hB1)
  have hln : L.length ≤ 900000000 := by omega
  clear hR hB1 hB0 hM0 hF0 hW0 hCL hszA hlenA
  go_wp2_with fail
  go_loopw [14] (fun v14 wr => ∃ (i : Int) (n : Nat), 0 ≤ i ∧ i ≤ (L.length : Int) ∧ (n : Int) ≤ i ∧ v14 = .int .i64 i ∧ Aside0 (FinderAt wr (w.heap.size + 1) w.heap.size n (kindOf (L.take i.toNat))) ∧ Aside0 (KeepBut w1 wr w.heap.size none) ∧ Aside0 (Below w.heap.size w wr)) (fun v14 _ => L.length - (intOf v14).toNat)
  case atStart => exact ⟨0, 0, by omega, by omega, by omega, rfl, ⟨⟨HF1.out, HM1.out⟩⟩, ⟨KeepBut.refl _ _ _⟩, HB1⟩
  case round =>
    obtain ⟨i, n, hi0, hil, hni, rfl, HFA, HKB, HBR⟩ := hrel
    by_cases hlt : i < (L.length : Int)
    · have t1 : decide (i < (L.length : Int)) = true := decide_eq_true hlt
      obtain ⟨ad, e0, x0, x1⟩ := at_T32 HCL.out i hi0 hlt
      cases e0
      have hsp := sym_split L i hi0 hlt
      have hsz := HS.out _ hsp.2
      have hkx := HK.out _ hsp.2
      have HSP := Aside0.mk hsp.1
      replace x0 := keep_cell HKB.out HM1.out x0
      replace x1 := keep_cell HKB.out HM1.out x1
      clear hsp
      generalize rd_T32 L i = s at *
      obtain ⟨nm, kd⟩ := s
      simp only at x0 x1 hsz hkx
      have HKX := Aside0.mk hkx
      clear hkx
      have hnm : nm.size ≤ maxLen := by unfold maxLen; omega
      have d0 : wr.cell? ⟨w.heap.size + 1, 0, none⟩ = some (.map (some w.heap.size)) := blk_cell HFA.out.1 0
      have hbf := blk_lt HFA.out.1
      have hlk : ∀ q, (Instr.lookup 72 (.map (some w.heap.size)) (.string nm) true).run Tryd.prog ((wr.alloc (.cells #[.string nm, .int .i64 kd] 33)).drewN q) = _ := fun q => ((HFA.out.2.alloc _).drewN q).look_ok nm hnm
      have hlk0 : (Instr.lookup 72 (.map (some w.heap.size)) (.string nm) true).run Tryd.prog (wr.alloc (.cells #[.string nm, .int .i64 kd] 33)) = _ := (HFA.out.2.alloc _).look_ok nm hnm
      obtain ⟨gv, hgv⟩ : ∃ gv, gv = kindOf (L.take i.toNat) nm := ⟨_, rfl⟩
      rw [← hgv] at hlk hlk0
      have HGV := Aside0.mk hgv
      clear hgv hnm
      cases gv with
      | none =>
        simp only [Option.getD_none, Option.isSome_none] at hlk hlk0
        go_wp2_with fail
        go_quiet (fail)
        go_wp2_with fail
        clear hlk hlk0 x0 x1
        obtain ⟨W2, hW2⟩ : ∃ W2, W2 = (wr.alloc (Obj.cells #[Value.string nm, Value.int IntKind.i64 kd] 33)).drewN nq := ⟨_, rfl⟩
        have hM2 : Kmap W2 w.heap.size n (kindOf (L.take i.toNat)) := by rw [hW2]; exact (HFA.out.2.alloc _).drewN _
        have hF2 : W2.heap[w.heap.size + 1]? = some (.cells #[.map (some w.heap.size)] 74 (0, 0)) := by rw [hW2]; exact blk_drewN (blk_alloc HFA.out.1 _) _
        have hX2 : W2.heap[wr.heap.size]? = some (.cells #[Value.string nm, Value.int IntKind.i64 kd] 33 (0, 0)) := by rw [hW2]; exact blk_drewN (blk_new wr _) _
        have hK2 : KeepBut w1 W2 w.heap.size none := by rw [hW2]; exact KeepBut.drewN' (KeepBut.alloc' HKB.out _) _
        have hB2 : Below w.heap.size w W2 := by rw [hW2]; exact pw_below_drewN (below_alloc HBR.out _) _
        rw [← hW2]
        have HM2 := Aside0.mk hM2
        have HK2 := Aside0.mk hK2
        have HB2 := Aside0.mk hB2
        have HF2 := Aside0.mk hF2
        have y0 : W2.cell? ⟨w.heap.size + 1, 0, none⟩ = some (.map (some w.heap.size)) := blk_cell hF2 0
        have y1 : W2.cell? ⟨wr.heap.size, 0, none⟩ = some (.string nm) := blk_cell hX2 0
        have y2 : W2.cell? ⟨wr.heap.size, 1, none⟩ = some (.int .i64 kd) := blk_cell hX2 1
        clear hW2 hM2 hF2 hX2 hK2 hB2 d0
        go_still_tail 8, (by kernel_rfl)
        refine wpList_kstore W2.drew rfl _ _ _ rfl w.heap.size n _ rfl HM2.out nm kd rfl rfl (by unfold maxLen; omega) HKX.out (by unfold maxLen; omega) ?_
        intro w3 hM3 hG3
        have HM3 := Aside0.mk hM3
        have HG3 := Aside0.mk hG3
        clear hM3 hG3 y0 y1 y2
        go_wp2_with fail
        go_roundw
        case rel =>
          have hG3 : W2.grownBy w3 (some w.heap.size) := ⟨HG3.out.os, HG3.out.tape, HG3.out.output, HG3.out.size, HG3.out.block⟩
          refine ⟨i + 1, n + 1, by omega, by omega, by omega, rfl, ⟨?_, HM3.out.congr ?_⟩, ⟨KeepBut.own' HK2.out hG3⟩, ⟨HB2.out.grown hG3 HB2.out.size (fun k hk => by cases hk; exact Nat.le_refl _)⟩⟩
          · exact blk_grown HF2.out hG3 (by intro e; injection e with e; omega)
          · intro t
            rw [show (i + 1).toNat = i.toNat + 1 by omega, HSP.out, kindOf_snoc, if_neg (by rw [← HGV.out]; decide)]
        case measure => simp [intOf]; omega
      | some old =>
        simp only [Option.getD_some, Option.isSome_some] at hlk hlk0
        go_wp2_with fail
        go_quiet (fail)
        go_wp2_with fail
        go_roundw
        case rel =>
          refine ⟨i + 1, n, by omega, by omega, by omega, rfl, ⟨?_, (HFA.out.2.alloc _).drewN _ |>.congr ?_⟩, ⟨KeepBut.drewN' (KeepBut.alloc' HKB.out _) _⟩, ⟨pw_below_drewN (below_alloc HBR.out _) _⟩⟩
          · exact blk_drewN (blk_alloc HFA.out.1 _) _
          · intro t
            rw [show (i + 1).toNat = i.toNat + 1 by omega, HSP.out, kindOf_snoc, if_pos (by rw [← HGV.out]; rfl)]
        case measure => simp [intOf]; omega
    · have t1 : decide (i < (L.length : Int)) = false := decide_eq_false hlt
      have hi : L.take i.toNat = L := List.take_of_length_le (by omega)
      rw [hi] at HFA
      go_wp2_with fail
      go_ret
      exact ⟨_, _, _, rfl, HFA.out, HBR.out⟩
end Go.Proofs.YtbhfecciegfdjaaDoor.X
