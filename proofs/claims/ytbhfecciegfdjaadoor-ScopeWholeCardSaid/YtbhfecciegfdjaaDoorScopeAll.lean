/- scope.All and the closure that it makes: all whole names of any declarations, in a new row. -/
import Derived.Test.YtbhfecciegfdjaaDoorTree
import Derived.Laws.EntriesVeiled
import Derived.LoopTactic
set_option linter.unusedVariables false
set_option linter.unusedSimpArgs false
namespace Go.Proofs.YtbhfecciegfdjaaDoor.X
open Go.RowKit Go.Proofs.YtbhfecciegfdjaaDoorW.PrintWords Go.Proofs.YtbhfecciegfdjaaDoorW.PrintLast Go.Proofs.YtbhfecciegfdjaaDoorW.PrintMore
abbrev RS := S32
abbrev kS := k32
abbrev kP := k47
def dot : ByteArray := ⟨#[46]⟩
/-- The whole names, plainly. -/
def alL : List PD → ByteArray → List RS
  | [], _ => []
  | ⟨a, b, _, _, _, _, ds⟩ :: l, p => ⟨p ++ b, a⟩ :: (alL ds (p ++ b ++ dot) ++ alL l p)
/-- The names' bytes, and one for each. -/
def nmP : List PD → Nat
  | [] => 0
  | ⟨_, b, _, _, _, _, ds⟩ :: l => b.size + 1 + nmP ds + nmP l
theorem alL_app : ∀ (l m : List PD) (p : ByteArray), alL (l ++ m) p = alL l p ++ alL m p
  | [], m, p => by rw [alL]; rfl
  | ⟨a, b, c, fs, vs, ms, ds⟩ :: l, m, p => by
    rw [List.cons_append, alL, alL, alL_app l m p, List.cons_append, List.append_assoc]
theorem alL_one (d : PD) (p : ByteArray) : alL [d] p = ⟨p ++ d.f1, d.f0⟩ :: alL d.f6 (p ++ d.f1 ++ dot) := by
  obtain ⟨a, b, c, fs, vs, ms, ds⟩ := d
  rw [alL, alL, List.append_nil]
theorem alL_len : ∀ (l : List PD) (p : ByteArray), (alL l p).length ≤ nmP l := by
  intro l
  induction l using pd_ind with
  | nil => intro p; simp [alL]
  | cons a b c fs vs ms ds l ihd ihl =>
    intro p
    have h1 := ihd (p ++ b ++ dot)
    have h2 := ihl p
    rw [alL, nmP, List.length_cons, List.length_append]
    omega
theorem len_le_nm : ∀ l : List PD, l.length ≤ nmP l
  | [] => by simp [nmP]
  | ⟨_, _, _, _, _, _, _⟩ :: l => by
    have := len_le_nm l
    rw [nmP, List.length_cons]
    omega
theorem nmP_app : ∀ (l m : List PD), nmP (l ++ m) = nmP l + nmP m
  | [], m => by rw [nmP]; simp
  | ⟨a, b, c, fs, vs, ms, ds⟩ :: l, m => by
    rw [List.cons_append, nmP, nmP, nmP_app l m]
    omega
theorem nmP_one (d : PD) : nmP [d] = d.f1.size + 1 + nmP d.f6 := by
  obtain ⟨a, b, c, fs, vs, ms, ds⟩ := d
  rw [nmP, nmP]
  rfl
theorem pd_split (l : List PD) (i : Int) (h0 : 0 ≤ i) (h1 : i < (l.length : Int)) : l.take (i.toNat + 1) = l.take i.toNat ++ [rd_T47 l i] ∧ l = l.take i.toNat ++ rd_T47 l i :: l.drop (i.toNat + 1) := by
  have hi : i.toNat < l.length := by omega
  have e : rd_T47 l i = l[i.toNat] := by simp [rd_T47, hi]
  rw [e]
  refine ⟨List.take_succ_eq_append_getElem hi, ?_⟩
  rw [← List.drop_eq_getElem_cons hi, List.take_append_drop]
def walkF (bo bw : Nat) : Value := .func (.func 14) #[] #[.pointer (some ⟨bo, 0, none⟩), .pointer (some ⟨bw, 0, none⟩)]
/-- The two captured variables, what has been collected, and all that was there ahead of the call. -/
def AllAt (w0 : World) (bo bw : Nat) (v : Value) (acc : List RS) (w : World) : Prop :=
  w0.heap.size ≤ bo ∧ w0.heap.size ≤ bw ∧ w.heap[bo]? = some (.cells #[v] 25 (0, 0)) ∧ w.heap[bw]? = some (.cells #[walkF bo bw] 49 (0, 0)) ∧ kS.R 33 w w0.heap.size (fun _ => True) v acc ∧ Below w0.heap.size w0 w
def AllPost (w0 : World) (bo bw : Nat) (acc : List RS) (e : Ending) (w' : World) : Prop := e = .returned (.tuple #[]) ∧ ∃ v, AllAt w0 bo bw v acc w'
theorem infoSym : (Tryd.prog.info? 33).map (fun i => (i.zero, i.size, i.bytes)) = some (some (.agg #[(.string ⟨#[]⟩), (.int .i64 0)]), 2, 24) := by kernel_rfl
set_option maxHeartbeats 4000000 in
set_option maxRecDepth 100000 in
theorem scopeWalk.calls (w0 : World) (bo bw : Nat) : ∀ (n : Nat) (l : List PD) (A : Option Addr) (c : Nat) (p : ByteArray) (acc : List RS) (v : Value) (w : World), nmP l ≤ n → Kd.C kP w0 A l.length l → l.length ≤ c → p.size + nmP l ≤ 1000000000 → acc.length + nmP l ≤ 1000000000 → l.length ≤ 1000000000 → AllAt w0 bo bw v acc w →
    Calls Tryd.prog 14 #[.slice A l.length c, .string p, .pointer (some ⟨bo, 0, none⟩), .pointer (some ⟨bw, 0, none⟩)] w (AllPost w0 bo bw (acc ++ alL l p)) := by
  intro n
  induction n using Nat.strongRecOn with
  | _ n ih =>
  intro l A c p acc v w hn hC hc hp ha hl hat
  have HC := Aside0.mk hC
  have HAT := Aside0.mk hat
  have HN := Aside0.mk hn
  have HP := Aside0.mk hp
  have HA := Aside0.mk ha
  have HIH := Aside0.mk ih
  clear ih hat hC hn hp ha
  go_enter Tryd.func14, Tryd.ntmps14
  go_wp2_with fail
  go_loopw [10] (fun v10 wr => ∃ i : Int, 0 ≤ i ∧ i ≤ (l.length : Int) ∧ v10 = .int .i64 i ∧ Aside0 (∃ v1, AllAt w0 bo bw v1 (acc ++ alL (l.take i.toNat) p) wr)) (fun v10 _ => l.length - (intOf v10).toNat)
  case atStart => exact ⟨0, by omega, by omega, rfl, ⟨v, by simpa [alL] using HAT.out⟩⟩
  case round =>
    obtain ⟨i, hi0, hil, rfl, HV⟩ := hrel
    by_cases hlt : i < (l.length : Int)
    · have t1 : decide (i < (l.length : Int)) = true := decide_eq_true hlt
      obtain ⟨ad, A3, c3, A4, c4, A5, c5, A6, c6, e0, x0, x1, x2, x3, x4, x5, x6, x7, l3, g3, l4, g4, l5, g5, l6, g6⟩ := at_T47 HC.out i hi0 hlt
      cases e0
      obtain ⟨v1, hat⟩ := HV.out
      obtain ⟨hbo, hbw, hko, hkw, hR, hB⟩ := hat
      replace x0 := (hB.cell (World.block_lt_of_cell? w0 _ x0)).trans x0
      replace x1 := (hB.cell (World.block_lt_of_cell? w0 _ x1)).trans x1
      replace x2 := (hB.cell (World.block_lt_of_cell? w0 _ x2)).trans x2
      replace x3 := (hB.cell (World.block_lt_of_cell? w0 _ x3)).trans x3
      replace x4 := (hB.cell (World.block_lt_of_cell? w0 _ x4)).trans x4
      replace x5 := (hB.cell (World.block_lt_of_cell? w0 _ x5)).trans x5
      replace x6 := (hB.cell (World.block_lt_of_cell? w0 _ x6)).trans x6
      replace x7 := (hB.cell (World.block_lt_of_cell? w0 _ x7)).trans x7
      have hs := (pd_split l i hi0 hlt)
      have hnl : nmP l = nmP (l.take i.toNat) + ((rd_T47 l i).f1.size + 1 + nmP (rd_T47 l i).f6) + nmP (l.drop (i.toNat + 1)) := by
        conv => lhs; rw [hs.2]
        rw [snoc_eq, nmP_app, nmP_app, nmP_one]
      have HNL := Aside0.mk hnl
      have HTK : Aside0 (alL (l.take (i.toNat + 1)) p = alL (l.take i.toNat) p ++ ⟨p ++ (rd_T47 l i).f1, (rd_T47 l i).f0⟩ :: alL (rd_T47 l i).f6 (p ++ (rd_T47 l i).f1 ++ dot)) := ⟨by rw [hs.1, alL_app, alL_one]⟩
      have hq := alL_len (l.take i.toNat) p
      have HQ := Aside0.mk hq
      have HG6 := Aside0.mk g6
      have HL6 := Aside0.mk l6
      have HKO := Aside0.mk hko
      have HKW := Aside0.mk hkw
      have HR := Aside0.mk hR
      have HB := Aside0.mk hB
      have d0 : wr.cell? ⟨bo, 0, none⟩ = some v1 := blk_cell hko 0
      have f0 := blk_frozen hko 0
      have hlo := blk_lt hko
      have hlw := blk_lt hkw
      have hne := blk_ne hko hkw (by decide)
      clear hko hkw hR hB g3 l3 g4 l4 g5 l5 g6 l6 hs hnl hq
      generalize rd_T47 l i = d at *
      obtain ⟨acc1, hacc⟩ : ∃ a, a = acc ++ alL (l.take i.toNat) p := ⟨_, rfl⟩
      rw [← hacc] at HR
      have hsz : p.size + d.f1.size + 1 ≤ 1000000000 ∧ acc1.length + 1 + nmP d.f6 ≤ 1000000000 := by
        have h1 := HNL.out
        have h2 := HP.out
        have h3 := HA.out
        have h4 := HQ.out
        rw [hacc, List.length_append]
        omega
      have HACC := Aside0.mk hacc
      have HSZ := Aside0.mk hsz
      have k1 : (9223372036854775807 < p.size + d.f1.size) = False := eq_false (by omega)
      have k2 : (9223372036854775807 < p.size + d.f1.size + 1) = False := eq_false (by omega)
      clear hacc hsz
      go_wp2_with ((with_reducible refine gate_builtin (b := .append) (xs := #[.tmp 14, .tmp 22]) rfl ?_); at_builtin; refine Kd.R_append kS (w0 := w0) w0.heap.size rfl (.tmp 14) (.tmp 22) 25 33 (.agg #[(.string ⟨#[]⟩), (.int .i64 0)]) 24 rfl Tryd.underlying25 infoSym rfl (by decide) (by omega) v1 acc1 (⟨p ++ d.f1, d.f0⟩ : RS) [.string (p ++ d.f1), .int .i64 d.f0] (fun _ => True) (fun _ => False) rfl (by simp [Act.eval, Act.put]) ?aP (fun _ hk => hk.elim) ?aF ?aO ?aB ?aS ?aL ?_; (case aP => exact k32_mkM _ _ _ (⟨p ++ d.f1, d.f0⟩ : RS)); (case aB => exact (by repeat (first | (with_reducible first | exact HB.out | apply below_alloc | apply pw_below_drewN | apply below_drew1) | exact HB.out))); (case aF => exact (fun _ _ => trivial)); (case aO => exact (by (with_reducible repeat (first | apply Kd.R_alloc | apply Kd.R_drewN | apply Kd.R_drew)); exact HR.out)); (case aS => exact (below_size (by repeat (first | (with_reducible first | exact HB.out | apply below_alloc | apply pw_below_drewN | apply below_drew1) | exact HB.out)))); (case aL => have := HSZ.out; omega); intro v2 w2 hR2 hB2 hG2 hat2; obtain ⟨A2, c2, rfl⟩ := Kd.R_slice hR2; have hne2 := Kd.R_ne HR.out HKO.out (by decide); have hne3 := Kd.R_ne HR.out HKW.out (by decide); have hko2 := blk_grown (blk_alloc HKO.out _) hG2 hne2; have hkw2 := blk_grown (blk_alloc HKW.out _) hG2 hne3; have hkd2 := blk_grown (blk_new wr _) hG2 (Kd.R_ne (t := 47) (Kd.R_alloc HR.out (.cells #[] 47)) (blk_new wr (.cells #[] 47)) (by decide)); have HKO2 := Aside0.mk hko2; have HKW2 := Aside0.mk hkw2; have HR2 := Aside0.mk hR2; have HB2 := Aside0.mk hB2; have d0' : w2.cell? ⟨bo, 0, none⟩ = some v1 := blk_cell hko2 0; have f0' : w2.frozen? ⟨bo, 0, none⟩ = false := blk_frozen hko2 0; have y0' : w2.cell? ⟨bw, 0, none⟩ = some (.func (.func 14) #[] #[.pointer (some ⟨bo, 0, none⟩), .pointer (some ⟨bw, 0, none⟩)]) := blk_cell hkw2 0; have z1' : w2.cell? ⟨wr.heap.size, 1, none⟩ = some (.string d.f1) := blk_cell hkd2 1; have z6' : w2.cell? ⟨wr.heap.size, 7, none⟩ = some (.slice A6 d.f6.length c6) := blk_cell hkd2 7; have hl2 := blk_lt hkd2; clear hko2 hkw2 hkd2 hG2 hat2 hR2 hB2 hne2 hne3)
      have hE : ∀ q, q ∈ 33 :: kS.E → q ≠ 25 := show ∀ q, q ∈ [33] → q ≠ 25 by decide
      have hA3 : AllAt w0 bo bw (.slice A2 (acc1.length + 1) c2) (acc1 ++ [⟨p ++ d.f1, d.f0⟩]) (w2.setCell ⟨bo, 0, none⟩ (.slice A2 (acc1.length + 1) c2)) :=
        ⟨hbo, hbw, blk_set HKO2.out 0 _, blk_far HKW2.out (p := ⟨bo, 0, none⟩) (fun h => hne h.symm) _, by simpa using Kd.R_set HR2.out HKO2.out hE 0 _, HB2.out.setCell (p := ⟨bo, 0, none⟩) hbo _⟩
      refine (HIH.out (nmP d.f6) ?_ d.f6 A6 c6 (p ++ d.f1 ++ dot) (acc1 ++ [⟨p ++ d.f1, d.f0⟩]) _ _ (Nat.le_refl _) HG6.out HL6.out ?_ ?_ ?_ hA3).mono ?_
      · have h1 := HNL.out; have h2 := HN.out; omega
      · have h1 := HNL.out; have h2 := HP.out; rw [ByteArray.size_append, ByteArray.size_append]; have : dot.size = 1 := rfl; omega
      · have h1 := HSZ.out; rw [List.length_append, List.length_singleton]; omega
      · have h1 := HSZ.out; have h2 := len_le_nm d.f6; omega
      rintro e w3 ⟨rfl, v3, hat3⟩
      have HAT3 := Aside0.mk hat3
      clear hat3 hA3
      go_wp2_with fail
      go_roundw
      case rel =>
        refine ⟨i + 1, by omega, by omega, rfl, ⟨v3, ?_⟩⟩
        have e : acc ++ alL (l.take (i + 1).toNat) p = acc1 ++ [⟨p ++ d.f1, d.f0⟩] ++ alL d.f6 (p ++ d.f1 ++ dot) := by
          rw [show (i + 1).toNat = i.toNat + 1 by omega, HTK.out, HACC.out]
          simp
        rw [e]
        exact HAT3.out
      case measure => simp [intOf]; omega
    · have t1 : decide (i < (l.length : Int)) = false := decide_eq_false hlt
      have hi : l.take i.toNat = l := List.take_of_length_le (by omega)
      rw [hi] at HV
      go_wp2_with fail
      go_end0
      exact ⟨rfl, HV.out⟩
/-- A new row of symbols. -/
def SymsPost (l : List RS) (w : World) (e : Ending) (w' : World) : Prop := ∃ v, e = .returned v ∧ kS.R 33 w' w.heap.size (fun _ => True) v l ∧ Below w.heap.size w w'
set_option maxHeartbeats 4000000 in
set_option maxRecDepth 100000 in
theorem scope_All.calls (l : List PD) (A : Option Addr) (c : Nat) (w : World) (hC : Kd.C kP w A l.length l) (hc : l.length ≤ c) (hn : nmP l ≤ 900000000) :
    Calls Tryd.prog 7 #[.slice A l.length c] w (SymsPost (alL l ⟨#[]⟩) w) := by
  have HC := Aside0.mk hC
  have HN := Aside0.mk hn
  clear hC hn
  have hmf : ∀ (fn : Fn) (first cap : Array Value) (w : World), (Instr.makeFunc fn first cap).run Tryd.prog w = .ok (.func fn first cap) w := fun _ _ _ _ => rfl
  go_enter Tryd.func7, Tryd.ntmps7
  go_wp2_with fail
  have hat : AllAt w w.heap.size (w.heap.size + 1) (.slice none 0 0) [] ((w.alloc (Obj.cells #[Value.slice none 0 0] 25)).alloc (Obj.cells #[walkF w.heap.size (w.heap.size + 1)] 49)) := by
    refine ⟨Nat.le_refl _, by omega, blk_alloc (blk_new w _) _, ?_, Kd.R_nil _ _ _ _ _, below_alloc (below_alloc (Below.refl _ _) _) _⟩
    have h := blk_new (w.alloc (Obj.cells #[Value.slice none 0 0] 25)) (Obj.cells #[walkF w.heap.size (w.heap.size + 1)] 49)
    simpa using h
  refine (scopeWalk.calls w w.heap.size (w.heap.size + 1) (nmP l) l A c ⟨#[]⟩ [] (.slice none 0 0) _ (Nat.le_refl _) HC.out hc ?_ ?_ ?_ hat).mono ?_
  · have := HN.out; show 0 + nmP l ≤ 1000000000; omega
  · have := HN.out; show 0 + nmP l ≤ 1000000000; omega
  · have := HN.out; have := len_le_nm l; omega
  rintro e w3 ⟨rfl, v3, hat3⟩
  obtain ⟨_, _, hko, hkw, hR, hB⟩ := hat3
  rw [List.nil_append] at hR
  obtain ⟨A3, c3, rfl⟩ := Kd.R_slice hR
  have HR := Aside0.mk hR
  have HB := Aside0.mk hB
  have d0 : w3.cell? ⟨w.heap.size, 0, none⟩ = some (.slice A3 (alL l ⟨#[]⟩).length c3) := blk_cell hko 0
  clear hR hB hko hkw hat
  go_wp2_with fail
  go_ret
  exact ⟨_, rfl, HR.out, HB.out⟩
end Go.Proofs.YtbhfecciegfdjaaDoor.X
