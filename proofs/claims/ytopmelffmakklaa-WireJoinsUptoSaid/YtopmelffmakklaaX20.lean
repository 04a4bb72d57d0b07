/- Plain functions for Go's own, out of the translation's print, and a proof that each call comes to what they tell; no condition but the functions' own answers. -/
import Derived.Test.YtopmelffmakklaaX0
import Derived.Test.YtopmelffmakklaaX4
import Derived.Test.YtopmelffmakklaaX5
import Derived.Test.YtopmelffmakklaaX12
import Derived.Test.YtopmelffmakklaaX15
import Derived.Test.YtopmelffmakklaaX17
import Derived.Deep.RegionHeld3
import Derived.RegionTactic
namespace Go.Proofs.Ytopmelffmakklaa.X
open Go.RowKit Go.Proofs.YtopmelffmakklaaW.PrintWords Go.Proofs.YtopmelffmakklaaW.PrintLast Go.Proofs.YtopmelffmakklaaW.PrintMore
attribute [local go_sem] max2_int min2_int max_two min_two max_three min_three max_four min_four Go.Proofs.Ytopmelffmakklaa.MyWords.put_isSome Go.Proofs.Ytopmelffmakklaa.MyWords.drewN_put   -- for this text's walks alone
set_option linter.unusedVariables false
set_option linter.unusedSimpArgs false

/-! ### courierlaw02_WireJoins: function 6 -/
section
open Go.Proofs.Ytopmelffmakklaa.Math
/-- Fields appended one behind the other; those that are formed. -/
def joinsF (k : Nat) : List S30 → List Int → List S30 → Option (List Int × List S30)
  | [], b, want => some (b, want)
  | x :: l, b, want => (wire_Append.f k b x.f0 x.f1 x.f2 x.f3).bind fun t => if t.2 = 0 then joinsF k l t.1 (want ++ [x]) else joinsF k l b want
def cmpF : List S26 → List S30 → Option Bool
  | [], _ => some true
  | x :: g, y :: m => (courierref01_Same.f x.f0 x.f1 x.f2 x.f3 y.f0 y.f1 y.f2 y.f3).bind fun t => if t = true then cmpF g m else some false
  | _ :: _, [] => none
def courierlaw02_WireJoins.f (k : Nat) (l0 : List S30) : Option Bool :=
  if (l0.length : Int) > 300 then some true
  else (joinsF k l0 [] []).bind fun z => (wire_Split.f k z.1).bind fun q => if q.2.2 = 0 then (if q.1.length = z.2.length then cmpF q.1 z.2 else some false) else some false
theorem joinsF.mono (k : Nat) : ∀ (l : List S30) (b : List Int) (want : List S30), LeO (joinsF k l b want) (joinsF (k + 1) l b want) := by
  intro l
  induction l with
  | nil => intro b want; exact LeO.refl _
  | cons x l ih =>
    intro b want
    unfold joinsF
    refine LeO.bind (wire_Append.mono _ _ _ _ _ _) (fun t => ?_)
    exact LeO.ite (ih _ _) (ih _ _)
theorem courierlaw02_WireJoins.mono : ∀ a0 k, LeO (courierlaw02_WireJoins.f k a0) (courierlaw02_WireJoins.f (k + 1) a0) := by
  intro a0 k
  unfold courierlaw02_WireJoins.f
  refine LeO.ite (LeO.refl _) ?_
  refine LeO.bind (joinsF.mono _ _ _ _) (fun z => ?_)
  exact LeO.bind (wire_Split.mono _ _) (fun q => LeO.refl _)
theorem ret_b {a b : Bool} (h : a = b) : Ending.returned (.bool a) = .returned (.bool b) := by rw [h]
/-- The fields that were kept, each as it lies in what came in. -/
def WantAt (w wr : World) (v : Value) (want : List S30) : Prop := ∃ inner, wr.ownsRow w.heap.size 30 4 v want.length inner ∧ Reps (k30.K w) 4 want inner
theorem WantAt.nil (w wr : World) : WantAt w wr (.slice none 0 0) [] := ⟨[], own_nil _ _ _ _, Reps.none _ _⟩
theorem WantAt.below {w wr w' : World} {v : Value} {want : List S30} (h : WantAt w wr v want) (hb : Below wr.heap.size wr w') : WantAt w w' v want := by
  obtain ⟨inner, ho, hr⟩ := h
  exact ⟨inner, pw_own_below ho hb, hr⟩
theorem WantAt.reads {w wr : World} {v : Value} {want : List S30} (h : WantAt w wr v want) (hb : Below w.heap.size w wr) : ∃ A c, v = .slice A want.length c ∧ Kd.C k30 wr A want.length want := by
  obtain ⟨inner, ho, hr⟩ := h
  exact own_reads_row ho (hr.imp_ (fun p c hp => k30.K_below hb hp)) rfl
theorem V_of_C {W : World} {B c : Nat} {A : Option Addr} {xs : List Int} (hl : xs.length ≤ c) (hC : Kd.C (Kd.int .u8) W A xs.length xs) : Kd.V (Kd.int .u8) 5 W B (fun _ => True) (.slice A xs.length c) xs := ⟨A, c, rfl, hl, fun W' hW => (Kd.heap_int _).C (fun k hk => hW k trivial hk) hC⟩
theorem infoJ : (Try.prog.info? 30).map (fun i => (i.zero, i.size, i.bytes)) = some (some (.agg #[.int .i64 0, .int .i64 0, .int .u64 0, .slice none 0 0]), 4, 48) := by kernel_rfl
/-- A row of bytes behind an append to a row of fields. -/
theorem bytes_grown {W W1 : World} {base b' m : Nat} {ok : Nat → Prop} {v vw : Value} {xs : List Int} {inner : List Value} (hR : (Kd.int .u8).R 5 W base ok v xs) (ho : W.ownsRow b' 30 4 vw m inner) (hg : W.grownBy W1 vw.ownBlock) : (Kd.int .u8).R 5 W1 base ok v xs := by
  cases hv : vw.ownBlock with
  | none => exact Kd.R_grown hR hg (fun k _ => by rw [hv]; simp)
  | some g =>
    obtain ⟨cells, hc⟩ := own_typed ho g hv
    refine Kd.R_mono (Kd.R_grown (Kd.R_types hR hc (by decide)) hg (fun k hk e => ?_)) (fun k hk => hk.1)
    rw [hv] at e
    exact hk.2 (Option.some.inj e)
/-- A field of those that came in. -/
theorem field_at {w : World} {A : Option Addr} {n : Nat} {l : List S30} (h : Kd.C k30 w A n l) (i : Nat) (hi : i < n) (hl : i < l.length) : ∃ ad A3 c3, A = some ad ∧ (l[i]'hl).f3.length ≤ c3 ∧ Kd.C (Kd.int .u8) w A3 (l[i]'hl).f3.length (l[i]'hl).f3 ∧ k30.K w (l[i]'hl) [.int .i64 (l[i]'hl).f0, .int .i64 (l[i]'hl).f1, .int .u64 (l[i]'hl).f2, .slice A3 (l[i]'hl).f3.length c3] ∧
    ∀ W, Below w.heap.size w W → W.cell? (ad.add (i * 4)) = some (.int .i64 (l[i]'hl).f0) ∧ W.cell? ⟨(ad.add (i * 4)).block, (ad.add (i * 4)).off + 1, none⟩ = some (.int .i64 (l[i]'hl).f1) ∧ W.cell? ⟨(ad.add (i * 4)).block, (ad.add (i * 4)).off + 2, none⟩ = some (.int .u64 (l[i]'hl).f2) ∧ W.cell? ⟨(ad.add (i * 4)).block, (ad.add (i * 4)).off + 3, none⟩ = some (.slice A3 (l[i]'hl).f3.length c3) := by
  obtain ⟨ad, c, eA, hcs, hK, hcell⟩ := ReadsRow.get_ h z30 (i : Int) (by omega) (by omega)
  have hx : l.getD (i : Int).toNat z30 = l[i]'hl := by simp [List.getD, hl]
  rw [hx] at hK
  rw [Int.toNat_natCast] at hcell
  obtain ⟨A3, c3, rfl, hl3, hC3⟩ := k30_open hK
  refine ⟨ad, A3, c3, eA, hl3, hC3, hK, fun W hb => ⟨?_, ?_, ?_, ?_⟩⟩
  · exact pw_cell_below hb (by have := hcell 0 _ rfl; rw [Nat.add_zero] at this; exact this)
  · exact pw_cell_below hb (by have := hcell 1 _ rfl; exact (by rw [add_field _ _ _ (by decide)] at this; exact this))
  · exact pw_cell_below hb (by have := hcell 2 _ rfl; exact (by rw [add_field _ _ _ (by decide)] at this; exact this))
  · exact pw_cell_below hb (by have := hcell 3 _ rfl; exact (by rw [add_field _ _ _ (by decide)] at this; exact this))
/-- A field of those that were split. -/
theorem split_at {w : World} {A : Option Addr} {n : Nat} {l : List S26} (h : Kd.C k26 w A n l) (i : Nat) (hi : i < n) (hl : i < l.length) : ∃ ad A3 c3, A = some ad ∧ (l[i]'hl).f3.length ≤ c3 ∧ Kd.C (Kd.int .u8) w A3 (l[i]'hl).f3.length (l[i]'hl).f3 ∧ k26.K w (l[i]'hl) [.int .i64 (l[i]'hl).f0, .int .i64 (l[i]'hl).f1, .int .u64 (l[i]'hl).f2, .slice A3 (l[i]'hl).f3.length c3] ∧
    ∀ W, Below w.heap.size w W → W.cell? (ad.add (i * 4)) = some (.int .i64 (l[i]'hl).f0) ∧ W.cell? ⟨(ad.add (i * 4)).block, (ad.add (i * 4)).off + 1, none⟩ = some (.int .i64 (l[i]'hl).f1) ∧ W.cell? ⟨(ad.add (i * 4)).block, (ad.add (i * 4)).off + 2, none⟩ = some (.int .u64 (l[i]'hl).f2) ∧ W.cell? ⟨(ad.add (i * 4)).block, (ad.add (i * 4)).off + 3, none⟩ = some (.slice A3 (l[i]'hl).f3.length c3) := by
  obtain ⟨ad, c, eA, hcs, hK, hcell⟩ := ReadsRow.get_ h z26 (i : Int) (by omega) (by omega)
  have hx : l.getD (i : Int).toNat z26 = l[i]'hl := by simp [List.getD, hl]
  rw [hx] at hK
  rw [Int.toNat_natCast] at hcell
  obtain ⟨A3, c3, rfl, hl3, hC3⟩ := k26_open hK
  refine ⟨ad, A3, c3, eA, hl3, hC3, hK, fun W hb => ⟨?_, ?_, ?_, ?_⟩⟩
  · exact pw_cell_below hb (by have := hcell 0 _ rfl; rw [Nat.add_zero] at this; exact this)
  · exact pw_cell_below hb (by have := hcell 1 _ rfl; exact (by rw [add_field _ _ _ (by decide)] at this; exact this))
  · exact pw_cell_below hb (by have := hcell 2 _ rfl; exact (by rw [add_field _ _ _ (by decide)] at this; exact this))
  · exact pw_cell_below hb (by have := hcell 3 _ rfl; exact (by rw [add_field _ _ _ (by decide)] at this; exact this))
set_option maxHeartbeats 4000000 in
set_option maxRecDepth 100000 in
theorem courierlaw02_WireJoins.calls (k : Nat) (A0 : Option Addr) (c0 : Nat) (l0 : List S30) (r : Bool) (w : World) (hr0 : Kd.C k30 w A0 l0.length l0) (hc0 : l0.length ≤ c0) (h : courierlaw02_WireJoins.f k l0 = some r) :
    Calls Try.prog 6 #[.slice A0 l0.length c0] w fun e w' => e = .returned (.bool r) ∧ Below w.heap.size w w' := by
  have hu26 := Try.underlying26
  have hu30 := Try.underlying30
  have HR := Aside0.mk hr0
  have haw : courierlaw02_awake.f = some true := by kernel_rfl
  have HAW := Aside0.mk haw
  have H := Aside0.mk h
  clear hr0 haw h
  obtain ⟨n, hn⟩ : ∃ n, n = l0.length := ⟨_, rfl⟩
  have HN := Aside0.mk hn
  rw [← hn]
  have hc0 : n ≤ c0 := by omega
  clear hn
  by_cases h300 : 300 < n
  · have t1 : decide ((300 : Int) < (n : Int)) = true := decide_eq_true (by omega)
    have t1n : decide (300 < n) = true := decide_eq_true h300
    have hh := H.out
    unfold courierlaw02_WireJoins.f at hh
    rw [if_pos (by rw [← HN.out]; omega)] at hh
    obtain rfl := Option.some.inj hh
    clear hh h300
    go_enter Try.func6, Try.ntmps6
    go_wp2_with fail
    refine (courierlaw02_awake.calls true _ HAW.out).mono ?_
    rintro e w1 ⟨rfl, hb⟩
    have HB := Aside0.mk hb
    clear hb
    go_wp2_with fail
    refine (courierlaw02_awake.calls true _ HAW.out).mono ?_
    rintro e w2 ⟨rfl, hb⟩
    have HB2 := Aside0.mk (below_step HB.out hb)
    clear hb
    go_wp2_with fail
    go_ret
    exact ⟨rfl, HB2.out⟩
  have t1 : decide ((300 : Int) < (n : Int)) = false := decide_eq_false (by omega)
  have t1n : decide (300 < n) = false := decide_eq_false h300
  have hn3 : n ≤ 300 := by omega
  have hh := H.out
  unfold courierlaw02_WireJoins.f at hh
  rw [if_neg (by rw [← HN.out]; omega)] at hh
  obtain ⟨z, hz, hh⟩ := Option.bind_eq_some_iff.mp hh
  have HJ := Aside0.mk hz
  have HH := Aside0.mk hh
  clear hh hz H h300
  go_enter Try.func6, Try.ntmps6
  go_wp2_with fail
  refine (courierlaw02_awake.calls true _ HAW.out).mono ?_
  rintro e w1 ⟨rfl, hb⟩
  have HB := Aside0.mk hb
  clear hb HAW
  go_wp2_with fail
  clear t1 t1n
  go_loopw [3, 4, 22] (fun v3 v4 v22 wr => ∃ (i : Nat) (b : List Int) (want : List S30) (Ab : Option Addr) (cb : Nat) (Aw : Option Addr) (m cw : Nat), i ≤ n ∧ v22 = .int .i64 i ∧ v3 = .slice Ab b.length cb ∧ v4 = .slice Aw m cw ∧ Aside0 (m = want.length) ∧ m ≤ i ∧ Aside0 (b.length ≤ cb) ∧ Aside0 (Kd.C (Kd.int .u8) wr Ab b.length b) ∧ Aside0 (WantAt w wr (.slice Aw m cw) want) ∧ Aside0 (Below w.heap.size w wr) ∧ Aside0 (joinsF k (l0.drop i) b want = some z)) (fun _ _ v22 _ => n - (intOf v22).toNat)
  case atStart => exact ⟨0, [], [], none, 0, none, 0, 0, by omega, rfl, rfl, rfl, ⟨rfl⟩, by omega, ⟨Nat.le_refl _⟩, ⟨Kd.C_nil _ _⟩, ⟨WantAt.nil _ _⟩, HB, ⟨by rw [List.drop_zero]; exact HJ.out⟩⟩
  case round =>
    clear HJ HB
    obtain ⟨i, b, want, Ab, cb, Aw, m, cw, hi, rfl, rfl, rfl, HM, hmi, HCB, HBB, HWA, HB, HJ⟩ := hrel
    by_cases hlt : i < n
    · have t1 : decide (i < n) = true := decide_eq_true hlt
      have hil : i < l0.length := by have := HN.out; omega
      have hlw : Kd.C k30 w A0 n l0 := by have := HR.out; rw [← HN.out] at this; exact this
      obtain ⟨ad, A3, c3, rfl, hl3, hC3, hK3, hcells⟩ := field_at hlw i hlt hil
      have hj := HJ.out
      rw [List.drop_eq_getElem_cons hil] at hj
      unfold joinsF at hj
      generalize l0[i]'hil = x at *
      obtain ⟨⟨t1_, t2_⟩, hap, hj⟩ := Option.bind_eq_some_iff.mp hj
      obtain ⟨f0, f1, f2, f3⟩ := x
      simp only at hl3 hC3 hK3 hcells hap hj
      have HAP := Aside0.mk hap
      have HJ2 := Aside0.mk hj
      have HCE := Aside0.mk hcells
      have HK3 := Aside0.mk hK3
      have HC3 := Aside0.mk hC3
      have HL3 := Aside0.mk hl3
      obtain ⟨q0, q1, q2, q3⟩ := hcells wr HB.out
      have hi1 : (i : Int) < (n : Int) := by omega
      obtain ⟨p3, hp3⟩ : ∃ p3, p3 = f3.length := ⟨_, rfl⟩
      have HP3 := Aside0.mk hp3
      rw [← hp3] at q3
      clear hlw hap hj hcells hK3 hC3 hl3 hp3 HJ
      go_wp2_with fail
      rw [HP3.out]
      refine (courierlaw02_theirs.calls f0 f1 f2 (fun _ => True) A3 c3 f3 f0 f1 f2 f3 wr (V_of_C HL3.out (Kd.C_below HC3.out HB.out)) rfl).mono ?_
      rintro e w2 ⟨v3_, rfl, hV, hb2⟩
      obtain ⟨A4, c4, rfl, hl4, hF4⟩ := hV
      have hC4 := hF4 w2 (fun _ _ _ => rfl)
      have HC4 := Aside0.mk hC4
      have HL4 := Aside0.mk hl4
      have HBB2 := Aside0.mk (Kd.C_below HBB.out hb2)
      have HB2 := Aside0.mk (below_step HB.out hb2)
      have HWA2 := Aside0.mk (HWA.out.below hb2)
      clear hF4 hC4 hl4 hb2 q0 q1 q2 q3 HB HWA HBB
      go_wp2_with fail
      refine (wire_Append.calls k Ab cb b f0 f1 f2 A4 c4 f3 t1_ t2_ w2 HBB2.out HCB.out HC4.out HL4.out HAP.out).mono ?_
      rintro e w3 ⟨v0_, rfl, hR0, hb3⟩
      obtain ⟨Ab2, cb2, rfl⟩ := Kd.R_slice hR0
      have HR0 := Aside0.mk hR0
      have HBB3 := Aside0.mk (Kd.C_below HBB2.out hb3)
      have HB3 := Aside0.mk (below_step HB2.out hb3)
      have HWA3 := Aside0.mk (HWA2.out.below hb3)
      clear hR0 hb3 HB2 HWA2 HBB2 HC4 HL4
      by_cases h0 : t2_ = 0
      · have t2b : (t2_ == 0) = true := beq_iff_eq.mpr h0
        have hj := HJ2.out
        rw [if_pos h0] at hj
        have HJ3 := Aside0.mk hj
        obtain ⟨q0, q1, q2, q3⟩ := HCE.out w3 HB3.out
        rw [← HP3.out] at q3
        obtain ⟨inner, ho3, hr3⟩ := HWA3.out
        rw [← HM.out] at ho3
        have HO3 := Aside0.mk ho3
        have HR3 := Aside0.mk hr3
        have hhs := HB3.out.size
        clear h0 hj ho3 hr3
        go_wp2_with (at_builtin; refine print_append_cells (w0 := w) w.heap.size rfl (.tmp 38) (.tmp 43) 46 30 (.agg #[.int .i64 0, .int .i64 0, .int .u64 0, .slice none 0 0]) 4 48 rfl Try.underlying46 infoJ rfl (by decide) (by decide) (.slice Aw m cw) m inner [.int .i64 f0, .int .i64 f1, .int .u64 f2, .slice A3 p3 c3] (by simp [Act.eval, Act.put]) (by simp [Act.eval, Act.put]) rfl (by intro u hu; simp at hu; rcases hu with rfl | rfl | rfl | rfl <;> rfl) HO3.out HB3.out hhs (by omega) ?_; intro v1 wA hown1 hbel1 hgrow1 hat1; obtain ⟨Aw1, cw1, rfl⟩ := own_slice hown1; have HOA := Aside0.mk hown1; have HBA := Aside0.mk hbel1; have HRA := Aside0.mk (bytes_grown HR0.out HO3.out hgrow1); clear hown1 hbel1 hgrow1 hat1 q0 q1 q2 q3)
        go_roundw
        case rel =>
          refine ⟨i + 1, t1_, want ++ [⟨f0, f1, f2, f3⟩], Ab2, cb2, Aw1, m + 1, cw1, by omega, by go_num, rfl, rfl, ⟨by rw [HM.out]; simp⟩, by omega, ⟨(Kd.R_reads' HRA.out).2.1⟩, ⟨(Kd.R_reads' HRA.out).2.2⟩, ⟨?_⟩, HBA, HJ3⟩
          refine ⟨inner ++ [.int .i64 f0, .int .i64 f1, .int .u64 f2, .slice A3 p3 c3], ?_, ?_⟩
          · rw [List.length_append, ← HM.out]; exact HOA.out
          · rw [HP3.out]; exact Reps.snoc HR3.out HK3.out rfl
        case measure => simp [intOf]; omega
      · have t2b : (t2_ == 0) = false := beq_eq_false_iff_ne.mpr h0
        have hj := HJ2.out
        rw [if_neg h0] at hj
        have HJ3 := Aside0.mk hj
        clear h0 hj
        go_wp2_with fail
        go_roundw
        case rel => exact ⟨i + 1, b, want, Ab, cb, Aw, m, cw, by omega, by go_num, rfl, rfl, HM, by omega, HCB, HBB3, HWA3, HB3, HJ3⟩
        case measure => simp [intOf]; omega
    · have t1 : decide (i < n) = false := decide_eq_false hlt
      have hj := HJ.out
      rw [List.drop_eq_nil_of_le (by rw [← HN.out]; omega)] at hj
      obtain rfl : z = (b, want) := (Option.some.inj hj).symm
      have hh := HH.out
      simp only at hh
      obtain ⟨⟨got, raw, er⟩, hsp, hh⟩ := Option.bind_eq_some_iff.mp hh
      simp only at hh
      have HSP := Aside0.mk hsp
      have HH2 := Aside0.mk hh
      clear hj hh hsp HH HJ
      go_wp2_with fail
      refine (wire_Split.calls k (fun _ => True) Ab cb b got raw er wr (V_of_C HCB.out HBB.out) HSP.out).mono ?_
      rintro e w2 ⟨v0_, v1_, rfl, hN0, hN1, hb2⟩
      obtain ⟨Ag, cg, rfl, hlg, hCg⟩ := Kd.N_reads hN0
      obtain ⟨Ar, cr, rfl, _, _⟩ := Kd.N_reads hN1
      have HCG := Aside0.mk hCg
      have HWA2 := Aside0.mk (HWA.out.below hb2)
      have HB2 := Aside0.mk (below_step HB.out hb2)
      obtain ⟨gl, hgl⟩ : ∃ gl, gl = got.length := ⟨_, rfl⟩
      have HGL := Aside0.mk hgl
      rw [← hgl] at HCG ⊢
      clear hN0 hN1 hb2 hlg hCg HB HWA hgl HBB HCB
      by_cases he : er = 0
      rotate_left
      · have t2 : (er != 0) = true := bne_iff_ne.mpr he
        have hh := HH2.out
        rw [if_neg he] at hh
        obtain rfl := Option.some.inj hh
        clear he hh
        go_wp2_with fail
        go_ret
        exact ⟨rfl, HB2.out⟩
      have t2 : (er != 0) = false := bne_eq_false_iff_eq.mpr he
      have hh := HH2.out
      rw [if_pos he, ← HGL.out, ← HM.out] at hh
      by_cases hgm : gl = m
      rotate_left
      · have t3 : ((gl : Int) != (m : Int)) = true := bne_iff_ne.mpr (by omega)
        have t3n : (gl != m) = true := bne_iff_ne.mpr hgm
        rw [if_neg hgm] at hh
        obtain rfl := Option.some.inj hh
        clear he hh hgm
        go_wp2_with fail
        go_ret
        exact ⟨rfl, HB2.out⟩
      rw [if_pos hgm] at hh
      subst hgm
      have t3 : ((gl : Int) != (gl : Int)) = false := bne_eq_false_iff_eq.mpr rfl
      have t3n : (gl != gl) = false := bne_eq_false_iff_eq.mpr rfl
      have HCM := Aside0.mk hh
      clear he hh
      go_wp2_with fail
      go_loopw [63] (fun v63 wq => ∃ j : Nat, j ≤ gl ∧ v63 = .int .i64 j ∧ Aside0 (Below w2.heap.size w2 wq) ∧ Aside0 (cmpF (got.drop j) (want.drop j) = some r)) (fun v63 _ => gl - (intOf v63).toNat)
      case atStart => exact ⟨0, by omega, rfl, ⟨Below.refl _ _⟩, by rw [List.drop_zero, List.drop_zero]; exact HCM⟩
      case round =>
        clear HCM
        obtain ⟨j, hj, rfl, HBq, HCM⟩ := hrel
        by_cases hjl : j < gl
        · have t1 : decide (j < gl) = true := decide_eq_true hjl
          have hgj : j < got.length := by have := HGL.out; omega
          have hwj : j < want.length := by have := HM.out; omega
          obtain ⟨A8, c8, e8, hCw8⟩ := HWA2.out.reads HB2.out
          injection e8 with e8a e8b e8c
          subst e8a
          rw [← HM.out] at hCw8
          obtain ⟨a1, A5, c5, rfl, hl5, hC5, _, hx⟩ := split_at HCG.out j hjl hgj
          obtain ⟨a2, A6, c6, rfl, hl6, hC6, _, hy⟩ := field_at hCw8 j hjl hwj
          have hcm := HCM.out
          rw [List.drop_eq_getElem_cons hgj, List.drop_eq_getElem_cons hwj] at hcm
          unfold cmpF at hcm
          generalize got[j]'hgj = x at *
          generalize want[j]'hwj = y at *
          obtain ⟨x0, x1, x2, x3⟩ := x
          obtain ⟨y0, y1, y2, y3⟩ := y
          simp only at hl5 hC5 hx hl6 hC6 hy hcm
          obtain ⟨t, hst, hcm⟩ := Option.bind_eq_some_iff.mp hcm
          have HST := Aside0.mk hst
          have HCM2 := Aside0.mk hcm
          obtain ⟨p5, hp5⟩ : ∃ p5, p5 = x3.length := ⟨_, rfl⟩
          obtain ⟨p6, hp6⟩ : ∃ p6, p6 = y3.length := ⟨_, rfl⟩
          rw [← hp5] at hx hl5
          rw [← hp6] at hy hl6
          have HP5 := Aside0.mk hp5
          have HP6 := Aside0.mk hp6
          have HC5 := Aside0.mk hC5
          have HC6 := Aside0.mk hC6
          have HL5 := Aside0.mk hl5
          have HL6 := Aside0.mk hl6
          have HX := Aside0.mk hx
          have HY := Aside0.mk hy
          have hj1 : (j : Int) < (gl : Int) := by omega
          clear hx hy hC5 hC6 hst hcm hp5 hp6 HCM hCw8 e8b e8c hl5 hl6
          have HOURS : Aside0 (∀ W, Below w2.heap.size w2 W → Calls Try.prog 11 #[.agg #[.int .i64 x0, .int .i64 x1, .int .u64 x2, .slice A5 p5 c5]] W fun e w' => ∃ A7 c7, e = .returned (.agg #[.int .i64 x0, .int .i64 x1, .int .u64 x2, .slice A7 p5 c7]) ∧ p5 ≤ c7 ∧ Kd.C (Kd.int .u8) w' A7 p5 x3 ∧ Below W.heap.size W w') := ⟨fun W hb => by
            rw [HP5.out]
            refine (courierlaw02_ours.calls x0 x1 x2 (fun _ => True) A5 c5 x3 x0 x1 x2 x3 W (V_of_C (by rw [← HP5.out]; exact HL5.out) (Kd.C_below HC5.out hb)) rfl).mono ?_
            rintro e w' ⟨v3_, rfl, hV, hb2⟩
            obtain ⟨A4, c4, rfl, hl4, hF4⟩ := hV
            exact ⟨A4, c4, rfl, hl4, hF4 w' (fun _ _ _ => rfl), hb2⟩⟩
          have HSAME : Aside0 (∀ W A7 c7, p5 ≤ c7 → Kd.C (Kd.int .u8) W A7 p5 x3 → Below w2.heap.size w2 W → Calls Try.prog 10 #[.agg #[.int .i64 x0, .int .i64 x1, .int .u64 x2, .slice A7 p5 c7], .agg #[.int .i64 y0, .int .i64 y1, .int .u64 y2, .slice A6 p6 c6]] W fun e w' => e = .returned (.bool t) ∧ Below W.heap.size W w') := ⟨fun W A7 c7 hl hC hb => by
            rw [HP5.out] at hl hC ⊢
            rw [HP6.out]
            exact courierref01_Same.calls x0 x1 x2 A7 c7 x3 y0 y1 y2 A6 c6 y3 t W hC hl (Kd.C_below HC6.out hb) (by rw [← HP6.out]; exact HL6.out) HST.out⟩
          have HS : Aside0 (∀ W', Below w2.heap.size w2 W' → (W'.cell? (a1.add (j * 4)) = some (.int .i64 x0) ∧ W'.cell? ⟨(a1.add (j * 4)).block, (a1.add (j * 4)).off + 1, none⟩ = some (.int .i64 x1) ∧ W'.cell? ⟨(a1.add (j * 4)).block, (a1.add (j * 4)).off + 2, none⟩ = some (.int .u64 x2) ∧ W'.cell? ⟨(a1.add (j * 4)).block, (a1.add (j * 4)).off + 3, none⟩ = some (.slice A5 p5 c5)) ∧ (W'.cell? (a2.add (j * 4)) = some (.int .i64 y0) ∧ W'.cell? ⟨(a2.add (j * 4)).block, (a2.add (j * 4)).off + 1, none⟩ = some (.int .i64 y1) ∧ W'.cell? ⟨(a2.add (j * 4)).block, (a2.add (j * 4)).off + 2, none⟩ = some (.int .u64 y2) ∧ W'.cell? ⟨(a2.add (j * 4)).block, (a2.add (j * 4)).off + 3, none⟩ = some (.slice A6 p6 c6)) ∧ Below w2.heap.size w2 W') := ⟨fun W' hb => ⟨HX.out W' hb, HY.out W' hb, hb⟩⟩
          have HS0 := Aside0.mk (HS.out _ (below_drew1 HBq.out))
          clear HX HY
          go_wp2_with fail
          go_region_held3 (fun W' => (W'.cell? (a1.add (j * 4)) = some (.int .i64 x0) ∧ W'.cell? ⟨(a1.add (j * 4)).block, (a1.add (j * 4)).off + 1, none⟩ = some (.int .i64 x1) ∧ W'.cell? ⟨(a1.add (j * 4)).block, (a1.add (j * 4)).off + 2, none⟩ = some (.int .u64 x2) ∧ W'.cell? ⟨(a1.add (j * 4)).block, (a1.add (j * 4)).off + 3, none⟩ = some (.slice A5 p5 c5)) ∧ (W'.cell? (a2.add (j * 4)) = some (.int .i64 y0) ∧ W'.cell? ⟨(a2.add (j * 4)).block, (a2.add (j * 4)).off + 1, none⟩ = some (.int .i64 y1) ∧ W'.cell? ⟨(a2.add (j * 4)).block, (a2.add (j * 4)).off + 2, none⟩ = some (.int .u64 y2) ∧ W'.cell? ⟨(a2.add (j * 4)).block, (a2.add (j * 4)).off + 3, none⟩ = some (.slice A6 p6 c6)) ∧ Below w2.heap.size w2 W') (first | exact HS0.out | exact HS.out _ (below_then HS0.out.2.2 HS0.out.2.2.size hb3) | exact HS.out _ (below_then (below_then HS0.out.2.2 HS0.out.2.2.size hb3) (Nat.le_trans HS0.out.2.2.size hb3.size) hb4)) (first | (go_at_call 11; refine (HOURS.out _ HS0.out.2.2).mono ?_; rintro e w3 ⟨A7, c7, rfl, hl7, hC7, hb3⟩) | (go_at_call 10; refine (HSAME.out _ _ _ hl7 hC7 (below_then HS0.out.2.2 HS0.out.2.2.size hb3)).mono ?_; rintro e w4 ⟨rfl, hb4⟩))
          have HBF := Aside0.mk (below_then (below_then HS0.out.2.2 HS0.out.2.2.size hb3) (Nat.le_trans HS0.out.2.2.size hb3.size) hb4)
          clear hb3 hb4 hC7 HS0 HS HOURS HSAME
          cases t with
          | true =>
            have hcm := HCM2.out
            rw [if_pos rfl] at hcm
            have HCM3 := Aside0.mk hcm
            clear hcm
            go_wp2_with fail
            go_roundw
            case rel => exact ⟨j + 1, by omega, by go_num, HBF, HCM3⟩
            case measure => simp [intOf]; omega
          | false =>
            have hcm := HCM2.out
            rw [if_neg (by decide)] at hcm
            obtain rfl := Option.some.inj hcm
            clear hcm
            go_wp2_with fail
            go_ret
            exact ⟨rfl, below_step HB2.out HBF.out⟩
        · have t1 : decide (j < gl) = false := decide_eq_false hjl
          have hc := HCM.out
          rw [List.drop_eq_nil_of_le (by rw [← HGL.out]; omega)] at hc
          unfold cmpF at hc
          obtain rfl := Option.some.inj hc
          clear hc
          go_wp2_with fail
          go_ret
          exact ⟨rfl, below_step HB2.out HBq.out⟩
end

end Go.Proofs.Ytopmelffmakklaa.X
