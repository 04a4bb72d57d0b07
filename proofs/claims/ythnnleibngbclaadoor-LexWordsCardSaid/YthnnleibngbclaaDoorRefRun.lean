/- The reference's next, run, number, right, walked. -/
import Derived.Test.YthnnleibngbclaaDoorRefLex
import Derived.Test.YthnnleibngbclaaDoorRefName
import Derived.BigQuiet
set_option linter.unusedVariables false
set_option linter.unusedSimpArgs false
namespace Go.Proofs.YthnnleibngbclaaDoor.X
open Go.RowKit Go.Shelf Go.Proofs.YthnnleibngbclaaDoorW.PrintWords Go.Proofs.YthnnleibngbclaaDoorW.PrintLast Go.Proofs.YthnnleibngbclaaDoorW.PrintMore
/-! ### what stands from a place on -/
def sfx (s : ByteArray) (pos : Nat) : ByteArray := s.extract pos s.size
theorem sfx_size (s : ByteArray) (pos : Nat) : (sfx s pos).size = s.size - pos := by
  unfold sfx
  rw [ByteArray.size_extract]
  omega
theorem sfx_split {s : ByteArray} {pos : Nat} (h : pos ≤ s.size) : s.extract 0 pos ++ sfx s pos = s := by
  unfold sfx
  have e1 : s.extract 0 pos ++ s.extract pos s.size = s.extract 0 s.size := by
    rw [ByteArray.extract_append_extract, Nat.min_eq_left (Nat.zero_le _), Nat.max_eq_right h]
  rw [e1, ByteArray.extract_zero_size]
theorem sfx_len {s : ByteArray} {pos : Nat} (h : pos ≤ s.size) : (s.extract 0 pos).size = pos := by
  rw [ByteArray.size_extract]
  omega
theorem sfx_get {s : ByteArray} {pos : Nat} (h : pos ≤ s.size) (i : Nat) : (sfx s pos).get! i = s.get! (pos + i) := by
  have := get_hd (s.extract 0 pos) (sfx s pos) i
  rw [sfx_split h, sfx_len h, Nat.add_comm] at this
  exact this.symm
theorem sfx_decode {s : ByteArray} {pos : Nat} (h : pos ≤ s.size) (i : Nat) : Utf8.decode (sfx s pos) i = Utf8.decode s (pos + i) := by
  have := decode_hd (s.extract 0 pos) (sfx s pos) i
  rw [sfx_split h, sfx_len h, Nat.add_comm] at this
  exact this.symm
theorem sfx_rune {s : ByteArray} {pos : Nat} (h : pos ≤ s.size) (i : Nat) : lxRune (sfx s pos) i = lxRune s (pos + i) := by
  have := lxRune_hd (s.extract 0 pos) (sfx s pos) i
  rw [sfx_split h, sfx_len h, Nat.add_comm] at this
  exact this.symm
theorem sfx_ext {s : ByteArray} {pos : Nat} (h : pos ≤ s.size) (i j : Nat) : (sfx s pos).extract i j = s.extract (pos + i) (pos + j) := by
  have := extract_hd (s.extract 0 pos) (sfx s pos) i j
  rw [sfx_split h, sfx_len h, Nat.add_comm, Nat.add_comm j] at this
  exact this.symm
theorem sfx_sfx {s : ByteArray} {pos : Nat} (h : pos ≤ s.size) {i : Nat} (hi : pos + i ≤ s.size) : (sfx s pos).extract i (sfx s pos).size = sfx s (pos + i) := by
  rw [sfx_ext h, sfx_size]
  unfold sfx
  rw [show pos + (s.size - pos) = s.size by omega]
theorem sfx_zero (s : ByteArray) : sfx s 0 = s := ByteArray.extract_zero_size
/-! ### the rune that is none -/
theorem err_width (l : List UInt8) (h : (Lib.decodeL l).1 = 65533) (hne : l ≠ []) : (Lib.decodeL l).2 ≤ 1 ↔ l.take 3 ≠ [239, 191, 189] := by
  rw [Lib.decodeL_N] at h ⊢
  match l, hne with
  | [a], _ =>
    have e : ([a] : List UInt8).take 3 ≠ [239, 191, 189] := by simp
    refine ⟨fun _ => e, fun _ => ?_⟩
    unfold Lib.decodeN
    simp only [List.length_cons, List.length_nil]
    repeat' split
    all_goals (dsimp only; omega)
  | [a, b], _ =>
    have e : ([a, b] : List UInt8).take 3 ≠ [239, 191, 189] := by simp
    refine ⟨fun _ => e, fun _ => ?_⟩
    revert h
    simp only [List.getD_cons_zero, List.getD_cons_succ, List.getD_nil, List.length_cons, List.length_nil]
    generalize a.toNat = x
    generalize b.toNat = y
    unfold Lib.decodeN
    repeat' split
    all_goals (dsimp only; omega)
  | a :: b :: c :: r, _ =>
    have e : ((a :: b :: c :: r : List UInt8).take 3 ≠ [239, 191, 189]) ↔ ¬ (a.toNat = 239 ∧ b.toNat = 191 ∧ c.toNat = 189) := by
      simp only [List.take_succ_cons, List.take_zero, ne_eq, List.cons.injEq, and_true]
      rw [← UInt8.toNat_inj, ← UInt8.toNat_inj, ← UInt8.toNat_inj]
      exact Iff.rfl
    rw [e]
    revert h
    have ha := UInt8.toNat_lt a
    have hb := UInt8.toNat_lt b
    have hc := UInt8.toNat_lt c
    simp only [List.getD_cons_zero, List.getD_cons_succ, List.length_cons]
    generalize a.toNat = x at *
    generalize b.toNat = y at *
    generalize c.toNat = z at *
    generalize (r.getD 0 0).toNat = u
    unfold Lib.decodeN
    repeat' split
    all_goals (dsimp only; omega)
theorem rune_none {s : ByteArray} {pos : Nat} (h : pos < s.size) : lxRune s pos = if (Utf8.decode s pos).1 = 65533 ∧ (Utf8.decode s pos).2 ≤ 1 then -1 else ((Utf8.decode s pos).1 : Int) := by
  unfold lxRune
  rw [ext_list]
  have hne : s.data.toList.drop pos ≠ [] := by
    intro e
    have := congrArg List.length e
    rw [List.length_drop, Array.length_toList] at this
    have h2 : s.data.size = s.size := rfl
    rw [h2] at this
    simp only [List.length_nil] at this
    omega
  have hd := Lib.decodeL_drop s pos
  have hw := err_width (s.data.toList.drop pos)
  rw [hd] at hw
  by_cases h1 : (Utf8.decode s pos).1 = 65533
  · have := hw h1 hne
    by_cases h2 : (Utf8.decode s pos).2 ≤ 1
    · rw [if_pos ⟨h1, this.1 h2⟩, if_pos ⟨h1, h2⟩]
    · rw [if_neg (fun e => h2 (this.2 e.2)), if_neg (fun e => h2 e.2)]
  · rw [if_neg (fun e => h1 e.1), if_neg (fun e => h1 e.1)]
theorem rune_bd (s : ByteArray) (pos : Nat) : -1 ≤ lxRune s pos ∧ lxRune s pos ≤ 1114111 := by
  unfold lxRune
  have := Lib.rune_le s pos
  split <;> omega
/-! ### next -/
set_option maxHeartbeats 4000000 in
set_option maxRecDepth 100000 in
theorem courierref03_next.calls (s : ByteArray) (pos : Nat) (hp : pos < s.size) (w : World) (hT : Lib.Utf8Tabs (Tryd.lays197_ren.g 3) (Tryd.lays197_ren.g 4) w) :
    Calls Tryd.prog 16 #[.string (sfx s pos)] w fun e w' => e = .returned (.tuple #[.int .i32 (lxRune s pos), .int .i64 (Utf8.decode s pos).2]) ∧ Below w.heap.size w w' := by
  have hz : (sfx s pos).size ≠ 0 := by rw [sfx_size]; omega
  have hg : Lib.decodeGo (sfx s pos) = Utf8.decode s pos := by
    unfold Lib.decodeGo
    rw [if_neg hz, sfx_decode (by omega)]
    rfl
  have HR := Aside0.mk (rune_none hp)
  have hr := Lib.rune_le s pos
  have hwd := Lib.width_pos s pos
  have hw4 : (Utf8.decode s pos).2 ≤ s.size := by have := width_in hp; omega
  have hc := Tryd.utf8_DecodeRuneInString (sfx s pos) w hT
  rw [hg] at hc
  have hk4 : (Utf8.decode s pos).2 ≤ 4 := by
    rw [Lib.decode_at]
    unfold Lib.decodeN
    repeat' split
    all_goals (dsimp only; omega)
  generalize sfx s pos = T at *
  generalize lxRune s pos = R at *
  generalize (Utf8.decode s pos).1 = x at *
  generalize (Utf8.decode s pos).2 = k at *
  have HC := Aside0.mk hc
  clear hc hg hz hT hw4 hp
  go_enter Tryd.func16, Tryd.ntmps16
  go_wp2_with fail
  refine HC.out.mono ?_
  rintro e w1 ⟨rfl, hb⟩
  have HB := Aside0.mk hb
  clear hb HC
  by_cases h1 : x = 65533
  · have t1 : ((x : Int) == 65533) = true := beq_iff_eq.mpr (by omega)
    by_cases h2 : k ≤ 1
    · have t2i : decide ((k : Int) ≤ 1) = true := decide_eq_true (by omega)
      have t2 : decide (k ≤ 1) = true := decide_eq_true h2
      have HE : Aside0 (R = -1) := ⟨by rw [HR.out, if_pos ⟨h1, h2⟩]⟩
      clear h1 h2
      go_wp2_with fail
      go_ret2
      exact ⟨by rw [HE.out]; rfl, HB.out⟩
    · have t2i : decide ((k : Int) ≤ 1) = false := decide_eq_false (by omega)
      have t2 : decide (k ≤ 1) = false := decide_eq_false h2
      have HE : Aside0 (R = (x : Int)) := ⟨by rw [HR.out, if_neg (fun e => h2 e.2)]⟩
      clear h1 h2
      go_wp2_with fail
      go_ret2
      exact ⟨by rw [HE.out]; rfl, HB.out⟩
  · have t1 : ((x : Int) == 65533) = false := beq_eq_false_iff_ne.mpr (by omega)
    have HE : Aside0 (R = (x : Int)) := ⟨by rw [HR.out, if_neg (fun e => h1 e.1)]⟩
    clear h1
    go_wp2_with fail
    go_ret2
    exact ⟨by rw [HE.out]; rfl, HB.out⟩
theorem refletterZ_f (r : Int) : courierref03_Letter.f r = some (letterZ r) := by
  rw [← letterZ_f]
  unfold courierref03_Letter.f ident_Letter.f
  simp only [ge_iff_le]
theorem refdigitZ_f (r : Int) : courierref03_digit.f r = some (digitZ r) := by
  unfold courierref03_digit.f digitZ
  repeat' split
  all_goals
    rw [Option.some.injEq, Bool.eq_iff_iff]
    simp only [decide_eq_true_eq, true_iff, Bool.false_eq_true, false_iff]
    omega
/-! ### run -/
set_option maxHeartbeats 4000000 in
set_option maxRecDepth 100000 in
theorem courierref03_run.calls (s : ByteArray) (pos : Nat) (hp : pos ≤ s.size) (hs : s.size ≤ 70368744177664) (w : World) (hT : Lib.Utf8Tabs (Tryd.lays197_ren.g 3) (Tryd.lays197_ren.g 4) w) :
    Calls Tryd.prog 18 #[.string (sfx s pos)] w fun e w' => e = .returned (.tuple #[.int .i64 ((runR s s.size pos).1 - pos : Nat), .int .i64 (runR s s.size pos).2]) ∧ Below w.heap.size w w' := by
  obtain ⟨T, hTe⟩ : ∃ T, sfx s pos = T := ⟨_, rfl⟩
  have hTz : T.size = s.size - pos := by rw [← hTe, sfx_size]
  have HTE := Aside0.mk hTe
  have HT := Aside0.mk hT
  have hzs : pos + T.size ≤ s.size ∧ s.size ≤ pos + T.size := by omega
  rw [hTe]
  clear hT hTe hTz
  go_enter Tryd.func18, Tryd.ntmps18
  go_wp2_with fail
  go_loopw [4, 5] (fun v4 v5 wr => ∃ (n k f : Nat), n ≤ T.size ∧ v4 = .int .i64 n ∧ v5 = .int .i64 k ∧ k ≤ n ∧ s.size ≤ pos + n + f ∧ Aside0 (runR s s.size pos = ((runR s f (pos + n)).1, (runR s f (pos + n)).2 + k)) ∧ Aside0 (Below w.heap.size w wr)) (fun v4 _ _ => T.size - (intOf v4).toNat)
  case atStart => exact ⟨0, 0, s.size, by omega, rfl, rfl, by omega, by omega, ⟨rfl⟩, ⟨Below.refl _ _⟩⟩
  case round =>
    obtain ⟨n, k, f, hn, rfl, rfl, hkn, hf, HA, HB⟩ := hrel
    by_cases hlt : n < T.size
    · have t1 : decide (n < T.size) = true := decide_eq_true hlt
      have t1i : decide ((n : Int) < (T.size : Int)) = true := decide_eq_true (by omega)
      have hps : pos + n < s.size := by omega
      have hsx : T.extract n T.size = sfx s (pos + n) := by rw [← HTE.out]; exact sfx_sfx hp (by omega)
      obtain ⟨g, rfl⟩ : ∃ g, f = g + 1 := ⟨f - 1, by omega⟩
      have HG : Aside0 (runR s (g + 1) (pos + n) = if pos + n < s.size ∧ insideZ (lxRune s (pos + n)) = true then ((runR s g (pos + n + (Utf8.decode s (pos + n)).2)).1, (runR s g (pos + n + (Utf8.decode s (pos + n)).2)).2 + 1) else (pos + n, 0)) := ⟨by rw [runR]⟩
      have hwd := Lib.width_pos s (pos + n)
      have hin := width_in hps
      have hcn := courierref03_next.calls s (pos + n) hps wr (Utf8Tabs_below HT.out HB.out)
      rw [← hsx] at hcn
      have HCN := Aside0.mk hcn
      have HIZ : Aside0 (insideZ (lxRune s (pos + n)) = (letterZ (lxRune s (pos + n)) || digitZ (lxRune s (pos + n)) || decide (lxRune s (pos + n) = 95))) := ⟨rfl⟩
      have hbd := rune_bd s (pos + n)
      have HPS := Aside0.mk hps
      generalize lxRune s (pos + n) = R at *
      generalize (Utf8.decode s (pos + n)).2 = q at *
      clear hcn hsx hps
      go_wp2_with fail
      refine HCN.out.mono ?_
      rintro e w1 ⟨rfl, hb⟩
      have HB1 := Aside0.mk (below_step HB.out hb)
      clear hb HCN
      have HL := Aside0.mk (refletterZ_f R)
      have HD := Aside0.mk (refdigitZ_f R)
      have HREL : Aside0 (insideZ R = true → runR s s.size pos = ((runR s g (pos + (n + q))).1, (runR s g (pos + (n + q))).2 + (k + 1))) := ⟨by
        intro hi
        rw [HA.out, HG.out, if_pos ⟨HPS.out, hi⟩]
        dsimp only
        rw [show pos + n + q = pos + (n + q) by omega, show k + 1 = 1 + k by omega, Nat.add_assoc]⟩
      have HEND : Aside0 (insideZ R = false → (runR s s.size pos).1 - pos = n ∧ (runR s s.size pos).2 = k) := ⟨by
        intro hi
        rw [HA.out, HG.out, if_neg (by rw [hi]; rintro ⟨_, e⟩; cases e)]
        dsimp only
        exact ⟨by omega, by omega⟩⟩
      by_cases h1 : letterZ R = true
      · rw [h1] at HL
        have HI : Aside0 (insideZ R = true) := ⟨by rw [HIZ.out, h1]; rfl⟩
        clear h1
        go_wp2_with fail
        refine (courierref03_Letter.calls R true _ HL.out).mono ?_
        rintro e w' ⟨rfl, ⟨nd1, rfl⟩⟩
        go_wp2_with fail
        go_roundw
        case rel =>
          exact ⟨n + q, k + 1, g, by omega, by go_num, by go_num, by omega, by omega, ⟨HREL.out HI.out⟩, ⟨pw_below_drewN HB1.out _⟩⟩
        case measure => simp [intOf]; omega
      · have h1f : letterZ R = false := Bool.eq_false_iff.2 h1
        rw [h1f] at HL
        by_cases h2 : digitZ R = true
        · rw [h2] at HD
          have HI : Aside0 (insideZ R = true) := ⟨by rw [HIZ.out, h1f, h2]; rfl⟩
          clear h1 h1f h2
          go_wp2_with fail
          refine (courierref03_Letter.calls R false _ HL.out).mono ?_
          rintro e w' ⟨rfl, ⟨nd1, rfl⟩⟩
          go_wp2_with fail
          refine (courierref03_digit.calls R true _ HD.out).mono ?_
          rintro e w' ⟨rfl, ⟨nd2, rfl⟩⟩
          go_wp2_with fail
          go_roundw
          case rel =>
            exact ⟨n + q, k + 1, g, by omega, by go_num, by go_num, by omega, by omega, ⟨HREL.out HI.out⟩, ⟨pw_below_drewN HB1.out _⟩⟩
          case measure => simp [intOf]; omega
        · have h2f : digitZ R = false := Bool.eq_false_iff.2 h2
          rw [h2f] at HD
          by_cases h3 : R = 95
          · have t95 : (R != 95) = false := by rw [h3]; rfl
            have t95b : (R == 95) = true := beq_iff_eq.mpr h3
            have HI : Aside0 (insideZ R = true) := ⟨by rw [HIZ.out, h1f, h2f, decide_eq_true h3]; rfl⟩
            clear h1 h1f h2 h2f h3
            go_wp2_with fail
            refine (courierref03_Letter.calls R false _ HL.out).mono ?_
            rintro e w' ⟨rfl, ⟨nd1, rfl⟩⟩
            go_wp2_with fail
            refine (courierref03_digit.calls R false _ HD.out).mono ?_
            rintro e w' ⟨rfl, ⟨nd2, rfl⟩⟩
            go_wp2_with fail
            go_roundw
            case rel =>
              exact ⟨n + q, k + 1, g, by omega, by go_num, by go_num, by omega, by omega, ⟨HREL.out HI.out⟩, ⟨pw_below_drewN HB1.out _⟩⟩
            case measure => simp [intOf]; omega
          · have t95 : (R != 95) = true := bne_iff_ne.mpr h3
            have t95b : (R == 95) = false := beq_eq_false_iff_ne.mpr h3
            have HI : Aside0 (insideZ R = false) := ⟨by rw [HIZ.out, h1f, h2f, decide_eq_false h3]; rfl⟩
            clear h1 h1f h2 h2f h3
            go_wp2_with fail
            refine (courierref03_Letter.calls R false _ HL.out).mono ?_
            rintro e w' ⟨rfl, ⟨nd1, rfl⟩⟩
            go_wp2_with fail
            refine (courierref03_digit.calls R false _ HD.out).mono ?_
            rintro e w' ⟨rfl, ⟨nd2, rfl⟩⟩
            go_wp2_with fail
            go_ret2
            have he := HEND.out HI.out
            exact ⟨by rw [he.1, he.2]; rfl, pw_below_drewN HB1.out _⟩
    · have t1 : decide (n < T.size) = false := decide_eq_false hlt
      have t1i : decide ((n : Int) < (T.size : Int)) = false := decide_eq_false (by omega)
      have HEND : Aside0 ((runR s s.size pos).1 - pos = n ∧ (runR s s.size pos).2 = k) := ⟨by
        have hg : runR s f (pos + n) = (pos + n, 0) := by
          cases f with
          | zero => rfl
          | succ f => rw [runR, if_neg (by omega)]
        rw [HA.out, hg]
        dsimp only
        exact ⟨by omega, by omega⟩⟩
      go_wp2_with fail
      go_ret2
      exact ⟨by rw [HEND.out.1, HEND.out.2]; rfl, HB.out⟩
end Go.Proofs.YthnnleibngbclaaDoor.X
