/- strings.ContainsRune at lex's seven signs: every rune, and what is none. -/
import Derived.Test.YthnnleibngbclaaDoorLexState
import Derived.Deep.QuietTactic
import Derived.BigQuiet
import Derived.WalkMore
import Derived.Laws.Runes
set_option linter.unusedVariables false
set_option linter.unusedSimpArgs false
namespace Go.Proofs.YthnnleibngbclaaDoor.X
open Go.RowKit Go.Shelf Go.Proofs.YthnnleibngbclaaDoorW.PrintWords Go.Proofs.YthnnleibngbclaaDoorW.PrintLast Go.Proofs.YthnnleibngbclaaDoorW.PrintMore
def signV (r : Int) : Bool := decide (r = 123 ∨ r = 125 ∨ r = 40 ∨ r = 41 ∨ r = 61 ∨ r = 59 ∨ r = 46)
theorem sign_ascii_all : ∀ r : Nat, r < 128 → decide (0 ≤ Lib.indexByte [123, 125, 40, 41, 61, 59, 46] r.toUInt8) = signV (r : Int) := by decide +kernel
theorem sign_ascii {r : Int} (h0 : 0 ≤ r) (h1 : r < 128) : decide (0 ≤ Lib.indexByte ({ data := #[123, 125, 40, 41, 61, 59, 46] } : ByteArray).data.toList r.toNat.toUInt8) = signV r := by
  have h := sign_ascii_all r.toNat (by omega)
  rw [Int.toNat_of_nonneg h0] at h
  exact h
theorem sign_not {r : Int} (h : r < 0 ∨ 128 ≤ r) : signV r = false := by
  unfold signV
  exact decide_eq_false (by omega)
theorem indexByte_no : ∀ (l : List UInt8) (c : UInt8), (∀ b ∈ l, b ≠ c) → Lib.indexByte l c = -1
  | [], _, _ => rfl
  | b :: l, c, h => by
    unfold Lib.indexByte
    rw [if_neg (by simpa using h b List.mem_cons_self), indexByte_no l c (fun x hx => h x (List.mem_cons_of_mem _ hx)), if_pos (by rfl)]
set_option maxHeartbeats 4000000 in
set_option maxRecDepth 100000 in
theorem indexRune_signs (r : Int) (h : r < 0 ∨ 128 ≤ r) (h1 : r ≤ 2147483647) (w : World) :
    Calls Tryd.prog 37 #[.string { data := #[123, 125, 40, 41, 61, 59, 46] }, .int .i32 r] w fun e w' => e = .returned (.int .i64 (-1)) ∧ Below w.heap.size w w' := by
  have HB := Aside0.mk (Below.refl w.heap.size w)
  by_cases hneg : r < 0
  · have t0 : decide (0 ≤ r) = false := decide_eq_false (by omega)
    have t1 : (r == 65533) = false := beq_eq_false_iff_ne.mpr (by omega)
    have hv : Lib.validRune r = false := by unfold Lib.validRune; simp; omega
    go_enter Tryd.func37, Tryd.ntmps37
    go_wp2_with fail
    refine (Tryd.utf8_ValidRune r _).mono ?_
    rintro e w' ⟨rfl, rfl⟩
    rw [hv]
    go_wp2_with fail
    go_ret
    exact ⟨rfl, HB.out⟩
  have t0 : decide (0 ≤ r) = true := decide_eq_true (by omega)
  have t0b : decide (r < 128) = false := decide_eq_false (by omega)
  by_cases h65 : r = 65533
  · subst h65
    go_enter Tryd.func37, Tryd.ntmps37
    go_wp2_with fail
    go_loopw [] (fun wr => ∃ pos : Nat, Aside0 (wr.heap[w.heap.size]? = some (.stringIter { data := #[123, 125, 40, 41, 61, 59, 46] } pos)) ∧ Aside0 (Below w.heap.size w wr)) (fun wr => 7 - wr.iterPos w.heap.size)
    case atStart => exact ⟨0, ⟨World.iter_heap w _ 0⟩, ⟨(Below.refl _ w).alloc (Nat.le_refl _) _⟩⟩
    case round =>
      obtain ⟨pos, HI, HB⟩ := hrel
      have hsz : w.heap.size < wr.heap.size := (Array.getElem?_eq_some_iff.1 HI.out).1
      by_cases hp : pos < 7
      · have hnx : ∀ ty, (Instr.next (.pointer (some ⟨w.heap.size, 0, none⟩)) true ty).run Tryd.prog wr = _ := fun ty => Lib.run_next_any_at wr w.heap.size _ pos ty HI.out hp
        have hdec : ∀ p : Fin 7, (Utf8.decode { data := #[123, 125, 40, 41, 61, 59, 46] } p.val).2 = 1 ∧ (Utf8.decode { data := #[123, 125, 40, 41, 61, 59, 46] } p.val).1 ≠ 65533 := by decide +kernel
        have hd := hdec ⟨pos, hp⟩
        have HI2 := Aside0.mk (Lib.iterAt_heap wr w.heap.size _ pos (pos + (Utf8.decode { data := #[123, 125, 40, 41, 61, 59, 46] } pos).2) HI.out)
        have HB2 := Aside0.mk (Lib.below_iterAt HB.out (k := w.heap.size) (by omega) { data := #[123, 125, 40, 41, 61, 59, 46] } (pos + (Utf8.decode { data := #[123, 125, 40, 41, 61, 59, 46] } pos).2))
        have HM : Aside0 (wr.iterPos w.heap.size = pos) := ⟨by simp only [World.iterPos, HI.out]⟩
        have h1 := hd.1
        have h2 := hd.2
        simp only at h1 h2
        generalize (Utf8.decode { data := #[123, 125, 40, 41, 61, 59, 46] } pos).1 = x at *
        generalize (Utf8.decode { data := #[123, 125, 40, 41, 61, 59, 46] } pos).2 = d at *
        have tx : ((x : Int) == 65533) = false := beq_eq_false_iff_ne.mpr (by omega)
        have H1 := Aside0.mk h1
        clear h1 h2 hd hdec
        go_wp2_with fail
        go_roundw
        case rel => exact ⟨pos + d, HI2, HB2⟩
        case measure =>
          have h1 : World.iterPos (wr.iterAt w.heap.size { data := #[123, 125, 40, 41, 61, 59, 46] } (pos + d)) w.heap.size = pos + d := by simp only [World.iterPos, HI2.out]
          rw [h1, HM.out, H1.out]
          omega
      · have hnx : ∀ ty, (Instr.next (.pointer (some ⟨w.heap.size, 0, none⟩)) true ty).run Tryd.prog wr = _ := fun ty => Lib.run_next_end_at wr w.heap.size _ pos ty HI.out hp
        go_wp2_with fail
        go_ret
        exact ⟨rfl, HB.out⟩
  have t1 : (r == 65533) = false := beq_eq_false_iff_ne.mpr h65
  cases hv : Lib.validRune r with
  | false =>
    go_enter Tryd.func37, Tryd.ntmps37
    go_wp2_with fail
    refine (Tryd.utf8_ValidRune r _).mono ?_
    rintro e w' ⟨rfl, rfl⟩
    rw [hv]
    go_wp2_with fail
    go_ret
    exact ⟨rfl, HB.out⟩
  | true =>
    go_enter Tryd.func37, Tryd.ntmps37
    go_wp2_with fail
    refine (Tryd.utf8_ValidRune r _).mono ?_
    rintro e w' ⟨rfl, rfl⟩
    rw [hv]
    have hval : Utf8.valid r = true := by
      unfold Lib.validRune at hv
      unfold Utf8.valid
      simp at hv ⊢
      omega
    have hef := encode_facts r hval (by omega)
    clear hv hval
    go_wp2_with fail
    go_step3
    go_wp2_with fail
    generalize Utf8.encode r = E at *
    obtain ⟨x, hx, hxe⟩ : ∃ x : UInt8, 128 ≤ x.toNat ∧ ∀ h, E[E.size - 1]'h = x := ⟨E[E.size - 1]'(by omega), hef.2.2 (by omega), fun _ => rfl⟩
    have hidx : ∀ k, k < 7 → Lib.indexByte (({ data := #[123, 125, 40, 41, 61, 59, 46] } : ByteArray).extract k 7).data.toList x = -1 := by
      intro k hk
      refine indexByte_no _ _ (fun b hb e => ?_)
      subst e
      rw [Lib.extract_data] at hb
      have h2 := List.mem_of_mem_drop (List.mem_of_mem_take hb)
      simp at h2
      rcases h2 with rfl | rfl | rfl | rfl | rfl | rfl | rfl <;> revert hx <;> decide
    have HIDX := Aside0.mk hidx
    have hx256 := x.toNat_lt
    have H2 := Aside0.mk hef.2.1
    have H1 := Aside0.mk hef.1
    clear hidx hef
    go_loopw [9, 10] (fun v9 v10 wr => v9 = .int .i64 ((E.size : Int) - 1) ∧ v10 = .int .i64 0 ∧ Aside0 (wr = w')) (fun _ _ _ => 0)
    case atStart => exact ⟨rfl, rfl, ⟨rfl⟩⟩
    case round =>
      obtain ⟨rfl, rfl, HWR⟩ := hrel
      obtain rfl := HWR.out
      obtain ⟨n, hn⟩ : ∃ n, E.size = n := ⟨_, rfl⟩
      have hn2 : n = 2 ∨ n = 3 ∨ n = 4 := by have h1 := H1.out; have h2 := H2.out; omega
      have HN := Aside0.mk hn
      rcases hn2 with rfl | rfl | rfl
      · have hxe2 : ∀ h, E[1]'h = x := fun h => by have := hxe (by rw [hn]; omega); simp only [hn] at this; exact this
        have hi : ∀ h, (({ data := #[123, 125, 40, 41, 61, 59, 46] } : ByteArray)[1]'h) = 125 := fun _ => rfl
        have tne : ((125 : Int) != (x.toNat : Int)) = true := bne_iff_ne.mpr (by omega)
        have ww : IntKind.i64.wrap 2 = 2 := by decide
        have hid := HIDX.out 2 (by decide)
        have hxx : (x.toNat : Int).toNat.toUInt8 = x := by simp
        have HXX := Aside0.mk hxx
        clear hxe hxx
        go_wp2_with fail
        go_step3
        go_wp2_with fail
        go_quiet (fail)
        go_wp2_with fail
        have HB2 := Aside0.mk (pw_below_drewN HB.out nq)
        generalize wr.drewN nq = W2 at *
        have hcall := fun W => Tryd.strings_IndexByte (({ data := #[123, 125, 40, 41, 61, 59, 46] } : ByteArray).extract 2 7) (x.toNat : Int) W
        rw [HXX.out, hid] at hcall
        have HCALL := Aside0.mk hcall
        clear hcall hid
        go_quiet ((go_at_call 42; exact Calls.quiet_of_same (HCALL.out _)))
        go_wp2_with fail
        rw [Exit.noGoto_ret]
        go_wp2_with fail
        rw [Exit.noGoto_ret]
        go_wp2_with fail
        go_ret
        exact ⟨rfl, pw_below_drewN HB2.out _⟩
      · have hxe2 : ∀ h, E[2]'h = x := fun h => by have := hxe (by rw [hn]; omega); simp only [hn] at this; exact this
        have hi : ∀ h, (({ data := #[123, 125, 40, 41, 61, 59, 46] } : ByteArray)[2]'h) = 40 := fun _ => rfl
        have tne : ((40 : Int) != (x.toNat : Int)) = true := bne_iff_ne.mpr (by omega)
        have ww : IntKind.i64.wrap 3 = 3 := by decide
        have hid := HIDX.out 3 (by decide)
        have hxx : (x.toNat : Int).toNat.toUInt8 = x := by simp
        have HXX := Aside0.mk hxx
        clear hxe hxx
        go_wp2_with fail
        go_step3
        go_wp2_with fail
        go_quiet (fail)
        go_wp2_with fail
        have HB2 := Aside0.mk (pw_below_drewN HB.out nq)
        generalize wr.drewN nq = W2 at *
        have hcall := fun W => Tryd.strings_IndexByte (({ data := #[123, 125, 40, 41, 61, 59, 46] } : ByteArray).extract 3 7) (x.toNat : Int) W
        rw [HXX.out, hid] at hcall
        have HCALL := Aside0.mk hcall
        clear hcall hid
        go_quiet ((go_at_call 42; exact Calls.quiet_of_same (HCALL.out _)))
        go_wp2_with fail
        rw [Exit.noGoto_ret]
        go_wp2_with fail
        rw [Exit.noGoto_ret]
        go_wp2_with fail
        go_ret
        exact ⟨rfl, pw_below_drewN HB2.out _⟩
      · have hxe2 : ∀ h, E[3]'h = x := fun h => by have := hxe (by rw [hn]; omega); simp only [hn] at this; exact this
        have hi : ∀ h, (({ data := #[123, 125, 40, 41, 61, 59, 46] } : ByteArray)[3]'h) = 41 := fun _ => rfl
        have tne : ((41 : Int) != (x.toNat : Int)) = true := bne_iff_ne.mpr (by omega)
        have ww : IntKind.i64.wrap 4 = 4 := by decide
        have hid := HIDX.out 4 (by decide)
        have hxx : (x.toNat : Int).toNat.toUInt8 = x := by simp
        have HXX := Aside0.mk hxx
        clear hxe hxx
        go_wp2_with fail
        go_step3
        go_wp2_with fail
        go_quiet (fail)
        go_wp2_with fail
        have HB2 := Aside0.mk (pw_below_drewN HB.out nq)
        generalize wr.drewN nq = W2 at *
        have hcall := fun W => Tryd.strings_IndexByte (({ data := #[123, 125, 40, 41, 61, 59, 46] } : ByteArray).extract 4 7) (x.toNat : Int) W
        rw [HXX.out, hid] at hcall
        have HCALL := Aside0.mk hcall
        clear hcall hid
        go_quiet ((go_at_call 42; exact Calls.quiet_of_same (HCALL.out _)))
        go_wp2_with fail
        rw [Exit.noGoto_ret]
        go_wp2_with fail
        rw [Exit.noGoto_ret]
        go_wp2_with fail
        go_ret
        exact ⟨rfl, pw_below_drewN HB2.out _⟩
set_option maxHeartbeats 1000000 in
theorem contains_signs (r : Int) (h0 : -2147483648 ≤ r) (h1 : r ≤ 2147483647) (w : World) :
    Calls Tryd.prog 31 #[.string { data := #[123, 125, 40, 41, 61, 59, 46] }, .int .i32 r] w fun e w' => e = .returned (.bool (signV r)) ∧ Below w.heap.size w w' := by
  by_cases h : 0 ≤ r ∧ r < 128
  · refine (Tryd.strings_ContainsRune_ascii _ r w h.1 h.2).mono ?_
    rintro e w' ⟨rfl, rfl⟩
    rw [sign_ascii h.1 h.2]
    exact ⟨rfl, Below.refl _ _⟩
  · rw [sign_not (by omega)]
    go_enter Tryd.func31, Tryd.ntmps31
    go_wp2_with fail
    refine (indexRune_signs r (by omega) h1 _).mono ?_
    rintro e w' ⟨rfl, hb⟩
    have HB := Aside0.mk hb
    clear hb
    go_wp2_with fail
    go_ret
    exact ⟨rfl, HB.out⟩
end Go.Proofs.YthnnleibngbclaaDoor.X
