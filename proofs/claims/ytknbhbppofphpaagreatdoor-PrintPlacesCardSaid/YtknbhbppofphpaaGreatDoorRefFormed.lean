/- The reference's Formed, of declarations that Small lets in. -/
import Derived.Test.YtknbhbppofphpaaGreatDoorRefForm
set_option linter.unusedVariables false
set_option linter.unusedSimpArgs false
namespace Go.Proofs.YtknbhbppofphpaaGreatDoor.X
open Go.RowKit Go.Shelf Go.Proofs.YtknbhbppofphpaaGreatDoorW.PrintWords Go.Proofs.YtknbhbppofphpaaGreatDoorW.PrintLast Go.Proofs.YtknbhbppofphpaaGreatDoorW.PrintMore
set_option maxHeartbeats 8000000 in
set_option maxRecDepth 100000 in
theorem refFormed.calls (l : List RD) (A : Option Addr) (c : Nat) (w : World) (hC : Kd.C k60 w A l.length l) (hc : l.length ≤ c) (hsz : szL l ≤ 800) (hT : U8 w) :
    Calls Tryz.prog 12 #[.slice A l.length c] w fun e w' => e = .returned (.bool (frmT l)) ∧ Below w.heap.size w w' := by
  have HC := Aside0.mk hC
  have HT := Aside0.mk hT
  have HZ := Aside0.mk hsz
  have hln : l.length ≤ 800 := by have := len_le_sz l; omega
  obtain ⟨n, hn⟩ : ∃ n, n = l.length := ⟨_, rfl⟩
  rw [← hn] at HC hln ⊢
  have HN := Aside0.mk hn
  clear hC hc hsz hT hn
  go_enter Tryz.func12, Tryz.ntmps12
  go_wp2_with fail
  go_loopw [6] (fun v6 wr => ∃ i : Int, 0 ≤ i ∧ i ≤ (n : Int) ∧ v6 = .int .i64 i ∧ Aside0 (Below w.heap.size w wr) ∧ Aside0 (frmT l = frmT (l.drop i.toNat))) (fun v6 _ => n - (intOf v6).toNat)
  case atStart => exact ⟨0, by omega, by omega, rfl, ⟨Below.refl _ _⟩, ⟨by rw [show (0 : Int).toNat = 0 from rfl, List.drop_zero]⟩⟩
  case round =>
    obtain ⟨i, hi0, hil, rfl, HB, HF⟩ := hrel
    by_cases hlt : i < (n : Int)
    · have t1 : decide (i < (n : Int)) = true := decide_eq_true hlt
      obtain ⟨ad, B3, k3, B4, k4, B5, k5, B6, k6, e0, x0, x1, x2, x3, x4, x5, x6, x7, l3, g3, l4, g4, l5, g5, l6, g6⟩ := at_T60 HC.out i hi0 hlt
      subst e0
      replace x0 := (HB.out.cell (World.block_lt_of_cell? w _ x0)).trans x0
      replace x1 := (HB.out.cell (World.block_lt_of_cell? w _ x1)).trans x1
      replace x2 := (HB.out.cell (World.block_lt_of_cell? w _ x2)).trans x2
      replace x3 := (HB.out.cell (World.block_lt_of_cell? w _ x3)).trans x3
      replace x4 := (HB.out.cell (World.block_lt_of_cell? w _ x4)).trans x4
      replace x5 := (HB.out.cell (World.block_lt_of_cell? w _ x5)).trans x5
      replace x6 := (HB.out.cell (World.block_lt_of_cell? w _ x6)).trans x6
      replace x7 := (HB.out.cell (World.block_lt_of_cell? w _ x7)).trans x7
      have hd := drop_getD l z60 i hi0 (by rw [← HN.out]; exact hlt)
      have hrd : l.getD i.toNat z60 = rd_T60 l i := rfl
      rw [hrd] at hd
      have hm := szL_mem hd.2
      have HD := Aside0.mk hd.1
      have hz := HZ.out
      have HG3 := Aside0.mk (Kd.C_below g3 HB.out)
      have HG4 := Aside0.mk (Kd.C_below g4 HB.out)
      have HG5 := Aside0.mk (Kd.C_below g5 HB.out)
      have HG6 := Aside0.mk (Kd.C_below g6 HB.out)
      clear hd hrd l3 g3 l4 g4 l5 g5 l6 g6
      generalize rd_T60 l i = f at *
      have HQ2 := Aside0.mk (show szL [f] ≤ 800 by omega)
      clear hz hm
      replace HF : Aside0 (frmT l = (frmD f 1 && frmT (l.drop (i + 1).toNat))) := ⟨by rw [HF.out, HD.out]; rfl⟩
      go_wp2_with fail
      refine (formed.calls (szL [f]) f B3 B4 B5 B6 k3 k4 k5 k6 1 wr (Nat.le_refl _) HQ2.out (by decide) (by decide) (Utf8Tabs_below HT.out HB.out) HG3.out HG4.out HG5.out HG6.out).mono ?_
      rintro e w2 ⟨rfl, hb⟩
      have HB2 := Aside0.mk (below_step HB.out hb)
      clear hb
      generalize frmD f 1 = r at *
      cases r with
      | false =>
        rw [Bool.false_and] at HF
        go_wp2_with fail
        go_ret
        exact ⟨congrArg (fun b => Ending.returned (Value.bool b)) HF.out.symm, HB2.out⟩
      | true =>
        rw [Bool.true_and] at HF
        go_wp2_with fail
        go_roundw
        case rel => exact ⟨i + 1, by omega, by omega, rfl, HB2, HF⟩
        case measure => simp [intOf]; omega
    · have t1 : decide (i < (n : Int)) = false := decide_eq_false hlt
      have hdn : l.drop i.toNat = [] := List.drop_eq_nil_of_le (by rw [← HN.out]; omega)
      rw [hdn] at HF
      have HF2 : Aside0 (frmT l = true) := HF
      clear hdn
      go_wp2_with fail
      go_ret
      exact ⟨congrArg (fun b => Ending.returned (Value.bool b)) HF2.out.symm, HB.out⟩
end Go.Proofs.YtknbhbppofphpaaGreatDoor.X
