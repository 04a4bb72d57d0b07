/- Plain functions for Go's own, out of the translation's print, and a proof that each call comes to what they tell; no condition but the functions' own answers. -/
import Derived.Test.YtnmdgbfkeghboaaX0
import Derived.Test.YtnmdgbfkeghboaaX21
import Derived.Test.YtnmdgbfkeghboaaX22
import Derived.Test.YtnmdgbfkeghboaaX25
namespace Go.Proofs.Ytnmdgbfkeghboaa.X
open Go.RowKit Go.Proofs.YtnmdgbfkeghboaaW.PrintWords Go.Proofs.YtnmdgbfkeghboaaW.PrintLast Go.Proofs.YtnmdgbfkeghboaaW.PrintMore
attribute [local go_sem] max2_int min2_int max_two min_two max_three min_three max_four min_four   -- for this text's walks alone
set_option linter.unusedVariables false
set_option linter.unusedSimpArgs false

/-! ### courierlaw14_CrcSums: function 9 -/
section
open Go.Proofs.Ytnmdgbfkeghboaa.Math
def courierlaw14_CrcSums.Pure : Prop := ∀ (l0 : List Int), l0.length ≤ maxLen → l0.length * 1 ≤ 140737488351232 → (∀ x ∈ l0, (Lit.int .u8 x).wf = true) → ∃ k t, crc_Sum.f l0 = some t ∧ courierref15_Sum.f k l0 = some t
theorem crc_Sum_a : crc_Sum.f [97] = some 3904355907 := by
  unfold crc_Sum.f crc_Update.f
  decide +kernel
theorem reads_one (W : World) (x : Int) (fr : Nat × Nat) : Kd.C (Kd.int .u8) (W.alloc (.cells #[.int .u8 x] 5 fr)) (some ⟨W.heap.size, 0, none⟩) [x].length [x] := by
  refine Kd.C_of_reads (d := (0 : Int)) (h1 := fun _ => rfl) ⟨rfl, by simp, fun _ => ⟨_, rfl, fun j hj => ?_⟩⟩
  obtain rfl : j = 0 := by simp at hj; omega
  simp [World.cell?, World.alloc, -World.alloc_eq, Addr.add]
set_option maxHeartbeats 1000000 in
set_option maxRecDepth 100000 in
theorem courierlaw14_CrcSums.walk (P : courierlaw14_CrcSums.Pure) (a0 : Option Addr) (len0 cap0 : Nat) (z0 : List Int) (w : World) (w0 : (a0 = none ∧ len0 = 0 ∧ cap0 = 0 ∧ z0 = []) ∨ ∃ x, a0 = some x ∧ len0 ≤ cap0 ∧ cap0 ≤ maxLen ∧ z0.length = cap0 ∧ (∀ i, i < z0.length → w.cell? (x.add i) = some (.int .u8 (z0.getD i 0))) ∧ ∀ n ∈ z0, (Lit.int .u8 n).wf = true) (y0 : len0 * 1 ≤ 140737488351232) :
    Calls Try.prog 9 #[.slice a0 len0 cap0] w fun e w' => e = .returned (.bool true) ∧ Below w.heap.size w w' := by
  obtain ⟨l0, rfl, hr0, hm0, hw0, hc0⟩ := ReadsInt.ofRowC w0
  obtain ⟨k, t, h1, h2⟩ := P l0 hm0 y0 hw0
  have HR := Aside0.mk (Kd.C_of_reads (d := (0 : Int)) (h1 := fun _ => rfl) hr0)
  have H1 := Aside0.mk h1
  have H2 := Aside0.mk h2
  clear h1 h2 hr0 hw0 w0 P hm0 y0
  go_enter Try.func9, Try.ntmps9
  go_wp2_with fail
  refine (crc_Sum.calls _ _ l0 t _ HR.out hc0 H1.out).mono ?_
  rintro e w1 ⟨rfl, hb⟩
  have HB := Aside0.mk hb
  have hz := hb.size
  clear hb
  go_wp2_with fail
  refine (courierref15_Sum.calls k _ _ l0 t _ (Kd.C_below HR.out HB.out) hc0 H2.out).mono ?_
  rintro e w' ⟨rfl, ⟨nd, rfl⟩⟩
  have kc : ∀ (C : Array Value) (n c : Nat), (convert 26 26 (.slice (some ⟨w1.heap.size, 0, none⟩) n c)).run Try.prog ((w1.drewN nd).alloc (.cells C 5)) = .ok (.slice (some ⟨w1.heap.size, 0, none⟩) n c) ((w1.drewN nd).alloc (.cells C 5 (C.size, C.size + 1))) := fun C n c => Lib.run_convert_bytes_const (P := Try.prog) (w1.drewN nd) 26 5 C n c Try.underlying26 Try.underlying5
  go_wp2_with fail
  refine (crc_Sum.calls _ _ [97] 3904355907 _ (reads_one (w1.drewN nd) 97 _) (by simp) crc_Sum_a).mono ?_
  rintro e w2 ⟨rfl, hb⟩
  have HB2 := Aside0.mk (HB.out.trans (Below.trans (⟨rfl, rfl, rfl, by simp, fun i hi => by simp [World.alloc, -World.alloc_eq, Array.getElem?_push, show i ≠ w1.heap.size by omega]⟩ : Below w.heap.size w1 ((w1.drewN nd).alloc (.cells #[.int .u8 97] 5 (1, 2)))) (hb.mono (by simp; omega))))
  clear hb
  go_wp2_with fail
  go_ret
  exact ⟨rfl, HB2.out⟩
end

end Go.Proofs.Ytnmdgbfkeghboaa.X
