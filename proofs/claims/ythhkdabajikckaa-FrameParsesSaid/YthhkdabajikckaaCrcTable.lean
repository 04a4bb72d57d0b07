/- The table of crc.Update: called with nothing, the function table returns the eight shifts of each byte, in new memory; no condition. -/
import Derived.Test.YthhkdabajikckaaProg
import Derived.Laws.CopyOwn
import Derived.WalkKit
import Derived.RowKit3
import Derived.Test.YthhkdabajikckaaWLast
import Derived.Test.YthhkdabajikckaaWMore
import Derived.Test.YthhkdabajikckaaMathCrc
set_option linter.unusedVariables false
set_option linter.unusedSimpArgs false
namespace Go.Proofs.Ythhkdabajikckaa.X
open Go.RowKit Go.Proofs.YthhkdabajikckaaW.PrintWords Go.Proofs.YthhkdabajikckaaW.PrintLast Go.Proofs.YthhkdabajikckaaW.PrintMore Go.Proofs.Ythhkdabajikckaa.Math
/-- The table's first k cells are reckoned, the others are nought. -/
def crcCells (k : Nat) : Array Value := Array.ofFn fun i : Fin 256 => if i.val < k then .int .u32 (shN 8 i.val : Nat) else .int .u32 0
theorem crc_zero (w : World) : (zeroValue 50).run Try.prog w = .ok (.agg (crcCells 0)) w := by kernel_rfl
theorem crcCells_at {k i : Nat} (hi : i < 256) : (crcCells k)[i]? = some (if i < k then .int .u32 (shN 8 i : Nat) else .int .u32 0) := by
  unfold crcCells
  rw [Array.getElem?_ofFn]
  simp [hi]
theorem crcCells_size (k : Nat) : (crcCells k).size = 256 := by simp [crcCells]
theorem crcCells_next (k : Nat) : (crcCells k).setIfInBounds k (.int .u32 (shN 8 k : Nat)) = crcCells (k + 1) := by
  apply Array.ext
  · simp [crcCells]
  · intro i h1 h2
    simp only [crcCells_size] at h2
    rw [Array.getElem_setIfInBounds (by rw [crcCells_size]; exact h2)]
    simp only [crcCells, Array.getElem_ofFn]
    by_cases e : k = i
    · subst e; simp
    · simp only [e, if_false]
      by_cases h : i < k
      · rw [if_pos h, if_pos (by omega)]
      · rw [if_neg h, if_neg (by omega)]
set_option maxRecDepth 100000 in
theorem crc_table.calls (w : World) :
    Calls Try.prog 31 #[] w fun e w' => e = .returned (.agg (crcCells 256)) ∧ Below w.heap.size w w' := by
  have hz := crc_zero
  go_enter Try.func31, Try.ntmps31
  go_wp2
  go_loopw [3] (fun v3 wr => ∃ k : Nat, k ≤ 256 ∧ v3 = .int .i64 k ∧ Aside0 (wr.heap[w.heap.size]? = some (.cells (crcCells k) 50 (0, 0))) ∧ Aside0 (Below w.heap.size w wr)) (fun v3 _ => 256 - (intOf v3).toNat)
  case atStart => exact ⟨0, by omega, rfl, ⟨heap_alloc_new w _⟩, ⟨(Below.refl _ _).alloc (Nat.le_refl _) _⟩⟩
  case round =>
    obtain ⟨k, hk, rfl, HC, HB⟩ := hrel
    by_cases hlt : k < 256
    · have t1 : decide ((k : Int) < 256) = true := decide_eq_true (by omega)
      have hcell : wr.cell? ⟨w.heap.size, k, none⟩ = some (.int .u32 0) := by rw [blk_cell HC.out, crcCells_at hlt, if_neg (by omega)]
      have hfz : wr.frozen? ⟨w.heap.size, k, none⟩ = false := blk_frozen HC.out k
      go_wp2
      go_loop [2, 8] (fun v2 v8 => ∃ j : Nat, j ≤ 8 ∧ v8 = .int .i64 j ∧ v2 = .int .u32 (shN j k : Nat)) (fun _ v8 => 8 - (intOf v8).toNat)
      case atStart => exact ⟨0, by omega, rfl, rfl⟩
      case round =>
        obtain ⟨j, hj, rfl, rfl⟩ := hrel
        by_cases hlt2 : j < 8
        · have t2 : decide ((j : Int) < 8) = true := decide_eq_true (by omega)
          go_wp2
          go_round
          case rel => exact ⟨j + 1, by omega, by go_num, congrArg (Value.int .u32) ((crc_step (shN_lt j (by omega))).trans (by rw [shN_succ]))⟩
          case measure => simp [intOf]; omega
        · have t2 : decide ((j : Int) < 8) = false := decide_eq_false (by omega)
          go_wp2
          go_roundw
          case rel =>
            obtain rfl : j = 8 := by omega
            exact ⟨k + 1, by omega, by go_num, ⟨blk_put HC.out k _ (crcCells_next k)⟩, ⟨HB.out.setCell (Nat.le_refl _) _⟩⟩
          case measure => simp [intOf]; omega
    · have t1 : decide ((k : Int) < 256) = false := decide_eq_false (by omega)
      obtain rfl : k = 256 := by omega
      go_wp2_with (first | (refine wpList_load_row rfl 50 (.tmp 0) rfl w.heap.size rfl 50 (crcCells 256) (0, 0) _ HC.out Try.underlying50 rfl (by kernel_rfl) ?_) | (refine wpList_store_row rfl 50 (.tmp 0) (.tmp 22) rfl w.heap.size (crcCells 256) rfl rfl 50 (crcCells 256) HC.out (by kernel_rfl) rfl (by kernel_rfl) ?_))
      exact bodyPost_ret (v := .agg (crcCells 256)) (results_cell_row (fn := Try.f31) (p := 0) (ty := 50) rfl _ _ w.heap.size 50 (crcCells 256) (0, 0) _ rfl (setRow_heap _ _ _ _ _ _ HC.out) Try.underlying50 rfl (by kernel_rfl)) rfl ⟨rfl, below_setRow HB.out (Nat.le_refl _) _⟩
def okBytes (l : List Int) : Bool := l.all fun x => decide (0 ≤ x) && decide (x < 256)
theorem okBytes_iff {l : List Int} : okBytes l = true ↔ Bytes l := by
  unfold okBytes Bytes
  rw [List.all_eq_true]
  constructor
  · intro h x hx
    have := h x hx
    rw [Bool.and_eq_true, decide_eq_true_iff, decide_eq_true_iff] at this
    exact this
  · intro h x hx
    rw [Bool.and_eq_true, decide_eq_true_iff, decide_eq_true_iff]
    exact h x hx
theorem take_rd {l : List Int} {i : Nat} (h : i < l.length) : l.take (i + 1) = l.take i ++ [rd l (i : Int)] := by
  rw [List.take_succ_eq_append_getElem h, rd_nat, List.getD_eq_getElem?_getD, List.getElem?_eq_getElem h]
  rfl
theorem crcFold_snoc (l : List Int) (c : Int) (s : Nat) : crcFold s (l ++ [c]) = crcByte (crcFold s l) c.toNat := by rw [crcFold_append]; rfl
theorem inv_u32 {s : Nat} (hs : s < 4294967296) : Go.bits .xor .u32 4294967295 (s : Int) = ((inv32 s : Nat) : Int) := by
  rw [show (4294967295 : Int) = ((4294967295 : Nat) : Int) from rfl, xor_nat_u32 (by decide) hs, Nat.xor_comm]
  rfl
end Go.Proofs.Ythhkdabajikckaa.X
