/- Plain functions for Go's own, out of the translation's print, and a proof that each call comes to what they tell; no condition but the functions' own answers. -/
import Derived.Test.YtnmdgbfkeghboaaX0
namespace Go.Proofs.Ytnmdgbfkeghboaa.X
open Go.RowKit Go.Proofs.YtnmdgbfkeghboaaW.PrintWords Go.Proofs.YtnmdgbfkeghboaaW.PrintLast Go.Proofs.YtnmdgbfkeghboaaW.PrintMore
attribute [local go_sem] max2_int min2_int max_two min_two max_three min_three max_four min_four Go.Proofs.Ytnmdgbfkeghboaa.MyWords.put_isSome Go.Proofs.Ytnmdgbfkeghboaa.MyWords.drewN_put   -- for this text's walks alone
set_option linter.unusedVariables false
set_option linter.unusedSimpArgs false

/-! ### crc_Join: function 35 -/
section
open Go.Proofs.Ytnmdgbfkeghboaa.Math
def crc_Join.f (a0 a1 a2 : Int) : Option Int := if (0 ≤ a0 ∧ a0 < 4294967296) ∧ (0 ≤ a1 ∧ a1 < 4294967296) ∧ (0 ≤ a2 ∧ a2 ≤ 16777216) then some ((shN (8 * a2.toNat) a0.toNat ^^^ a1.toNat : Nat) : Int) else none
/-- A matrix whose first k columns are those of n shifts. -/
def matCells (n k : Nat) : Array Value := Array.ofFn fun i : Fin 32 => if i.val < k then .int .u32 (shN n (2 ^ i.val) : Nat) else .int .u32 0
theorem mat_zero0 (w : World) : (zeroValue 56).run Try.prog w = .ok (.agg (matCells 0 0)) w := by kernel_rfl
theorem mat_none (n : Nat) : matCells 0 0 = matCells n 0 := by
  apply Array.ext
  · simp [matCells]
  · intro i h1 h2
    simp [matCells]
theorem mat_zero (n : Nat) (w : World) : (zeroValue 56).run Try.prog w = .ok (.agg (matCells n 0)) w := by
  rw [← mat_none n]
  exact mat_zero0 w
theorem matCells_at (n : Nat) {k i : Nat} (hi : i < 32) : (matCells n k)[i]? = some (if i < k then .int .u32 (shN n (2 ^ i) : Nat) else .int .u32 0) := by
  unfold matCells
  rw [Array.getElem?_ofFn]
  simp [hi]
theorem matCells_size (n k : Nat) : (matCells n k).size = 32 := by simp [matCells]
theorem matCells_next (n k : Nat) : (matCells n k).setIfInBounds k (.int .u32 (shN n (2 ^ k) : Nat)) = matCells n (k + 1) := by
  apply Array.ext
  · simp [matCells]
  · intro i h1 h2
    simp only [matCells_size] at h2
    rw [Array.getElem_setIfInBounds (by rw [matCells_size]; exact h2)]
    simp only [matCells, Array.getElem_ofFn]
    by_cases e : k = i
    · subst e; simp
    · simp only [e, if_false]
      by_cases h : i < k
      · rw [if_pos h, if_pos (by omega)]
      · rw [if_neg h, if_neg (by omega)]
theorem pow32_lt {i : Nat} (h : i < 32) : 2 ^ i < 4294967296 := Nat.lt_of_lt_of_le (Nat.pow_lt_pow_right (by omega) h) (by decide)
theorem bits_even {v i : Nat} (h : v / 2 ^ i % 2 = 0) : v % 2 ^ (i + 1) = v % 2 ^ i := by rw [Nat.mod_pow_succ, h, Nat.mul_zero, Nat.add_zero]
theorem bits_odd {v i : Nat} (h : v / 2 ^ i % 2 = 1) : v % 2 ^ (i + 1) = v % 2 ^ i ^^^ 2 ^ i := by
  apply Nat.eq_of_testBit_eq
  intro j
  rw [Nat.testBit_xor, Nat.testBit_mod_two_pow, Nat.testBit_mod_two_pow, Nat.testBit_two_pow]
  have hb : v.testBit i = true := by rw [Nat.testBit_eq_decide_div_mod_eq, h]; rfl
  by_cases h1 : j < i
  · have e1 : ¬ i = j := by omega
    simp [h1, e1, show j < i + 1 by omega]
  · by_cases h2 : i = j
    · subst h2
      simp [hb]
    · simp [h1, h2, show ¬ j < i + 1 by omega]
theorem div_step (v i : Nat) : v / 2 ^ i / 2 = v / 2 ^ (i + 1) := by rw [Nat.pow_succ, Nat.div_div_eq_div_mul]
set_option maxHeartbeats 1000000 in
set_option maxRecDepth 100000 in
theorem matrix_of.calls (n g v : Nat) (hv : v < 4294967296) (w : World) (hg : w.heap[g]? = some (.cells (matCells n 32) 56 (0, 0))) :
    Calls Try.prog 39 #[.pointer (some ⟨g, 0, none⟩), .int .u32 (v : Int)] w fun e w' => e = .returned (.int .u32 (shN n v : Nat)) ∧ w' = w := by
  have HG := Aside0.mk hg
  clear hg
  go_enter Try.func39, Try.ntmps39
  go_wp2_with fail
  go_loop [1, 5, 6] (fun v1 v5 v6 => ∃ i : Nat, i ≤ 32 ∧ v1 = .int .u32 ((v / 2 ^ i : Nat) : Int) ∧ v5 = .int .u32 ((shN n (v % 2 ^ i) : Nat) : Int) ∧ v6 = .int .i64 i) (fun v1 _ _ => (intOf v1).toNat)
  case atStart => exact ⟨0, by omega, by simp, by rw [Nat.pow_zero, Nat.mod_one, shN_zero]; rfl, rfl⟩
  case round =>
    obtain ⟨i, hi, rfl, rfl, rfl⟩ := hrel
    have hx : shN n (v % 2 ^ i) < 4294967296 := shN_lt n (Nat.lt_of_le_of_lt (Nat.mod_le _ _) hv)
    have hyl : v / 2 ^ i < 4294967296 := Nat.lt_of_le_of_lt (Nat.div_le_self _ _) hv
    have HS : Aside0 (v / 2 ^ i / 2 = v / 2 ^ (i + 1)) := ⟨div_step v i⟩
    by_cases h0 : v / 2 ^ i = 0
    · have HE : Aside0 (v % 2 ^ i = v) := ⟨by have := Nat.div_add_mod v (2 ^ i); rw [h0, Nat.mul_zero, Nat.zero_add] at this; exact this⟩
      rw [h0]
      rw [HE.out] at hx ⊢
      generalize hxx : shN n v = x at hx
      go_wp2
      go_ret
      exact ⟨congrArg (fun z : Nat => Ending.returned (Value.int .u32 (z : Int))) (rfl : x = x), rfl⟩
    · have hi32 : i < 32 := by
        rcases Nat.lt_or_ge i 32 with h | h
        · exact h
        · exfalso
          have : i = 32 := by omega
          subst this
          exact h0 (Nat.div_eq_of_lt hv)
      have hand : Go.bits .and .u32 ((v / 2 ^ i : Nat) : Int) 1 = ((v / 2 ^ i % 2 : Nat) : Int) := and1_u32 hyl
      by_cases hp : v / 2 ^ i % 2 = 0
      · have HE : Aside0 (v % 2 ^ (i + 1) = v % 2 ^ i) := ⟨bits_even hp⟩
        rw [hp] at hand
        generalize hy : v / 2 ^ i = y at h0 hand hyl HS
        have t0 : ((y : Int) == 0) = false := beq_eq_false_iff_ne.mpr (by omega)
        generalize hxx : shN n (v % 2 ^ i) = x at hx
        clear hp
        go_wp2
        go_round
        case rel => exact ⟨i + 1, by omega, congrArg (Value.int .u32) (by rw [← HS.out]; rfl), congrArg (Value.int .u32) (by rw [HE.out, hxx]), by go_num⟩
        case measure => simp [intOf]; omega
      · have hp1 : v / 2 ^ i % 2 = 1 := by omega
        have HE : Aside0 (shN n (v % 2 ^ (i + 1)) = shN n (v % 2 ^ i) ^^^ shN n (2 ^ i)) := ⟨by rw [bits_odd hp1, shN_xor]⟩
        rw [hp1] at hand
        have hm : shN n (2 ^ i) < 4294967296 := shN_lt n (pow32_lt hi32)
        have hcell : w.cell? ⟨g, i, none⟩ = some (.int .u32 ((shN n (2 ^ i) : Nat) : Int)) := by rw [blk_cell HG.out, matCells_at n hi32, if_pos hi32]
        have HX : Aside0 (Go.bits .xor .u32 ((shN n (v % 2 ^ i) : Nat) : Int) ((shN n (2 ^ i) : Nat) : Int) = ((shN n (v % 2 ^ (i + 1)) : Nat) : Int)) := ⟨by rw [HE.out]; exact xor_nat_u32 hx hm⟩
        generalize hy : v / 2 ^ i = y at h0 hand hyl HS
        have t0 : ((y : Int) == 0) = false := beq_eq_false_iff_ne.mpr (by omega)
        generalize hxx : shN n (v % 2 ^ i) = x at hx HX
        generalize shN n (2 ^ i) = z at hm hcell HX
        clear hp hp1 HE hx hm
        have t3 : decide ((i : Int) < 32) = true := decide_eq_true (by omega)
        go_wp2
        go_round
        case rel => exact ⟨i + 1, by omega, congrArg (Value.int .u32) (by rw [← HS.out]; rfl), congrArg (Value.int .u32) HX.out, by go_num⟩
        case measure => simp [intOf]; omega
set_option maxHeartbeats 1000000 in
set_option maxRecDepth 100000 in
theorem matrix_square.calls (n g : Nat) (w : World) (hg : w.heap[g]? = some (.cells (matCells n 32) 56 (0, 0))) :
    Calls Try.prog 40 #[.pointer (some ⟨g, 0, none⟩)] w fun e w' => e = .returned (.agg (matCells (n + n) 32)) ∧ Below w.heap.size w w' := by
  have HG := Aside0.mk hg
  have hgl := blk_lt hg
  clear hg
  have hz := mat_zero (n + n)
  go_enter Try.func40, Try.ntmps40
  go_wp2_with fail
  go_loopw [4] (fun v4 wr => ∃ k : Nat, k ≤ 32 ∧ v4 = .int .i64 k ∧ Aside0 (wr.heap[w.heap.size]? = some (.cells (matCells (n + n) k) 56 (0, 0))) ∧ Aside0 (Below w.heap.size w wr)) (fun v4 _ => 32 - (intOf v4).toNat)
  case atStart => exact ⟨0, by omega, rfl, ⟨heap_alloc_new w _⟩, ⟨(Below.refl _ _).alloc (Nat.le_refl _) _⟩⟩
  case round =>
    obtain ⟨k, hk, rfl, HC, HB⟩ := hrel
    by_cases hlt : k < 32
    · have t1 : decide ((k : Int) < 32) = true := decide_eq_true (by omega)
      have HW : Aside0 (wr.heap[g]? = some (.cells (matCells n 32) 56 (0, 0))) := ⟨(HB.out.block g hgl).trans HG.out⟩
      have hm : shN n (2 ^ k) < 4294967296 := shN_lt n (pow32_lt hlt)
      have HE : Aside0 (shN n (shN n (2 ^ k)) = shN (n + n) (2 ^ k)) := ⟨(shN_add n n _).symm⟩
      have HN : Aside0 (wr.heap[w.heap.size]? = some (.cells (matCells (n + n) k) 56 (0, 0))) := HC
      have hcell : wr.cell? ⟨g, k, none⟩ = some (.int .u32 ((shN n (2 ^ k) : Nat) : Int)) := by rw [blk_cell HW.out, matCells_at n hlt, if_pos hlt]
      have hcell2 : wr.cell? ⟨w.heap.size, k, none⟩ = some (.int .u32 0) := by rw [blk_cell HC.out, matCells_at (n + n) hlt, if_neg (by omega)]
      have hfz : wr.frozen? ⟨w.heap.size, k, none⟩ = false := blk_frozen HC.out k
      generalize hxx : shN n (2 ^ k) = x at hm HE hcell
      go_wp2_with fail
      refine (matrix_of.calls n g x hm wr HW.out).mono ?_
      rintro e w' ⟨rfl, rfl⟩
      go_wp2_with fail
      go_roundw
      case rel => exact ⟨k + 1, by omega, by go_num, ⟨blk_put HC.out k _ (by rw [HE.out]; exact matCells_next (n + n) k)⟩, ⟨HB.out.setCell (Nat.le_refl _) _⟩⟩
      case measure => simp [intOf]; omega
    · have t1 : decide ((k : Int) < 32) = false := decide_eq_false (by omega)
      obtain rfl : k = 32 := by omega
      go_wp2_with (first | (refine wpList_load_row rfl 56 (.tmp 2) rfl w.heap.size rfl 56 (matCells (n + n) 32) (0, 0) _ HC.out Try.underlying56 rfl (by kernel_rfl) ?_) | (refine wpList_store_row rfl 56 (.tmp 2) (.tmp 17) rfl w.heap.size (matCells (n + n) 32) rfl rfl 56 (matCells (n + n) 32) HC.out (by kernel_rfl) rfl (by kernel_rfl) ?_))
      exact bodyPost_ret (v := .agg (matCells (n + n) 32)) (results_cell_row (fn := Try.f40) (p := 2) (ty := 56) rfl _ _ w.heap.size 56 (matCells (n + n) 32) (0, 0) _ rfl (setRow_heap _ _ _ _ _ _ HC.out) Try.underlying56 rfl (by kernel_rfl)) rfl ⟨rfl, below_setRow HB.out (Nat.le_refl _) _⟩
theorem and1_i64 {c : Nat} (hc : c < 9223372036854775808) : Go.bits .and .i64 (c : Int) 1 = ((c % 2 : Nat) : Int) := by
  have h := (bits_nat .i64 63 (by decide) (fun n h0 h1 => by rw [IntKind.wrap_i64]; omega) c 1 hc (by decide)).1
  rw [Nat.and_one_is_mod] at h
  exact h
theorem alloc_row_size (W : World) (o : Obj) (g : Nat) (cs : Array Value) : ((W.alloc o).setRow g cs).heap.size = W.heap.size + 1 := by
  unfold World.setRow
  rw [Array.size_modify]
  exact Array.size_push _
set_option maxHeartbeats 4000000 in
set_option maxRecDepth 100000 in
theorem crc_Join.calls (a0 : Int) (a1 : Int) (a2 : Int) (r : Int) (w : World) (h : crc_Join.f a0 a1 a2 = some r) :
    Calls Try.prog 35 #[.int .u32 a0, .int .u32 a1, .int .i64 a2] w fun e w' => e = .returned (.int .u32 r) ∧ Below w.heap.size w w' := by
  unfold crc_Join.f at h
  by_cases hc : (0 ≤ a0 ∧ a0 < 4294967296) ∧ (0 ≤ a1 ∧ a1 < 4294967296) ∧ (0 ≤ a2 ∧ a2 ≤ 16777216)
  rotate_left
  · rw [if_neg hc] at h; cases h
  rw [if_pos hc] at h
  obtain rfl := Option.some.inj h
  clear h
  obtain ⟨⟨h1, h2⟩, ⟨h3, h4⟩, h5, h6⟩ := hc
  obtain ⟨a, rfl⟩ := Int.eq_ofNat_of_zero_le h1
  obtain ⟨b, rfl⟩ := Int.eq_ofNat_of_zero_le h3
  obtain ⟨m, rfl⟩ := Int.eq_ofNat_of_zero_le h5
  have ha : a < 4294967296 := by omega
  have hb : b < 4294967296 := by omega
  have hm : m ≤ 16777216 := by omega
  simp only [Int.toNat_natCast]
  clear h1 h2 h3 h4 h5 h6
  have hz := crc_zero
  have hz2 := mat_zero 8
  have t1 : decide ((m : Int) < 0) = false := decide_eq_false (by omega)
  have t2 : decide ((16777216 : Int) < (m : Int)) = false := decide_eq_false (by omega)
  have t3 : decide ((m : Int) > 16777216) = false := decide_eq_false (by omega)
  go_enter Try.func35, Try.ntmps35
  go_wp2_with fail
  refine (crc_table.calls _).mono ?_
  rintro e w1 ⟨rfl, hb1⟩
  have HB1 := Aside0.mk hb1
  have hz1 := hb1.size
  clear hb1 t1 t2 t3
  go_wp2_with ((with_reducible refine gate_store (t := 52) (p := 7) (v := .tmp 17) rfl ?_); refine wpList_store_row rfl 52 (.tmp 7) (.tmp 17) rfl w1.heap.size (crcCells 256) rfl rfl 52 (crcCells 0) (heap_alloc_new _ _) (by kernel_rfl) (by rw [crcCells_size, crcCells_size]) (by kernel_rfl) ?_)
  obtain ⟨V, hV⟩ : ∃ V, V = (w1.alloc (.cells (crcCells 0) 52)).setRow w1.heap.size (crcCells 256) := ⟨_, rfl⟩
  have hVs : V.heap.size = w1.heap.size + 1 := by rw [hV]; exact alloc_row_size _ _ _ _
  have hVt : V.heap[w1.heap.size]? = some (.cells (crcCells 256) 52 (0, 0)) := by rw [hV]; exact setRow_heap _ _ _ _ _ _ (heap_alloc_new _ _)
  have hVb : Below w.heap.size w V := by rw [hV]; exact below_setRow (HB1.out.alloc hz1 _) hz1 _
  rw [← hV]
  clear hV HB1
  have HA1 : Aside0 ((V.alloc (.cells (matCells 8 0) 56)).heap[w1.heap.size]? = some (.cells (crcCells 256) 52 (0, 0))) := ⟨blk_below hVt (below_alloc (Below.refl _ _) _)⟩
  have HA2 : Aside0 ((V.alloc (.cells (matCells 8 0) 56)).heap[w1.heap.size + 1]? = some (.cells (matCells 8 0) 56 (0, 0))) := ⟨by rw [← hVs]; exact heap_alloc_new V _⟩
  have HA3 : Aside0 (Below w.heap.size w (V.alloc (.cells (matCells 8 0) 56))) := ⟨hVb.alloc hVb.size _⟩
  generalize V.alloc (.cells (matCells 8 0) 56) = W at HA1 HA2 HA3 ⊢
  clear hVs hVt hVb
  go_loopw [18] (fun v18 wr => ∃ k : Nat, k ≤ 32 ∧ v18 = .int .i64 k ∧ Aside0 (wr.heap[w1.heap.size]? = some (.cells (crcCells 256) 52 (0, 0))) ∧ Aside0 (wr.heap[w1.heap.size + 1]? = some (.cells (matCells 8 k) 56 (0, 0))) ∧ Aside0 (Below w.heap.size w wr)) (fun v18 _ => 32 - (intOf v18).toNat)
  case atStart => exact ⟨0, by omega, rfl, HA1, HA2, HA3⟩
  case round =>
    obtain ⟨k, hk, rfl, HC1, HC2, HB⟩ := hrel
    by_cases hlt : k < 32
    · have t1 : decide ((k : Int) < 32) = true := decide_eq_true (by omega)
      have hcell2 : wr.cell? ⟨w1.heap.size + 1, k, none⟩ = some (.int .u32 0) := by rw [blk_cell HC2.out, matCells_at 8 hlt, if_neg (by omega)]
      have hfz : wr.frozen? ⟨w1.heap.size + 1, k, none⟩ = false := blk_frozen HC2.out k
      obtain ⟨x, hx⟩ : ∃ x : Nat, x = 2 ^ k := ⟨_, rfl⟩
      have hxl : x < 4294967296 := by rw [hx]; exact pow32_lt hlt
      have hpow : (2 : Int) ^ k = (x : Int) := by rw [hx]; exact (Int.natCast_pow 2 k).symm
      have hmod : (x : Int) % 4294967296 = (x : Int) := by omega
      obtain ⟨y, hy⟩ : ∃ y : Nat, y = x % 256 := ⟨_, rfl⟩
      have hyl : y < 256 := by omega
      have h256 : (x : Int) % 256 = (y : Int) := by omega
      have hcell : wr.cell? ⟨w1.heap.size, y, none⟩ = some (.int .u32 ((shN 8 y : Nat) : Int)) := by rw [blk_cell HC1.out, crcCells_at hyl, if_pos hyl]
      have HX : Aside0 (Go.bits .xor .u32 ((shN 8 y : Nat) : Int) ((x : Int) / 256) = ((shN 8 (2 ^ k) : Nat) : Int)) := ⟨by
        rw [show (x : Int) / 256 = ((x / 256 : Nat) : Int) by omega, xor_nat_u32 (shN_lt 8 (by omega)) (by omega), ← hx, shN8 x, hy]⟩
      have t4 : decide ((y : Int) < 256) = true := decide_eq_true (by omega)
      generalize shN 8 y = z at hcell HX
      clear hx hy
      go_wp2
      go_roundw
      case rel => exact ⟨k + 1, by omega, by go_num, ⟨blk_far HC1.out (p := ⟨w1.heap.size + 1, k, none⟩) (by show ¬ w1.heap.size = w1.heap.size + 1; omega) _⟩, ⟨blk_put HC2.out k _ (by rw [HX.out]; exact matCells_next 8 k)⟩, ⟨HB.out.setCell (p := ⟨w1.heap.size + 1, k, none⟩) (by show w.heap.size ≤ w1.heap.size + 1; omega) _⟩⟩
      case measure => simp [intOf]; omega
    · have t1 : decide ((k : Int) < 32) = false := decide_eq_false (by omega)
      have hk32 : k = 32 := by omega
      rw [hk32] at HC2
      clear hk32 hlt hk
      go_wp2
      go_loopw [0, 2] (fun v0 v2 wr => ∃ j : Nat, v0 = .int .u32 ((shN (8 * (m % 2 ^ j)) a : Nat) : Int) ∧ v2 = .int .i64 ((m / 2 ^ j : Nat) : Int) ∧ Aside0 (wr.heap[w1.heap.size + 1]? = some (.cells (matCells (8 * 2 ^ j) 32) 56 (0, 0))) ∧ Aside0 (Below w.heap.size w wr)) (fun _ v2 _ => (intOf v2).toNat)
      case atStart => exact ⟨0, by simp [Nat.mod_one]; rfl, by simp, ⟨HC2.out⟩, HB⟩
      case round =>
        obtain ⟨j, rfl, rfl, HD, HB2⟩ := hrel
        have hx : shN (8 * (m % 2 ^ j)) a < 4294967296 := shN_lt _ ha
        have hnl : m / 2 ^ j < 9223372036854775808 := Nat.lt_of_le_of_lt (Nat.div_le_self _ _) (by omega)
        have HS : Aside0 (m / 2 ^ j / 2 = m / 2 ^ (j + 1)) := ⟨div_step m j⟩
        have HM : Aside0 (8 * 2 ^ j + 8 * 2 ^ j = 8 * 2 ^ (j + 1)) := ⟨by rw [Nat.pow_succ]; omega⟩
        by_cases h0 : m / 2 ^ j = 0
        · have hE : m % 2 ^ j = m := by have := Nat.div_add_mod m (2 ^ j); rw [h0, Nat.mul_zero, Nat.zero_add] at this; exact this
          rw [h0]
          rw [hE] at hx ⊢
          have HX : Aside0 (Go.bits .xor .u32 ((shN (8 * m) a : Nat) : Int) (b : Int) = ((shN (8 * m) a ^^^ b : Nat) : Int)) := ⟨xor_nat_u32 hx hb⟩
          generalize hxx : shN (8 * m) a = x at hx HX
          go_wp2
          go_ret
          exact ⟨congrArg (fun z : Int => Ending.returned (Value.int .u32 z)) (by rw [hxx]; exact HX.out), HB2.out⟩
        · have t0 : decide (0 < ((m / 2 ^ j : Nat) : Int)) = true := decide_eq_true (Int.natCast_pos.mpr (Nat.pos_of_ne_zero h0))
          have hand : Go.bits .and .i64 ((m / 2 ^ j : Nat) : Int) 1 = ((m / 2 ^ j % 2 : Nat) : Int) := and1_i64 hnl
          by_cases hp : m / 2 ^ j % 2 = 0
          · have HE : Aside0 (((shN (8 * (m % 2 ^ j)) a : Nat) : Int) = ((shN (8 * (m % 2 ^ (j + 1))) a : Nat) : Int)) := ⟨by rw [bits_even hp]⟩
            rw [hp] at hand
            generalize hy : m / 2 ^ j = y at h0 hand hnl HS t0
            generalize hxx : shN (8 * (m % 2 ^ j)) a = x at hx HE
            clear hp
            go_wp2_with fail
            refine (matrix_square.calls (8 * 2 ^ j) (w1.heap.size + 1) wr HD.out).mono ?_
            rintro e w2 ⟨rfl, hb2⟩
            have hst := blk_below HD.out hb2
            have HST := Aside0.mk hst
            have HB3 := Aside0.mk (below_step HB2.out hb2)
            clear hst hb2
            go_wp2_with ((with_reducible refine gate_store (t := 56) (p := 8) (v := .tmp 42) rfl ?_); refine wpList_store_row rfl 56 (.tmp 8) (.tmp 42) rfl (w1.heap.size + 1) (matCells (8 * 2 ^ j + 8 * 2 ^ j) 32) rfl rfl 56 (matCells (8 * 2 ^ j) 32) HST.out (by kernel_rfl) (by rw [matCells_size, matCells_size]) (by kernel_rfl) ?_)
            go_roundw
            case rel => exact ⟨j + 1, congrArg (Value.int .u32) HE.out, congrArg (Value.int .i64) (by rw [← HS.out]; rfl), ⟨by rw [← HM.out]; exact setRow_heap _ _ _ _ _ _ HST.out⟩, ⟨below_setRow HB3.out (by omega) _⟩⟩
            case measure => simp [intOf]; omega

          · have hp1 : m / 2 ^ j % 2 = 1 := by omega
            have HE : Aside0 (((shN (8 * 2 ^ j) (shN (8 * (m % 2 ^ j)) a) : Nat) : Int) = ((shN (8 * (m % 2 ^ (j + 1))) a : Nat) : Int)) := ⟨by
              rw [← shN_add, Nat.mod_pow_succ, hp1, Nat.mul_one, Nat.mul_add]⟩
            rw [hp1] at hand
            generalize hy : m / 2 ^ j = y at h0 hand hnl HS t0
            generalize hxx : shN (8 * (m % 2 ^ j)) a = x at hx HE
            clear hp hp1
            go_wp2_with fail
            refine (matrix_of.calls (8 * 2 ^ j) (w1.heap.size + 1) x hx wr HD.out).mono ?_
            rintro e w' ⟨rfl, hw⟩
            obtain rfl := hw.symm
            go_wp2_with fail
            refine (matrix_square.calls (8 * 2 ^ j) (w1.heap.size + 1) wr HD.out).mono ?_
            rintro e w2 ⟨rfl, hb2⟩
            have hst := blk_below HD.out hb2
            have HST := Aside0.mk hst
            have HB3 := Aside0.mk (below_step HB2.out hb2)
            clear hst hb2
            go_wp2_with ((with_reducible refine gate_store (t := 56) (p := 8) (v := .tmp 42) rfl ?_); refine wpList_store_row rfl 56 (.tmp 8) (.tmp 42) rfl (w1.heap.size + 1) (matCells (8 * 2 ^ j + 8 * 2 ^ j) 32) rfl rfl 56 (matCells (8 * 2 ^ j) 32) HST.out (by kernel_rfl) (by rw [matCells_size, matCells_size]) (by kernel_rfl) ?_)
            go_roundw
            case rel => exact ⟨j + 1, congrArg (Value.int .u32) HE.out, congrArg (Value.int .i64) (by rw [← HS.out]; rfl), ⟨by rw [← HM.out]; exact setRow_heap _ _ _ _ _ _ HST.out⟩, ⟨below_setRow HB3.out (by omega) _⟩⟩
            case measure => simp [intOf]; omega
end

end Go.Proofs.Ytnmdgbfkeghboaa.X
