/- slices.Clone of declarations, fields, values, methods: a block of the call's own with the same cells. Printed by gen_clone.py. -/
import Derived.Test.YtknbhbppofphpaaGreatDoorTree
import Derived.BigCall
import Derived.Laws.Externs
set_option linter.unusedVariables false
set_option linter.unusedSimpArgs false
namespace Go.Proofs.YtknbhbppofphpaaGreatDoor.X
open Go.RowKit Go.Shelf Go.Proofs.YtknbhbppofphpaaGreatDoorW.PrintWords Go.Proofs.YtknbhbppofphpaaGreatDoorW.PrintLast Go.Proofs.YtknbhbppofphpaaGreatDoorW.PrintMore
/-- A kind whose cells are told at one world and looked at no further. -/
def stillK {α : Type} (d : Kd α) (w0 : World) : Kd α where
  sz := d.sz
  E := []
  K := fun _ x cs => d.K w0 x cs
  M := fun _ _ _ x cs => d.K w0 x cs
  K_len := fun h => d.K_len h
  K_one := fun h => d.K_one h
  K_below := fun _ h => h
  K_of_M := fun h => h
  M_mono := fun _ h => h
  M_bound := fun h => h
  M_move := fun _ h => h
  M_lower := fun _ h => h
/-- A block g that holds a row's cells, as they were told at w0. -/
structure BlkRow {α : Type} (d : Kd α) (w0 : World) (e : TypeId) (g cap : Nat) (xs : List α) (arr : Array Value) (W : World) : Prop where
  blk : W.heap[g]? = some (.cells arr e (0, 0))
  size : arr.size = cap * d.sz
  len : xs.length ≤ cap
  cap : cap ≤ maxLen
  row : ∀ j (h : j < xs.length), ∃ cs, d.K w0 xs[j] cs ∧ ∀ u, u < d.sz → arr[j * d.sz + u]? = cs[u]?
theorem R_empty {α : Type} (d : Kd α) (e : TypeId) (w : World) (base : Nat) (hb : base ≤ w.heap.size) : d.R e (w.alloc (.cells #[] e)) base (fun _ => True) (.slice (some ⟨w.heap.size, 0, none⟩) 0 0) [] := by
  refine ⟨fun _ _ => trivial, [], ⟨by simp, .inr ⟨w.heap.size, 0, #[], rfl, hb, blk_new w _, Nat.le_refl _, by unfold maxLen; omega, by simp, by simp⟩⟩, Reps.none _ _⟩
theorem blkRow_of_R {α : Type} {d : Kd α} {w0 w1 : World} {e : TypeId} {base : Nat} {ok : Nat → Prop} {v : Value} {xs : List α} (h : (stillK d w0).R e w1 base ok v xs) (hv : v ≠ .slice none 0 0) :
    ∃ g cap arr, v = .slice (some ⟨g, 0, none⟩) xs.length cap ∧ base ≤ g ∧ BlkRow d w0 e g cap xs arr w1 := by
  obtain ⟨_, inner, ⟨hl, ho⟩, hr⟩ := h
  rcases ho with ⟨h0, _⟩ | ⟨g, cap, cur, rfl, hg, hh, hn, hc, hs, htake⟩
  · exact absurd h0 hv
  have hs' : cur.size = cap * d.sz := hs
  refine ⟨g, cap, cur, rfl, hg, ⟨hh, hs', hn, hc, fun j hj => ?_⟩⟩
  have hk : d.K w0 xs[j] ((inner.drop (j * d.sz)).take d.sz) := hr.2 j xs[j] (List.getElem?_eq_getElem hj)
  refine ⟨_, hk, fun u hu => ?_⟩
  rw [List.getElem?_take, if_pos hu, List.getElem?_drop, ← htake]
  have hlt : j * d.sz + u < xs.length * d.sz := by
    have h1 : (j + 1) * d.sz ≤ xs.length * d.sz := Nat.mul_le_mul_right _ hj
    rw [Nat.add_mul, Nat.one_mul] at h1
    omega
  rw [List.getElem?_take, if_pos (show j * d.sz + u < xs.length * (stillK d w0).sz from hlt), Array.getElem?_toList]
set_option maxHeartbeats 4000000 in
set_option maxRecDepth 100000 in
theorem cloneDecl.calls (A : Option Addr) (n c : Nat) (xs : List S41) (w : World) (hC : Kd.C k41 w A n xs) (hn : n ≤ 100000000) :
    Calls Tryz.prog 18 #[.slice A n c] w fun e w' => ((n = 0 ∧ e = .returned (.slice none 0 0)) ∨ ∃ g cap arr, e = .returned (.slice (some ⟨g, 0, none⟩) n cap) ∧ w.heap.size ≤ g ∧ BlkRow k41 w 41 g cap xs arr w') ∧ Below w.heap.size w w' := by
  have HC := Aside0.mk hC
  have HLN := Aside0.mk (Kd.C_len hC)
  clear hC
  have hq := fun (A : Option Addr) (n c : Nat) (W : World) => Lib.run_eql_slice_nil (P := Tryz.prog) W 28 41 A n c 0 0 Tryz.underlying28
  cases A with
  | none =>
    have h0 : n = 0 := by
      rcases Nat.eq_zero_or_pos n with h0 | h0
      · exact h0
      · obtain ⟨ad, e, _⟩ := HC.out.2.2 h0
        cases e
    subst h0
    go_enter Tryz.func18, Tryz.ntmps18
    go_wp2_with fail
    go_ret
    exact ⟨.inl ⟨by first | rfl | trivial, by first | rfl | trivial⟩, Below.refl _ _⟩
  | some ad =>
    go_enter Tryz.func18, Tryz.ntmps18
    go_wp2_with ((with_reducible refine gate_builtin (b := .append) (xs := #[.tmp 5, .tmp 6]) rfl ?_); at_builtin; go_loud (refine Kd.R_append_rows (stillK k41 w) (w0 := w) w.heap.size rfl (.tmp 5) (.tmp 6) 28 41 (.agg #[.int .i64 0, .string ⟨#[]⟩, .int .i64 0, .int .i64 0, .slice none 0 0, .slice none 0 0, .slice none 0 0, .slice none 0 0]) 136 rfl Tryz.underlying28 (by kernel_rfl) rfl (show (0 : Nat) < 8 by decide) (by decide) (.slice (some ⟨w.heap.size, 0, none⟩) 0 0) [] xs (some ad) n c (fun _ => True) (fun _ => False) rfl rfl (R_empty (stillK k41 w) 41 w w.heap.size (Nat.le_refl _)) (ReadsRow.imp_ HC.out (below_alloc (Below.refl _ _) _) (fun _ _ hp => hp)) (fun _ _ h => h) (fun _ h => h.elim) (fun _ _ => trivial) (below_alloc (Below.refl _ _) _) (below_alloc (Below.refl _ _) _).size (by simp only [List.length_nil]; omega) ?_); intro v1 w1 ho hb hg hat)
    have hv : v1 ≠ .slice none 0 0 := by
      rintro rfl
      rcases hat with h | ⟨b, h, _⟩
      · exact absurd h (by simp [Value.ownBlock])
      · exact absurd h (by simp [Value.ownBlock])
    rw [List.nil_append] at ho
    obtain ⟨g, cap, arr, rfl, hg2, hrow⟩ := blkRow_of_R ho hv
    rw [HLN.out]
    have HR := Aside0.mk hrow
    have HG := Aside0.mk hg2
    have HB := Aside0.mk hb
    clear ho hb hg hat hv hrow hg2
    go_wp2_with fail
    go_ret
    exact ⟨.inr ⟨g, cap, arr, rfl, HG.out, HR.out⟩, HB.out⟩
set_option maxHeartbeats 4000000 in
set_option maxRecDepth 100000 in
theorem cloneField.calls (A : Option Addr) (n c : Nat) (xs : List S62) (w : World) (hC : Kd.C k62 w A n xs) (hn : n ≤ 100000000) :
    Calls Tryz.prog 19 #[.slice A n c] w fun e w' => ((n = 0 ∧ e = .returned (.slice none 0 0)) ∨ ∃ g cap arr, e = .returned (.slice (some ⟨g, 0, none⟩) n cap) ∧ w.heap.size ≤ g ∧ BlkRow k62 w 62 g cap xs arr w') ∧ Below w.heap.size w w' := by
  have HC := Aside0.mk hC
  have HLN := Aside0.mk (Kd.C_len hC)
  clear hC
  have hq := fun (A : Option Addr) (n c : Nat) (W : World) => Lib.run_eql_slice_nil (P := Tryz.prog) W 38 62 A n c 0 0 Tryz.underlying38
  cases A with
  | none =>
    have h0 : n = 0 := by
      rcases Nat.eq_zero_or_pos n with h0 | h0
      · exact h0
      · obtain ⟨ad, e, _⟩ := HC.out.2.2 h0
        cases e
    subst h0
    go_enter Tryz.func19, Tryz.ntmps19
    go_wp2_with fail
    go_ret
    exact ⟨.inl ⟨by first | rfl | trivial, by first | rfl | trivial⟩, Below.refl _ _⟩
  | some ad =>
    go_enter Tryz.func19, Tryz.ntmps19
    go_wp2_with ((with_reducible refine gate_builtin (b := .append) (xs := #[.tmp 5, .tmp 6]) rfl ?_); at_builtin; go_loud (refine Kd.R_append_rows (stillK k62 w) (w0 := w) w.heap.size rfl (.tmp 5) (.tmp 6) 38 62 (.agg #[.bool false, .string ⟨#[]⟩, .string ⟨#[]⟩, .int .i64 0, .int .i64 0, .int .i64 0]) 64 rfl Tryz.underlying38 (by kernel_rfl) rfl (show (0 : Nat) < 6 by decide) (by decide) (.slice (some ⟨w.heap.size, 0, none⟩) 0 0) [] xs (some ad) n c (fun _ => True) (fun _ => False) rfl rfl (R_empty (stillK k62 w) 62 w w.heap.size (Nat.le_refl _)) (ReadsRow.imp_ HC.out (below_alloc (Below.refl _ _) _) (fun _ _ hp => hp)) (fun _ _ h => h) (fun _ h => h.elim) (fun _ _ => trivial) (below_alloc (Below.refl _ _) _) (below_alloc (Below.refl _ _) _).size (by simp only [List.length_nil]; omega) ?_); intro v1 w1 ho hb hg hat)
    have hv : v1 ≠ .slice none 0 0 := by
      rintro rfl
      rcases hat with h | ⟨b, h, _⟩
      · exact absurd h (by simp [Value.ownBlock])
      · exact absurd h (by simp [Value.ownBlock])
    rw [List.nil_append] at ho
    obtain ⟨g, cap, arr, rfl, hg2, hrow⟩ := blkRow_of_R ho hv
    rw [HLN.out]
    have HR := Aside0.mk hrow
    have HG := Aside0.mk hg2
    have HB := Aside0.mk hb
    clear ho hb hg hat hv hrow hg2
    go_wp2_with fail
    go_ret
    exact ⟨.inr ⟨g, cap, arr, rfl, HG.out, HR.out⟩, HB.out⟩
set_option maxHeartbeats 4000000 in
set_option maxRecDepth 100000 in
theorem cloneValue.calls (A : Option Addr) (n c : Nat) (xs : List S36) (w : World) (hC : Kd.C k36 w A n xs) (hn : n ≤ 100000000) :
    Calls Tryz.prog 20 #[.slice A n c] w fun e w' => ((n = 0 ∧ e = .returned (.slice none 0 0)) ∨ ∃ g cap arr, e = .returned (.slice (some ⟨g, 0, none⟩) n cap) ∧ w.heap.size ≤ g ∧ BlkRow k36 w 36 g cap xs arr w') ∧ Below w.heap.size w w' := by
  have HC := Aside0.mk hC
  have HLN := Aside0.mk (Kd.C_len hC)
  clear hC
  have hq := fun (A : Option Addr) (n c : Nat) (W : World) => Lib.run_eql_slice_nil (P := Tryz.prog) W 37 36 A n c 0 0 Tryz.underlying37
  cases A with
  | none =>
    have h0 : n = 0 := by
      rcases Nat.eq_zero_or_pos n with h0 | h0
      · exact h0
      · obtain ⟨ad, e, _⟩ := HC.out.2.2 h0
        cases e
    subst h0
    go_enter Tryz.func20, Tryz.ntmps20
    go_wp2_with fail
    go_ret
    exact ⟨.inl ⟨by first | rfl | trivial, by first | rfl | trivial⟩, Below.refl _ _⟩
  | some ad =>
    go_enter Tryz.func20, Tryz.ntmps20
    go_wp2_with ((with_reducible refine gate_builtin (b := .append) (xs := #[.tmp 5, .tmp 6]) rfl ?_); at_builtin; go_loud (refine Kd.R_append_rows (stillK k36 w) (w0 := w) w.heap.size rfl (.tmp 5) (.tmp 6) 37 36 (.agg #[.string ⟨#[]⟩, .int .i64 0, .int .i64 0, .int .i64 0]) 40 rfl Tryz.underlying37 (by kernel_rfl) rfl (show (0 : Nat) < 4 by decide) (by decide) (.slice (some ⟨w.heap.size, 0, none⟩) 0 0) [] xs (some ad) n c (fun _ => True) (fun _ => False) rfl rfl (R_empty (stillK k36 w) 36 w w.heap.size (Nat.le_refl _)) (ReadsRow.imp_ HC.out (below_alloc (Below.refl _ _) _) (fun _ _ hp => hp)) (fun _ _ h => h) (fun _ h => h.elim) (fun _ _ => trivial) (below_alloc (Below.refl _ _) _) (below_alloc (Below.refl _ _) _).size (by simp only [List.length_nil]; omega) ?_); intro v1 w1 ho hb hg hat)
    have hv : v1 ≠ .slice none 0 0 := by
      rintro rfl
      rcases hat with h | ⟨b, h, _⟩
      · exact absurd h (by simp [Value.ownBlock])
      · exact absurd h (by simp [Value.ownBlock])
    rw [List.nil_append] at ho
    obtain ⟨g, cap, arr, rfl, hg2, hrow⟩ := blkRow_of_R ho hv
    rw [HLN.out]
    have HR := Aside0.mk hrow
    have HG := Aside0.mk hg2
    have HB := Aside0.mk hb
    clear ho hb hg hat hv hrow hg2
    go_wp2_with fail
    go_ret
    exact ⟨.inr ⟨g, cap, arr, rfl, HG.out, HR.out⟩, HB.out⟩
set_option maxHeartbeats 4000000 in
set_option maxRecDepth 100000 in
theorem cloneMethod.calls (A : Option Addr) (n c : Nat) (xs : List S66) (w : World) (hC : Kd.C k66 w A n xs) (hn : n ≤ 100000000) :
    Calls Tryz.prog 21 #[.slice A n c] w fun e w' => ((n = 0 ∧ e = .returned (.slice none 0 0)) ∨ ∃ g cap arr, e = .returned (.slice (some ⟨g, 0, none⟩) n cap) ∧ w.heap.size ≤ g ∧ BlkRow k66 w 66 g cap xs arr w') ∧ Below w.heap.size w w' := by
  have HC := Aside0.mk hC
  have HLN := Aside0.mk (Kd.C_len hC)
  clear hC
  have hq := fun (A : Option Addr) (n c : Nat) (W : World) => Lib.run_eql_slice_nil (P := Tryz.prog) W 39 66 A n c 0 0 Tryz.underlying39
  cases A with
  | none =>
    have h0 : n = 0 := by
      rcases Nat.eq_zero_or_pos n with h0 | h0
      · exact h0
      · obtain ⟨ad, e, _⟩ := HC.out.2.2 h0
        cases e
    subst h0
    go_enter Tryz.func21, Tryz.ntmps21
    go_wp2_with fail
    go_ret
    exact ⟨.inl ⟨by first | rfl | trivial, by first | rfl | trivial⟩, Below.refl _ _⟩
  | some ad =>
    go_enter Tryz.func21, Tryz.ntmps21
    go_wp2_with ((with_reducible refine gate_builtin (b := .append) (xs := #[.tmp 5, .tmp 6]) rfl ?_); at_builtin; go_loud (refine Kd.R_append_rows (stillK k66 w) (w0 := w) w.heap.size rfl (.tmp 5) (.tmp 6) 39 66 (.agg #[.string ⟨#[]⟩, .string ⟨#[]⟩, .string ⟨#[]⟩, .int .i64 0, .int .i64 0]) 64 rfl Tryz.underlying39 (by kernel_rfl) rfl (show (0 : Nat) < 5 by decide) (by decide) (.slice (some ⟨w.heap.size, 0, none⟩) 0 0) [] xs (some ad) n c (fun _ => True) (fun _ => False) rfl rfl (R_empty (stillK k66 w) 66 w w.heap.size (Nat.le_refl _)) (ReadsRow.imp_ HC.out (below_alloc (Below.refl _ _) _) (fun _ _ hp => hp)) (fun _ _ h => h) (fun _ h => h.elim) (fun _ _ => trivial) (below_alloc (Below.refl _ _) _) (below_alloc (Below.refl _ _) _).size (by simp only [List.length_nil]; omega) ?_); intro v1 w1 ho hb hg hat)
    have hv : v1 ≠ .slice none 0 0 := by
      rintro rfl
      rcases hat with h | ⟨b, h, _⟩
      · exact absurd h (by simp [Value.ownBlock])
      · exact absurd h (by simp [Value.ownBlock])
    rw [List.nil_append] at ho
    obtain ⟨g, cap, arr, rfl, hg2, hrow⟩ := blkRow_of_R ho hv
    rw [HLN.out]
    have HR := Aside0.mk hrow
    have HG := Aside0.mk hg2
    have HB := Aside0.mk hb
    clear ho hb hg hat hv hrow hg2
    go_wp2_with fail
    go_ret
    exact ⟨.inr ⟨g, cap, arr, rfl, HG.out, HR.out⟩, HB.out⟩
end Go.Proofs.YtknbhbppofphpaaGreatDoor.X
