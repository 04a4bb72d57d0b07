/- While parse.Strip runs: a cloned row whose first k elements have lost their places. -/
import Derived.Test.YtknbhbppofphpaaGreatDoorStripMath
set_option linter.unusedVariables false
set_option linter.unusedSimpArgs false
namespace Go.Proofs.YtknbhbppofphpaaGreatDoor.X
open Go.RowKit Go.Shelf Go.Proofs.YtknbhbppofphpaaGreatDoorW.PrintWords Go.Proofs.YtknbhbppofphpaaGreatDoorW.PrintLast Go.Proofs.YtknbhbppofphpaaGreatDoorW.PrintMore
def cellsF (f : PF) : List Value := [.bool f.f0, .string f.f1, .string f.f2, .int .i64 f.f3, .int .i64 f.f4.f0, .int .i64 f.f4.f1]
def cellsV (f : PV) : List Value := [.string f.f0, .int .i64 f.f1, .int .i64 f.f2.f0, .int .i64 f.f2.f1]
def cellsM (f : PM) : List Value := [.string f.f0, .string f.f1, .string f.f2, .int .i64 f.f3.f0, .int .i64 f.f3.f1]
def LP {α : Type} (cl : α → List Value) (st : α → α) (sz : Nat) (e : TypeId) (A : Option Addr) (cap h : Nat) (xs : List α) (k : Nat) (W : World) : Prop :=
  (A = none ∧ xs = [] ∧ cap = 0) ∨ (A = some ⟨h, 0, none⟩ ∧ xs.length ≤ cap ∧ cap ≤ maxLen ∧ ∃ arr : Array Value, W.heap[h]? = some (.cells arr e (0, 0)) ∧ arr.size = cap * sz ∧ ∀ j (hj : j < xs.length) u, u < sz → arr[j * sz + u]? = (cl (if j < k then st xs[j] else xs[j]))[u]?)
section
variable {α : Type} {cl : α → List Value} {st : α → α} {sz : Nat} {e : TypeId} {A : Option Addr} {cap h : Nat} {xs : List α} {k : Nat} {W W' : World}
theorem LP.keep (hl : LP cl st sz e A cap h xs k W) (hk : A = none ∨ W'.heap[h]? = W.heap[h]?) : LP cl st sz e A cap h xs k W' := by
  rcases hl with hl | ⟨rfl, h1, h2, arr, h3, h4⟩
  · exact .inl hl
  · rcases hk with hk | hk
    · cases hk
    · exact .inr ⟨rfl, h1, h2, arr, hk.trans h3, h4⟩
theorem LP.below (hl : LP cl st sz e A cap h xs k W) (hb : Below W.heap.size W W') : LP cl st sz e A cap h xs k W' := by
  rcases hl with hl | ⟨rfl, h1, h2, arr, h3, h4⟩
  · exact .inl hl
  · exact .inr ⟨rfl, h1, h2, arr, blk_below h3 hb, h4⟩
theorem idx_ne {j k sz u p : Nat} (hu : u < sz) (hp : p < sz) (hjk : j ≠ k) : k * sz + p ≠ j * sz + u := by
  rcases Nat.lt_or_gt_of_ne hjk with h | h
  · have h1 : (j + 1) * sz ≤ k * sz := Nat.mul_le_mul_right _ h
    rw [Nat.add_mul, Nat.one_mul] at h1
    omega
  · have h1 : (k + 1) * sz ≤ j * sz := Nat.mul_le_mul_right _ h
    rw [Nat.add_mul, Nat.one_mul] at h1
    omega
theorem LP.step {p : Nat} {z : Value} (hl : LP cl st sz e (some ⟨h, 0, none⟩) cap h xs k W) (hk : k < xs.length) (hcl : ∀ x, (cl x).length = sz) (hst : ∀ x, cl (st x) = ((cl x).set p z).set (p + 1) z) (hp : p + 1 < sz) :
    LP cl st sz e (some ⟨h, 0, none⟩) cap h xs (k + 1) ((W.setCell ⟨h, k * sz + p, none⟩ z).setCell ⟨h, k * sz + p + 1, none⟩ z) := by
  rcases hl with ⟨h0, _⟩ | ⟨_, h1, h2, arr, h3, h4, h5⟩
  · cases h0
  refine .inr ⟨rfl, h1, h2, _, blk_set (blk_set h3 _ _) _ _, by rw [Array.size_setIfInBounds, Array.size_setIfInBounds]; exact h4, fun j hj u hu => ?_⟩
  have hlt : k * sz + p + 1 < arr.size := by
    have a1 : (k + 1) * sz ≤ cap * sz := Nat.mul_le_mul_right _ (by omega)
    rw [Nat.add_mul, Nat.one_mul] at a1
    omega
  rw [Array.getElem?_setIfInBounds, Array.getElem?_setIfInBounds, Array.size_setIfInBounds]
  by_cases hjk : j = k
  · subst hjk
    rw [if_pos (show j < j + 1 by omega), hst, List.getElem?_set, List.getElem?_set, List.length_set, hcl]
    have h6 := h5 j hj u hu
    rw [if_neg (show ¬ j < j by omega)] at h6
    by_cases u1 : p + 1 = u
    · rw [if_pos (by omega), if_pos hlt, if_pos u1, if_pos hp]
    · rw [if_neg (by omega), if_neg u1]
      by_cases u0 : p = u
      · rw [if_pos (by omega), if_pos (by omega), if_pos u0, if_pos (by omega)]
      · rw [if_neg (by omega), if_neg u0]
        exact h6
  · have e1 := idx_ne (p := p) hu (by omega) hjk
    have e2 := idx_ne (p := p + 1) hu hp hjk
    rw [if_neg (by omega), if_neg e1, h5 j hj u hu]
    have hb : (j < k) ↔ (j < k + 1) := by omega
    by_cases hjl : j < k
    · rw [if_pos hjl, if_pos (hb.1 hjl)]
    · rw [if_neg hjl, if_neg (fun h => hjl (hb.2 h))]
theorem LP.cells (hl : LP cl st sz e (some ⟨h, 0, none⟩) cap h xs k W) : ∃ arr, W.heap[h]? = some (.cells arr e (0, 0)) ∧ arr.size = cap * sz ∧ xs.length ≤ cap := by
  rcases hl with ⟨h0, _⟩ | ⟨_, h1, h2, arr, h3, h4, h5⟩
  · cases h0
  · exact ⟨arr, h3, h4, h1⟩
/-- The row, when all have lost their places. -/
theorem LP.row {d : Kd α} {B : Nat} {ok : Nat → Prop} (hl : LP cl st sz e A cap h xs xs.length W) (hsz : d.sz = sz) (hB : B ≤ h) (hok : ok h) (hM : ∀ x, d.M W B (fun k => ok k ∧ k ≠ h) x (cl x)) : d.R e W B ok (.slice A xs.length cap) (xs.map st) := by
  rcases hl with ⟨rfl, rfl, rfl⟩ | ⟨rfl, h1, h2, arr, h3, h4, h5⟩
  · exact Kd.R_nil _ _ _ _ _
  · have := R_of_block (d := d) (xs := xs.map st) (ok := ok) h3 hB (by rw [hsz]; exact h4) (by rw [List.length_map]; exact h1) h2 hok (fun j hj => ⟨cl ((xs.map st)[j]), hM _, fun u hu => by
      have hj' : j < xs.length := by rw [List.length_map] at hj; exact hj
      rw [hsz] at hu ⊢
      rw [h5 j hj' u hu, if_pos hj', List.getElem_map]⟩)
    rw [List.length_map] at this
    exact this
theorem LP.start {d : Kd α} {w0 : World} {arr : Array Value} (hr : BlkRow d w0 e h cap xs arr W) (hsz : d.sz = sz) (hK : ∀ x cs, d.K w0 x cs → cs = cl x) : LP cl st sz e (some ⟨h, 0, none⟩) cap h xs 0 W := by
  refine .inr ⟨rfl, hr.len, hr.cap, arr, hr.blk, by rw [← hsz]; exact hr.size, fun j hj u hu => ?_⟩
  obtain ⟨cs, h1, h2⟩ := hr.row j hj
  rw [if_neg (by omega), ← hK _ _ h1, ← h2 u (by rw [hsz]; exact hu), hsz]
end
theorem stF_cells (x : PF) : cellsF (stF x) = ((cellsF x).set 4 (.int .i64 0)).set 5 (.int .i64 0) := rfl
theorem stV_cells (x : PV) : cellsV (stV x) = ((cellsV x).set 2 (.int .i64 0)).set 3 (.int .i64 0) := rfl
theorem stM_cells (x : PM) : cellsM (stM x) = ((cellsM x).set 3 (.int .i64 0)).set 4 (.int .i64 0) := rfl
/-- All blocks but h are as they were; all, where there is no row. -/
def Oh (A : Option Addr) (h : Nat) (W W' : World) : Prop := ∀ k, (A = none ∨ k ≠ h) → W'.heap[k]? = W.heap[k]?
def LPS {α : Type} (cl : α → List Value) (st : α → α) (sz : Nat) (e : TypeId) (A : Option Addr) (cap h : Nat) (xs : List α) (B : Nat) (w Wl : World) (k : Nat) (W : World) : Prop :=
  LP cl st sz e A cap h xs k W ∧ Oh A h Wl W ∧ W.heap.size = Wl.heap.size ∧ Below B w W
theorem LPS.start {α : Type} {cl : α → List Value} {st : α → α} {sz : Nat} {e : TypeId} {A : Option Addr} {cap h : Nat} {xs : List α} {B : Nat} {w Wl : World} (hl : LP cl st sz e A cap h xs 0 Wl) (hb : Below B w Wl) : LPS cl st sz e A cap h xs B w Wl 0 Wl := ⟨hl, fun _ _ => rfl, rfl, hb⟩
theorem LPS.step {α : Type} {cl : α → List Value} {st : α → α} {sz : Nat} {e : TypeId} {cap h : Nat} {xs : List α} {B : Nat} {w Wl W : World} {k p : Nat} {z : Value} (hl : LPS cl st sz e (some ⟨h, 0, none⟩) cap h xs B w Wl k W) (hk : k < xs.length) (hcl : ∀ x, (cl x).length = sz) (hst : ∀ x, cl (st x) = ((cl x).set p z).set (p + 1) z) (hp : p + 1 < sz) (hB : B ≤ h) :
    LPS cl st sz e (some ⟨h, 0, none⟩) cap h xs B w Wl (k + 1) ((W.setCell ⟨h, k * sz + p, none⟩ z).setCell ⟨h, k * sz + p + 1, none⟩ z) := by
  obtain ⟨h1, h2, h3, h4⟩ := hl
  refine ⟨h1.step hk hcl hst hp, fun b hb => ?_, by simpa [World.setCell] using h3, (h4.setCell (p := ⟨h, k * sz + p, none⟩) hB _).setCell (p := ⟨h, k * sz + p + 1, none⟩) hB _⟩
  have hbh : b ≠ h := hb.resolve_left (by simp)
  exact ((Below.heap_setCell _ ⟨h, k * sz + p + 1, none⟩ _ b hbh).trans (Below.heap_setCell _ ⟨h, k * sz + p, none⟩ _ b hbh)).trans (h2 b hb)
/-- Old blocks but g are as they were. -/
def Kp (N g : Nat) (W W' : World) : Prop := (∀ k, k < N → k ≠ g → W'.heap[k]? = W.heap[k]?) ∧ W.heap.size ≤ W'.heap.size
theorem Kp.refl (N g : Nat) (W : World) : Kp N g W W := ⟨fun _ _ _ => rfl, Nat.le_refl _⟩
theorem Kp.trans {N g : Nat} {W W1 W2 : World} (h : Kp N g W W1) (k : Kp N g W1 W2) : Kp N g W W2 := ⟨fun i h1 h2 => (k.1 i h1 h2).trans (h.1 i h1 h2), Nat.le_trans h.2 k.2⟩
theorem Kp.set {N g : Nat} {W W1 : World} (h : Kp N g W W1) {b : Nat} (hb : b = g ∨ N ≤ b) (j : Nat) (z : Value) : Kp N g W (W1.setCell ⟨b, j, none⟩ z) :=
  ⟨fun i h1 h2 => (Below.heap_setCell W1 ⟨b, j, none⟩ z i (by rintro rfl; rcases hb with hb | hb; exact h2 hb; exact absurd h1 (by simp; omega))).trans (h.1 i h1 h2), by simpa [World.setCell] using h.2⟩
theorem Kp.below {N g : Nat} {W W1 W2 : World} (h : Kp N g W W1) (hN : N ≤ W1.heap.size) (hb : Below W1.heap.size W1 W2) : Kp N g W W2 :=
  ⟨fun i h1 h2 => (hb.block i (by omega)).trans (h.1 i h1 h2), Nat.le_trans h.2 hb.size⟩
theorem Kp.oh {N g : Nat} {W W1 W2 : World} {A : Option Addr} {h : Nat} (hk : Kp N g W W1) (ho : Oh A h W1 W2) (hN : N ≤ h) (hs : W2.heap.size = W1.heap.size) : Kp N g W W2 :=
  ⟨fun i h1 h2 => (ho i (.inr (by omega))).trans (hk.1 i h1 h2), by rw [hs]; exact hk.2⟩
theorem stD_mk (d : PD) : stD d = ⟨d.f0, d.f1, ⟨0, 0⟩, d.f3.map stF, d.f4.map stV, d.f5.map stM, stL d.f6⟩ := by obtain ⟨a, b, c, fs, vs, ms, ds⟩ := d; rfl
def SI (l : List PD) (w : World) (g cap : Nat) (i : Nat) (W : World) : Prop :=
  ∃ arr : Array Value, W.heap[g]? = some (.cells arr 41 (0, 0)) ∧ arr.size = cap * 8 ∧ l.length ≤ cap ∧ cap ≤ maxLen ∧ w.heap.size ≤ g ∧ Below w.heap.size w W ∧
  ∀ j (hj : j < l.length), (j < i → ∃ cs, k41.M W w.heap.size (fun k => k ≠ g) (stD l[j]) cs ∧ ∀ u, u < 8 → arr[j * 8 + u]? = cs[u]?) ∧ (i ≤ j → ∃ cs, k41.K w l[j] cs ∧ ∀ u, u < 8 → arr[j * 8 + u]? = cs[u]?)
def arrI (arr : Array Value) (o : Nat) (v4 v5 v6 v7 : Value) : Array Value := ((((((arr.setIfInBounds (o + 2) (.int .i64 0)).setIfInBounds (o + 2 + 1) (.int .i64 0)).setIfInBounds (o + 4) v4).setIfInBounds (o + 5) v5).setIfInBounds (o + 6) v6).setIfInBounds (o + 7) v7)
theorem arrI_far {arr : Array Value} {v4 v5 v6 v7 : Value} {i j u : Nat} (hj : j ≠ i) (hu : u < 8) : (arrI arr (i * 8) v4 v5 v6 v7)[j * 8 + u]? = arr[j * 8 + u]? := by
  unfold arrI
  simp only [Array.getElem?_setIfInBounds]
  rw [if_neg (by omega), if_neg (by omega), if_neg (by omega), if_neg (by omega), if_neg (by omega), if_neg (by omega)]
theorem arrI_near {arr : Array Value} {v4 v5 v6 v7 : Value} {o : Nat} {a b : Value} (ho : o + 8 ≤ arr.size) (a0 : arr[o + 0]? = some a) (a1 : arr[o + 1]? = some b) : ∀ u, u < 8 → (arrI arr o v4 v5 v6 v7)[o + u]? = [a, b, .int .i64 0, .int .i64 0, v4, v5, v6, v7][u]? := by
  intro u hu
  have hu' : u = 0 ∨ u = 1 ∨ u = 2 ∨ u = 3 ∨ u = 4 ∨ u = 5 ∨ u = 6 ∨ u = 7 := by omega
  unfold arrI
  simp only [Array.getElem?_setIfInBounds, Array.size_setIfInBounds]
  rcases hu' with rfl | rfl | rfl | rfl | rfl | rfl | rfl | rfl
  · rw [if_neg (by omega), if_neg (by omega), if_neg (by omega), if_neg (by omega), if_neg (by omega), if_neg (by omega)]; exact a0
  · rw [if_neg (by omega), if_neg (by omega), if_neg (by omega), if_neg (by omega), if_neg (by omega), if_neg (by omega)]; exact a1
  · rw [if_neg (by omega), if_neg (by omega), if_neg (by omega), if_neg (by omega), if_neg (by omega), if_pos (by omega), if_pos (by omega)]; rfl
  · rw [if_neg (by omega), if_neg (by omega), if_neg (by omega), if_neg (by omega), if_pos (by omega), if_pos (by omega)]; rfl
  · rw [if_neg (by omega), if_neg (by omega), if_neg (by omega), if_pos (by omega), if_pos (by omega)]; rfl
  · rw [if_neg (by omega), if_neg (by omega), if_pos (by omega), if_pos (by omega)]; rfl
  · rw [if_neg (by omega), if_pos (by omega), if_pos (by omega)]; rfl
  · rw [if_pos (by omega), if_pos (by omega)]; rfl
theorem SI.next {l : List PD} {w W W' : World} {g cap i : Nat} {arr : Array Value} {d : PD} {v4 v5 v6 v7 : Value} (h : SI l w g cap i W) (hd : l[i]? = some d) (hx : W.heap[g]? = some (.cells arr 41 (0, 0))) (hk : Kp W.heap.size g W W') (hb : Below w.heap.size w W')
    (hx' : W'.heap[g]? = some (.cells (arrI arr (i * 8) v4 v5 v6 v7) 41 (0, 0))) (hM : k41.M W' w.heap.size (fun k => k ≠ g) (stD d) [.int .i64 d.f0, .string d.f1, .int .i64 0, .int .i64 0, v4, v5, v6, v7])
    (a0 : arr[i * 8 + 0]? = some (.int .i64 d.f0)) (a1 : arr[i * 8 + 1]? = some (.string d.f1)) : SI l w g cap (i + 1) W' := by
  obtain ⟨arr0, h1, h2, h3, h4, h5, h6, h7⟩ := h
  obtain rfl : arr0 = arr := by rw [hx] at h1; injection h1 with h1; injection h1 with h1 _ _; exact h1.symm
  obtain ⟨hi, rfl⟩ := List.getElem?_eq_some_iff.1 hd
  refine ⟨_, hx', by unfold arrI; simp only [Array.size_setIfInBounds]; exact h2, h3, h4, h5, hb, fun j hj => ⟨fun hji => ?_, fun hij => ?_⟩⟩
  · by_cases hje : j = i
    · subst hje
      exact ⟨_, hM, arrI_near (by omega) a0 a1⟩
    · obtain ⟨cs, hc, hcs⟩ := (h7 j hj).1 (by omega)
      exact ⟨cs, Kd.M_step hc (fun k hkg hlt => hk.1 k hlt hkg), fun u hu => (arrI_far hje hu).trans (hcs u hu)⟩
  · obtain ⟨cs, hc, hcs⟩ := (h7 j hj).2 (by omega)
    exact ⟨cs, hc, fun u hu => (arrI_far (by omega) hu).trans (hcs u hu)⟩
end Go.Proofs.YtknbhbppofphpaaGreatDoor.X
