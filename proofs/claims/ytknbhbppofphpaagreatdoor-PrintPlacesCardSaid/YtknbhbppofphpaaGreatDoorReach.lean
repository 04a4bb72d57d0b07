/- What an argument's reading opens to, kind by kind, with what the memory's reach says of each size; by the reading's depth, so that types nested in themselves open too. -/
import Derived.Test.YtknbhbppofphpaaGreatDoorX0
import Derived.ProofKit
import Derived.SizedLaws
set_option linter.unusedVariables false
namespace Go.Proofs.YtknbhbppofphpaaGreatDoor.Reach
open Go.RowKit Go.WideShapes Go.Proofs.YtknbhbppofphpaaGreatDoorW.PrintWords Go.Proofs.YtknbhbppofphpaaGreatDoorW.PrintLast Go.Proofs.YtknbhbppofphpaaGreatDoorW.PrintMore
/-- Cells of type t that may be read with at most N steps of depth hold a value of the kind d, of which g tells if all that is read is within reach. -/
def OpensW (P : Program) (t : TypeId) {α : Type} (d : Kd α) (g : α → Prop) (N : Nat) : Prop :=
  ∀ {H : Type} {enc : TypeId × Value → H} {w : World} {base : Nat} {spare : Nat → Bool} {held : Bool} {fuel : Nat} {cs : List Value} {x : DataW H × List MemPlace}, fuel ≤ N →
    DataW.trod enc P w base spare held fuel t cs = some x → ∃ y, d.K w y cs ∧ ((∀ n ∈ x.1.weights P t, n ≤ reachBytes) → g y)
def gPair {α β : Type} (g : α → Prop) (h : β → Prop) (x : α × β) : Prop := g x.1 ∧ h x.2
theorem int {P : Program} {t : TypeId} {k : IntKind} (ht : P.underlying t = some (.int k)) (N : Nat) : OpensW P t (Kd.int k) (fun n => (Lit.int k n).wf = true) N := by
  intro H enc w base spare held fuel cs x _ h
  obtain ⟨n, rfl, rfl, hw⟩ := DataW.trod_int ht h
  exact ⟨n, rfl, fun _ => hw⟩
theorem bool {P : Program} {t : TypeId} (ht : P.underlying t = some .bool) (N : Nat) : OpensW P t Kd.bool (fun _ => True) N := by
  intro H enc w base spare held fuel cs x _ h
  obtain ⟨b, rfl, rfl⟩ := DataW.trod_bool ht h
  exact ⟨b, rfl, fun _ => trivial⟩
theorem str {P : Program} {t : TypeId} (ht : P.underlying t = some .string) (N : Nat) : OpensW P t Kd.string (fun s => s.size ≤ reachBytes) N := by
  intro H enc w base spare held fuel cs x _ h
  obtain ⟨s, rfl, rfl, hs⟩ := DataW.trod_string ht h
  refine ⟨s, rfl, fun hb => ?_⟩
  have h1 := hb s.data.toList.length (by simp [DataW.weights])
  rwa [data_length] at h1
/-- one value for each of so many -/
theorem pick {α : Type} (p : Nat → α → Prop) : ∀ n : Nat, (∀ i, i < n → ∃ y, p i y) → ∃ ys : List α, ys.length = n ∧ ∀ i y, ys[i]? = some y → p i y := by
  intro n
  induction n with
  | zero => intro _; exact ⟨[], rfl, fun i y h => by simp at h⟩
  | succ n ih =>
    intro h
    obtain ⟨ys, hl, hy⟩ := ih (fun i hi => h i (by omega))
    obtain ⟨y, hp⟩ := h n (by omega)
    refine ⟨ys ++ [y], by simp [hl], fun i z hz => ?_⟩
    by_cases hi : i < n
    · rw [List.getElem?_append_left (by omega)] at hz
      exact hy i z hz
    · rw [List.getElem?_append_right (by omega)] at hz
      have h0 : i - ys.length = 0 := by
        rcases Nat.eq_zero_or_pos (i - ys.length) with e | e
        · exact e
        · rw [List.getElem?_eq_none (by simp; omega)] at hz
          cases hz
      rw [h0] at hz
      obtain rfl : y = z := by simpa using hz
      obtain rfl : i = n := by omega
      exact hp
theorem weightsAll_mem {H : Type} {P : Program} {e : TypeId} {d : DataW H} : ∀ {l : List (DataW H)}, d ∈ l → ∀ n ∈ d.weights P e, n ∈ DataW.weightsAll P e l
  | x :: r, h, n, hn => by
    rw [DataW.weightsAll, List.mem_append]
    rcases List.mem_cons.1 h with rfl | h
    · exact .inl hn
    · exact .inr (weightsAll_mem h n hn)
theorem slice {P : Program} {t e : TypeId} {α : Type} {d : Kd α} {g : α → Prop} {N : Nat} (ht : P.underlying t = some (.slice e)) (hc : P.cellsOf e = d.sz) (hb0 : 0 < P.bytesOf e) (he : ∀ M, M < N → OpensW P e d g M) : OpensW P t (Kd.slice e d) (fun xs => xs.length ≤ reachBytes ∧ ∀ x ∈ xs, g x) N := by
  intro H enc w base spare held fuel cs x hN h
  rcases DataW.trod_slice ht h with ⟨rfl, rfl⟩ | ⟨a, len, cap, elems, rest, n, hf, rfl, rfl, hb, hl, hm, hlen, hel, _, _⟩
  · exact ⟨[], ⟨none, 0, rfl, Nat.le_refl _, ⟨rfl, by simp, fun h0 => by simp at h0⟩⟩, fun _ => by simp⟩
  · have each : ∀ i, i < len → ∃ y : α, ∃ c, c.length = d.sz ∧ d.K w y c ∧ (∀ j u, c[j]? = some u → w.cell? (a.add (i * d.sz + j)) = some u) ∧ ∃ z, elems[i]? = some z ∧ ((∀ n ∈ z.1.weights P e, n ≤ reachBytes) → g y) := by
      intro i hi
      obtain ⟨z, hz⟩ : ∃ z, elems[i]? = some z := ⟨_, List.getElem?_eq_getElem (by omega)⟩
      have h1 := hel i hi
      rw [hz] at h1
      obtain ⟨c, hcs, htr⟩ := Option.bind_eq_some_iff.mp h1
      obtain ⟨_, hcl, hcell⟩ := World.cells?_some hcs
      obtain ⟨y, hK, hg⟩ := he n (by omega) (Nat.le_refl _) htr
      refine ⟨y, c, by rw [hcl, hc], hK, fun j u hj => ?_, z, hz, hg⟩
      have hjl : j < P.cellsOf e := by
        rw [← hcl]
        exact (List.getElem?_eq_some_iff.mp hj).1
      have h2 := hcell j hjl
      rw [add_add, hj, hc] at h2
      exact h2
    obtain ⟨ys, hyl, hy⟩ := pick _ len each
    subst hyl
    have hw : ∀ n, n = (elems.length + rest.length) * P.bytesOf e ∨ n ∈ DataW.weightsAll P e (elems.map (·.1)) → n ∈ (DataW.slice (elems.map (·.1)) (rest.map (·.1))).weights P t := by
      intro n hn
      rw [DataW.weights, ht]
      simp only [List.length_map, List.mem_cons, List.mem_append]
      rcases hn with rfl | hn
      · exact .inl rfl
      · exact .inr (.inl hn)
    refine ⟨ys, ⟨some a, cap, rfl, hl, ⟨rfl, Nat.le_trans (Nat.le_trans hl hm) (by decide), fun _ => ⟨a, rfl, fun j p hp => ?_⟩⟩⟩, fun hb => ⟨?_, fun p hp => ?_⟩⟩
    · obtain ⟨c, h1, h2, h3, _⟩ := hy j p hp
      exact ⟨c, h1, h2, h3⟩
    · have h1 := hb _ (hw _ (.inl rfl))
      have h2 : elems.length + rest.length ≤ (elems.length + rest.length) * P.bytesOf e := Nat.le_mul_of_pos_right _ hb0
      omega
    · obtain ⟨j, hj, rfl⟩ := List.getElem_of_mem hp
      obtain ⟨c, _, _, _, z, hz, hg⟩ := hy j _ (List.getElem?_eq_getElem hj)
      exact hg fun n hn => hb _ (hw _ (.inr (weightsAll_mem (List.mem_map_of_mem (List.mem_of_getElem? hz)) n hn)))
/-- The cells of a struct's fields, from the one at off on; each is read with less than N steps. -/
def OpensF (P : Program) (fs : List Field) (off : Nat) {α : Type} (d : Kd α) (g : α → Prop) (N : Nat) : Prop :=
  ∀ {H : Type} {enc : TypeId × Value → H} {w : World} {base : Nat} {spare : Nat → Bool} {held : Bool} {n : Nat} {cs : List Value} {xs : List (DataW H × List MemPlace)}, n < N →
    cs.length = off + d.sz → xs.length = fs.length → (∀ (i : Nat) (f : Field), fs[i]? = some f → DataW.trod enc P w base spare held n f.type ((cs.drop f.offset).take (P.cellsOf f.type)) = xs[i]?) →
    ∃ y, d.K w y (cs.drop off) ∧ ((∀ n ∈ DataW.weightsEach P (fs.map (·.type)) (xs.map (·.1)), n ≤ reachBytes) → g y)
theorem one {P : Program} {f : Field} {off : Nat} {α : Type} {d : Kd α} {g : α → Prop} {N : Nat} (ho : f.offset = off) (hc : P.cellsOf f.type = d.sz) (hf : ∀ M, M < N → OpensW P f.type d g M) : OpensF P [f] off d g N := by
  intro H enc w base spare held n cs xs hN hl hx h
  match xs, hx with
  | [x], _ =>
    have h0 := h 0 f rfl
    rw [ho, hc, List.take_of_length_le (by rw [List.length_drop]; omega)] at h0
    obtain ⟨y, hK, hg⟩ := hf n hN (Nat.le_refl _) h0
    exact ⟨y, hK, fun hb => hg fun m hm => hb m (by simp only [List.map_cons, List.map_nil, DataW.weightsEach, List.mem_append]; exact .inl hm)⟩
theorem cons {P : Program} {f : Field} {fs : List Field} {off : Nat} {α β : Type} {d : Kd α} {e : Kd β} {g : α → Prop} {g' : β → Prop} {N : Nat} (ho : f.offset = off) (hc : P.cellsOf f.type = d.sz) (hf : ∀ M, M < N → OpensW P f.type d g M) (hr : OpensF P fs (off + d.sz) e g' N) : OpensF P (f :: fs) off (Kd.pair d e) (gPair g g') N := by
  intro H enc w base spare held n cs xs hN hl hx h
  match xs, hx with
  | x :: xs, hx =>
    have h0 := h 0 f rfl
    rw [ho, hc] at h0
    obtain ⟨y, hK, hg⟩ := hf n hN (Nat.le_refl _) h0
    obtain ⟨z, hK2, hg2⟩ := hr (xs := xs) hN (by rw [hl]; exact Nat.add_assoc off d.sz e.sz ▸ rfl) (by simpa using hx) (fun i f' hf' => h (i + 1) f' hf')
    refine ⟨(y, z), ⟨_, _, ?_, hK, hK2⟩, fun hb => ⟨hg fun m hm => hb m ?_, hg2 fun m hm => hb m ?_⟩⟩
    · rw [← List.drop_drop, List.take_append_drop]
    · simp only [List.map_cons, DataW.weightsEach, List.mem_append]; exact .inl hm
    · simp only [List.map_cons, DataW.weightsEach, List.mem_append]; exact .inr hm
theorem struct {P : Program} {t : TypeId} {fs : Array Field} {α β : Type} {d : Kd α} {g : α → Prop} {N : Nat} (f : β → α) (mk : α → β) (hmk : ∀ a, f (mk a) = a) (ht : P.underlying t = some (.struct fs)) (hc : P.cellsOf t = d.sz) (hf : OpensF P fs.toList 0 d g N) : OpensW P t (Kd.iso d f) (fun y => g (f y)) N := by
  intro H enc w base spare held fuel cs x hN h
  obtain ⟨xs, n, hfu, rfl, hl, hlen, hfs⟩ := DataW.trod_struct ht h
  obtain ⟨y, hK, hg⟩ := hf (cs := cs) (xs := xs) (n := n) (by omega) (by rw [hl, hc]; omega) (by simpa using hlen) (fun i f' hf' => hfs i f' (by simpa using hf'))
  refine ⟨mk y, ?_, fun hb => ?_⟩
  · show d.K w (f (mk y)) cs
    rw [hmk]
    simpa using hK
  · show g (f (mk y))
    rw [hmk]
    refine hg fun m hm => hb m ?_
    rw [DataW.weights, ht]
    exact hm
theorem weaken {P : Program} {t : TypeId} {α : Type} {d : Kd α} {g g' : α → Prop} {N : Nat} (h : OpensW P t d g N) (hg : ∀ x, g x → g' x) : OpensW P t d g' N := by
  intro H enc w base spare held fuel cs x hN hx
  obtain ⟨y, hK, hw⟩ := h hN hx
  exact ⟨y, hK, fun hb => hg _ (hw hb)⟩
/-! An argument, of which the reading is known. -/
section
variable {P : Program} {t : TypeId} {H : Type} {enc : TypeId × Value → H} {w : World} {base : Nat} {b0 : Nat} {r : Reach} {spare : Nat → Bool} {held : Bool} {v : Value} {x : DataW H} {ps : List MemPlace}
theorem arg_slice {e : TypeId} {α : Type} {d : Kd α} {g : List α → Prop} (ht : P.underlying t = some (.slice e)) (ho : ∀ N, OpensW P t (Kd.slice e d) g N) (hv : Value.okWide P w r b0 t v) (h : DataW.Trod enc P w base spare held t v x ps) : ∃ A c xs, v = .slice A xs.length c ∧ xs.length ≤ c ∧ d.C w A xs.length xs ∧ ((∀ n ∈ x.weights P t, n ≤ reachBytes) → g xs) := by
  obtain ⟨A, n, c, rfl⟩ := okWide_slice ht hv
  obtain ⟨fuel, hf⟩ := h
  obtain ⟨y, hK, hg⟩ := ho fuel (Nat.le_refl _) hf
  obtain ⟨A1, c1, e1, h1, h2⟩ := hK
  have e2 : [Value.slice A n c] = [Value.slice A1 y.length c1] := e1
  cases e2
  exact ⟨A, c, y, rfl, h1, h2, hg⟩
/-- The first argument's sizes. -/
theorem sized_at {ts : List TypeId} {ds : List (DataW H)} {j : Nat} {d : DataW H} (hs : (DataW.weightsEach P ts ds).all (· ≤ reachBytes) = true) (ht : ts[j]? = some t) (hd : ds[j]? = some d) : ∀ n ∈ d.weights P t, n ≤ reachBytes := by
  intro n hn
  have := List.all_eq_true.1 hs n (DataW.weights_mem_each ht hd n hn)
  simpa using this
end
end Go.Proofs.YtknbhbppofphpaaGreatDoor.Reach
