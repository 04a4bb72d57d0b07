/- What an argument's reading opens to, kind by kind: numbers, bools, texts, slices, structs, one inside the other; no condition but the types' own shapes. -/
import Derived.Test.YtopmelffmakklaaX0
import Derived.Test.YtopmelffmakklaaBulk
import Derived.ProofKit
set_option linter.unusedVariables false
namespace Go.Proofs.Ytopmelffmakklaa.Opens
open Go.RowKit Go.WideShapes Go.Proofs.YtopmelffmakklaaW.PrintWords Go.Proofs.YtopmelffmakklaaW.PrintLast Go.Proofs.YtopmelffmakklaaW.PrintMore Go.Proofs.Ytopmelffmakklaa.bulks

/-- Cells of type t that may be read hold a value of the kind d, of which g tells, under any bound on the reading's bulk: its letters' ranges, and sizes. -/
def Opens (P : Program) (t : TypeId) {α : Type} (d : Kd α) (g : Nat → α → Prop) : Prop :=
  ∀ {H : Type} {enc : TypeId × Value → H} {w : World} {base : Nat} {spare : Nat → Bool} {held : Bool} {fuel : Nat} {cs : List Value} {x : DataW H × List MemPlace},
    DataW.trod enc P w base spare held fuel t cs = some x → ∃ y, d.K w y cs ∧ ∀ b, Rows.uptoBulk x.1 ≤ b → g b y
def gInt (k : IntKind) (_ : Nat) (n : Int) : Prop := (Lit.int k n).wf = true
def gBool (_ : Nat) (_ : Bool) : Prop := True
def gStr (b : Nat) (s : ByteArray) : Prop := s.size ≤ maxLen ∧ s.size + 1 ≤ b
def gList {α : Type} (g : Nat → α → Prop) (b : Nat) (xs : List α) : Prop := xs.length ≤ maxLen ∧ xs.length ≤ b ∧ ∀ x ∈ xs, g b x
def gPair {α β : Type} (g : Nat → α → Prop) (h : Nat → β → Prop) (b : Nat) (x : α × β) : Prop := g b x.1 ∧ h b x.2
def gIso {α β : Type} (f : β → α) (g : Nat → α → Prop) (b : Nat) (y : β) : Prop := g b (f y)

theorem int {P : Program} {t : TypeId} {k : IntKind} (ht : P.underlying t = some (.int k)) : Opens P t (Kd.int k) (gInt k) := by
  intro H enc w base spare held fuel cs x h
  obtain ⟨n, rfl, rfl, hw⟩ := DataW.trod_int ht h
  exact ⟨n, rfl, fun _ _ => hw⟩
theorem bool {P : Program} {t : TypeId} (ht : P.underlying t = some .bool) : Opens P t Kd.bool gBool := by
  intro H enc w base spare held fuel cs x h
  obtain ⟨b, rfl, rfl⟩ := DataW.trod_bool ht h
  exact ⟨b, rfl, fun _ _ => trivial⟩
theorem str {P : Program} {t : TypeId} (ht : P.underlying t = some .string) : Opens P t Kd.string gStr := by
  intro H enc w base spare held fuel cs x h
  obtain ⟨s, rfl, rfl, hs⟩ := DataW.trod_string ht h
  refine ⟨s, rfl, fun b hb => ⟨hs, ?_⟩⟩
  rw [string_eq, Array.length_toList] at hb
  exact hb
/-- one value for each of so many -/
theorem pick {α : Type} (p : Nat → α → Prop) : ∀ n : Nat, (∀ i, i < n → ∃ y, p i y) → ∃ ys : List α, ys.length = n ∧ ∀ i y, ys[i]? = some y → p i y := by
  intro n
  induction n with
  | zero => intro _; exact ⟨[], rfl, fun i y h => by simp at h⟩
  | succ n ih =>
    intro h
    obtain ⟨ys, hl, hy⟩ := ih (fun i hi => h i (by omega))
    obtain ⟨y, hp⟩ := h n (by omega)
    refine ⟨ys ++ [y], by simp [hl], fun i z hz => ?_⟩
    by_cases hi : i < n
    · rw [List.getElem?_append_left (by omega)] at hz
      exact hy i z hz
    · rw [List.getElem?_append_right (by omega)] at hz
      have h0 : i - ys.length = 0 := by
        rcases Nat.eq_zero_or_pos (i - ys.length) with e | e
        · exact e
        · rw [List.getElem?_eq_none (by simp; omega)] at hz
          cases hz
      rw [h0] at hz
      obtain rfl : y = z := by simpa using hz
      obtain rfl : i = n := by omega
      exact hp
theorem slice {P : Program} {t e : TypeId} {α : Type} {d : Kd α} {g : Nat → α → Prop} (ht : P.underlying t = some (.slice e)) (hc : P.cellsOf e = d.sz) (he : Opens P e d g) : Opens P t (Kd.slice e d) (gList g) := by
  intro H enc w base spare held fuel cs x h
  rcases DataW.trod_slice ht h with ⟨rfl, rfl⟩ | ⟨a, len, cap, elems, rest, n, _, rfl, rfl, hb, hl, hm, hlen, hel, _, _⟩
  · exact ⟨[], ⟨none, 0, rfl, Nat.le_refl _, ⟨rfl, by simp, fun h0 => by simp at h0⟩⟩, fun _ _ => by simp [gList]⟩
  · have each : ∀ i, i < len → ∃ y : α, ∃ c, c.length = d.sz ∧ d.K w y c ∧ (∀ j u, c[j]? = some u → w.cell? (a.add (i * d.sz + j)) = some u) ∧ ∃ z, elems[i]? = some z ∧ ∀ b, Rows.uptoBulk z.1 ≤ b → g b y := by
      intro i hi
      obtain ⟨z, hz⟩ : ∃ z, elems[i]? = some z := ⟨_, List.getElem?_eq_getElem (by omega)⟩
      have h1 := hel i hi
      rw [hz] at h1
      obtain ⟨c, hcs, htr⟩ := Option.bind_eq_some_iff.mp h1
      obtain ⟨_, hcl, hcell⟩ := World.cells?_some hcs
      obtain ⟨y, hK, hg⟩ := he htr
      refine ⟨y, c, by rw [hcl, hc], hK, fun j u hj => ?_, z, hz, hg⟩
      have hjl : j < P.cellsOf e := by
        rw [← hcl]
        exact (List.getElem?_eq_some_iff.mp hj).1
      have h2 := hcell j hjl
      rw [add_add, hj, hc] at h2
      exact h2
    obtain ⟨ys, hyl, hy⟩ := pick _ len each
    subst hyl
    refine ⟨ys, ⟨some a, cap, rfl, hl, ⟨rfl, Nat.le_trans (Nat.le_trans hl hm) (by decide), fun _ => ⟨a, rfl, fun j p hp => ?_⟩⟩⟩, fun b hb => ⟨Nat.le_trans hl hm, ?_, fun p hp => ?_⟩⟩
    · obtain ⟨c, h1, h2, h3, _⟩ := hy j p hp
      exact ⟨c, h1, h2, h3⟩
    · have h1 := slice_le (H := H) (elems.map (·.1)) (rest.map (·.1))
      rw [List.length_map, hlen] at h1
      have h2 : Rows.uptoBulk (DataW.slice (elems.map (·.1)) (rest.map (·.1))) ≤ b := hb
      omega
    · obtain ⟨j, hj, rfl⟩ := List.getElem_of_mem hp
      obtain ⟨c, _, _, _, z, hz, hg⟩ := hy j _ (List.getElem?_eq_getElem hj)
      have h1 := slice_elems (H := H) (elems.map (·.1)) (rest.map (·.1))
      have h2 : Rows.uptoBulk z.1 ≤ Rows.uptoBulkAll (elems.map (·.1)) := part_le (List.mem_map_of_mem (List.mem_of_getElem? hz))
      have h3 : Rows.uptoBulk (DataW.slice (elems.map (·.1)) (rest.map (·.1))) ≤ b := hb
      exact hg b (by omega)
/-- The cells of a struct's fields, from the one at off on. -/
def OpensF (P : Program) (fs : List Field) (off : Nat) {α : Type} (d : Kd α) (g : Nat → α → Prop) : Prop :=
  ∀ {H : Type} {enc : TypeId × Value → H} {w : World} {base : Nat} {spare : Nat → Bool} {held : Bool} {n : Nat} {cs : List Value} {xs : List (DataW H × List MemPlace)},
    cs.length = off + d.sz → xs.length = fs.length → (∀ (i : Nat) (f : Field), fs[i]? = some f → DataW.trod enc P w base spare held n f.type ((cs.drop f.offset).take (P.cellsOf f.type)) = xs[i]?) →
    ∃ y, d.K w y (cs.drop off) ∧ ∀ b, Rows.uptoBulkAll (xs.map (·.1)) ≤ b → g b y
theorem one {P : Program} {f : Field} {off : Nat} {α : Type} {d : Kd α} {g : Nat → α → Prop} (ho : f.offset = off) (hc : P.cellsOf f.type = d.sz) (hf : Opens P f.type d g) : OpensF P [f] off d g := by
  intro H enc w base spare held n cs xs hl hx h
  match xs, hx with
  | [x], _ =>
    have h0 := h 0 f rfl
    rw [ho, hc, List.take_of_length_le (by rw [List.length_drop]; omega)] at h0
    obtain ⟨y, hK, hg⟩ := hf h0
    exact ⟨y, hK, fun b hb => hg b (Nat.le_trans (part_le (List.mem_singleton.mpr rfl)) hb)⟩
theorem cons {P : Program} {f : Field} {fs : List Field} {off : Nat} {α β : Type} {d : Kd α} {e : Kd β} {g : Nat → α → Prop} {g' : Nat → β → Prop} (ho : f.offset = off) (hc : P.cellsOf f.type = d.sz) (hf : Opens P f.type d g) (hr : OpensF P fs (off + d.sz) e g') : OpensF P (f :: fs) off (Kd.pair d e) (gPair g g') := by
  intro H enc w base spare held n cs xs hl hx h
  match xs, hx with
  | x :: xs, hx =>
    have h0 := h 0 f rfl
    rw [ho, hc] at h0
    obtain ⟨y, hK, hg⟩ := hf h0
    obtain ⟨z, hK2, hg2⟩ := hr (xs := xs) (by rw [hl]; exact Nat.add_assoc off d.sz e.sz ▸ rfl) (by simpa using hx) (fun i f' hf' => h (i + 1) f' hf')
    refine ⟨(y, z), ⟨_, _, ?_, hK, hK2⟩, fun b hb => ⟨hg b (Nat.le_trans (part_le (List.mem_cons_self ..)) hb), hg2 b (Nat.le_trans ?_ hb)⟩⟩
    · rw [← List.drop_drop, List.take_append_drop]
    · simp only [List.map_cons, Rows.uptoBulkAll]
      omega
theorem struct {P : Program} {t : TypeId} {fs : Array Field} {α β : Type} {d : Kd α} {g : Nat → α → Prop} (f : β → α) (mk : α → β) (hmk : ∀ a, f (mk a) = a) (ht : P.underlying t = some (.struct fs)) (hc : P.cellsOf t = d.sz) (hf : OpensF P fs.toList 0 d g) : Opens P t (Kd.iso d f) (gIso f g) := by
  intro H enc w base spare held fuel cs x h
  obtain ⟨xs, n, _, rfl, hl, hlen, hfs⟩ := DataW.trod_struct ht h
  obtain ⟨y, hK, hg⟩ := hf (cs := cs) (xs := xs) (by rw [hl, hc]; omega) (by simpa using hlen) (fun i f' hf' => hfs i f' (by simpa using hf'))
  refine ⟨mk y, ?_, fun b hb => ?_⟩
  · show d.K w (f (mk y)) cs
    rw [hmk]
    simpa using hK
  · show g b (f (mk y))
    rw [hmk]
    refine hg b (Nat.le_trans ?_ hb)
    simp only [Rows.uptoBulk]
    omega

/-! An argument, of which the reading is known. -/
section
variable {P : Program} {t : TypeId} {H : Type} {enc : TypeId × Value → H} {w : World} {base : Nat} {b0 : Nat} {r : Reach} {spare : Nat → Bool} {held : Bool} {v : Value} {x : DataW H} {ps : List MemPlace}
theorem arg_int {k : IntKind} (ht : P.underlying t = some (.int k)) (hv : Value.okWide P w r b0 t v) (h : DataW.Trod enc P w base spare held t v x ps) : ∃ n, v = .int k n ∧ ∀ b, Rows.uptoBulk x ≤ b → gInt k b n := by
  obtain ⟨n, rfl⟩ := okWide_int ht hv
  obtain ⟨fuel, hf⟩ := h
  obtain ⟨y, hK, hg⟩ := int ht hf
  have e : [Value.int k n] = [Value.int k y] := hK
  cases e
  exact ⟨n, rfl, hg⟩
theorem arg_bool (ht : P.underlying t = some .bool) (hv : Value.okWide P w r b0 t v) (h : DataW.Trod enc P w base spare held t v x ps) : ∃ n, v = .bool n ∧ ∀ b, Rows.uptoBulk x ≤ b → gBool b n := by
  obtain ⟨n, rfl⟩ := okWide_bool ht hv
  exact ⟨n, rfl, fun _ _ => trivial⟩
theorem arg_str (ht : P.underlying t = some .string) (hv : Value.okWide P w r b0 t v) (h : DataW.Trod enc P w base spare held t v x ps) : ∃ s, v = .string s ∧ ∀ b, Rows.uptoBulk x ≤ b → gStr b s := by
  obtain ⟨n, rfl⟩ := okWide_string ht hv
  obtain ⟨fuel, hf⟩ := h
  obtain ⟨y, hK, hg⟩ := str ht hf
  have e : [Value.string n] = [Value.string y] := hK
  cases e
  exact ⟨n, rfl, hg⟩
theorem arg_slice {e : TypeId} {α : Type} {d : Kd α} {g : Nat → List α → Prop} (ht : P.underlying t = some (.slice e)) (ho : Opens P t (Kd.slice e d) g) (hv : Value.okWide P w r b0 t v) (h : DataW.Trod enc P w base spare held t v x ps) : ∃ A c xs, v = .slice A xs.length c ∧ xs.length ≤ c ∧ d.C w A xs.length xs ∧ ∀ b, Rows.uptoBulk x ≤ b → g b xs := by
  obtain ⟨A, n, c, rfl⟩ := okWide_slice ht hv
  obtain ⟨fuel, hf⟩ := h
  obtain ⟨y, hK, hg⟩ := ho hf
  obtain ⟨A1, c1, e1, h1, h2⟩ := hK
  have e2 : [Value.slice A n c] = [Value.slice A1 y.length c1] := e1
  cases e2
  exact ⟨A, c, y, rfl, h1, h2, hg⟩
theorem arg_struct {fs : Array Field} {α : Type} {d : Kd α} {g : Nat → α → Prop} (ht : P.underlying t = some (.struct fs)) (ho : Opens P t d g) (hv : Value.okWide P w r b0 t v) (h : DataW.Trod enc P w base spare held t v x ps) : ∃ cs y, v = .agg cs.toArray ∧ d.K w y cs ∧ ∀ b, Rows.uptoBulk x ≤ b → g b y := by
  obtain ⟨cs, rfl, hs⟩ := okWide_struct ht hv
  obtain ⟨fuel, hf⟩ := h
  obtain ⟨y, hK, hg⟩ := ho hf
  exact ⟨cs.toList, y, by simp, hK, hg⟩
end
end Go.Proofs.Ytopmelffmakklaa.Opens
