/- Declarations that are formed: their kinds and numbers; how long their text is. -/
import Derived.Test.YtknbhbppofphpaaGreatDoorPrMath
import Derived.Test.YtknbhbppofphpaaGreatDoorPfMath
import Derived.Lib.ItoaLen
set_option linter.unusedVariables false
set_option linter.unusedSimpArgs false
namespace Go.Proofs.YtknbhbppofphpaaGreatDoor.X
open Go.RowKit Go.Shelf Go.Proofs.YtknbhbppofphpaaGreatDoorW.PrintWords Go.Proofs.YtknbhbppofphpaaGreatDoorW.PrintLast Go.Proofs.YtknbhbppofphpaaGreatDoorW.PrintMore
def okL : List PD → Bool
  | [] => true
  | ⟨a, _, _, fs, vs, _, ds⟩ :: l => ((decide (1 ≤ a) && decide (a ≤ 3)) && (fs.all fun f => numV f.f3) && (vs.all fun v => numV v.f1) && okL ds) && okL l
theorem okL_cons (d : PD) (l : List PD) : okL (d :: l) = (okL [d] && okL l) := by
  obtain ⟨a, b, c, fs, vs, ms, ds⟩ := d
  rw [okL, okL, okL, Bool.and_true]
theorem okL_one {d : PD} (h : okL [d] = true) : (1 ≤ d.f0 ∧ d.f0 ≤ 3) ∧ (∀ f ∈ d.f3, numV f.f3 = true) ∧ (∀ v ∈ d.f4, numV v.f1 = true) ∧ okL d.f6 = true := by
  obtain ⟨a, b, c, fs, vs, ms, ds⟩ := d
  rw [okL] at h
  simp only [Bool.and_eq_true, decide_eq_true_eq, List.all_eq_true] at h
  exact ⟨h.1.1.1.1, h.1.1.1.2, h.1.1.2, h.1.2⟩
theorem okL_mem {l : List PD} (h : okL l = true) : ∀ d ∈ l, okL [d] = true := by
  induction l with
  | nil => intro d hd; exact absurd hd (List.not_mem_nil)
  | cons x l ih =>
    rw [okL_cons, Bool.and_eq_true] at h
    intro d hd
    rcases List.mem_cons.1 hd with rfl | hd
    · exact h.1
    · exact ih h.2 d hd
theorem numV_iff {n : Int} (h : numV n = true) : 0 ≤ n ∧ n ≤ 2147483647 := by
  unfold numV at h
  rw [Bool.and_eq_true] at h
  exact ⟨of_decide_eq_true h.1, of_decide_eq_true h.2⟩
theorem phead_ok {a : Int} {b : ByteArray} {fs : List PF} {vs : List PV} {ms : List PM} {nd : Nat} {dep : Int} (h : phead a b fs vs ms nd dep = true) : (1 ≤ a ∧ a ≤ 3) ∧ (∀ f ∈ fs, numV f.f3 = true) ∧ (∀ v ∈ vs, numV v.f1 = true) := by
  unfold phead at h
  simp only [Bool.and_eq_true, List.all_eq_true] at h
  obtain ⟨⟨⟨⟨_, hk⟩, hf⟩, hv⟩, _⟩ := h
  unfold pkind at hk
  simp only [Bool.and_eq_true] at hk
  refine ⟨⟨of_decide_eq_true hk.1.1.1, of_decide_eq_true hk.1.1.2⟩, fun f hm => ?_, fun v hm => ?_⟩
  · have := hf f hm
    unfold fldP at this
    rw [Bool.and_eq_true, Bool.and_eq_true] at this
    exact this.1.2
  · have := hv v hm
    unfold valP at this
    rw [Bool.and_eq_true] at this
    exact this.2
theorem pfrmI_ok : ∀ (l : List PD) (dep : Int), pfrmI l dep = true → okL l = true := by
  intro l
  induction l using pd_ind with
  | nil => intro _ _; rw [okL]
  | cons a b c fs vs ms ds l ihd ihl =>
    intro dep h
    rw [pfrmI, Bool.and_eq_true, Bool.and_eq_true] at h
    obtain ⟨⟨h1, h2⟩, h3⟩ := h
    obtain ⟨hk, hf, hv⟩ := phead_ok h1
    rw [okL, ihl dep h3, ihd (dep + 1) h2, decide_eq_true hk.1, decide_eq_true hk.2, List.all_eq_true.mpr hf, List.all_eq_true.mpr hv]
    rfl
theorem itoaB_le (n : Int) (h : numV n = true) : (itoaB n).size ≤ 21 := by
  obtain ⟨h0, h1⟩ := numV_iff h
  have := Lib.itoa_length_le n (by omega) (by omega)
  unfold itoaB
  simpa [ByteArray.size] using this
theorem lineB_size (t : Nat) (ps : List ByteArray) : (lineB t ps).size = t + (catB ps).size + 1 := by
  unfold lineB
  rw [ByteArray.size_append, ByteArray.size_append, tabsB_size]
  rfl
theorem repW_le (b : Bool) : (repW b).size ≤ 9 := by cases b <;> decide
theorem kindW_le (a : Int) : (kindW a).size ≤ 7 := by
  unfold kindW
  split
  · decide
  · split <;> decide
theorem le_mul_K (x y K : Nat) (h : y ≤ K + x) (hK : 1 ≤ K) : y ≤ (1 + x) * K := by
  have := Nat.le_mul_of_pos_right x hK
  rw [Nat.add_mul, Nat.one_mul]
  omega
theorem fieldsB_le (t K : Nat) (hK : t + 50 ≤ K) : ∀ fs : List PF, (∀ f ∈ fs, numV f.f3 = true) → (fieldsB fs t).size ≤ nmPF fs * K
  | [], _ => Nat.zero_le _
  | f :: l, h => by
    have ih := fieldsB_le t K hK l (fun x hx => h x (List.mem_cons_of_mem _ hx))
    have hi := itoaB_le f.f3 (h f List.mem_cons_self)
    have hr := repW_le f.f0
    have hl : (lineB t (fieldLs f)).size ≤ K + (f.f1.size + f.f2.size) := by
      rw [lineB_size]
      simp only [fieldLs, catB, ByteArray.size_append]
      have e : (⟨#[32]⟩ : ByteArray).size = 1 := rfl
      have e2 : (⟨#[32, 61, 32]⟩ : ByteArray).size = 3 := rfl
      have e3 : (⟨#[59]⟩ : ByteArray).size = 1 := rfl
      have e4 : (⟨#[]⟩ : ByteArray).size = 0 := rfl
      omega
    have := le_mul_K (f.f1.size + f.f2.size) _ K hl (by omega)
    unfold fieldsB at ih ⊢
    rw [List.map_cons, catB, ByteArray.size_append, nmPF, Nat.add_mul]
    rw [← Nat.add_assoc] at this
    omega
theorem valuesB_le (t K : Nat) (hK : t + 50 ≤ K) : ∀ fs : List PV, (∀ f ∈ fs, numV f.f1 = true) → (valuesB fs t).size ≤ nmPV fs * K
  | [], _ => Nat.zero_le _
  | f :: l, h => by
    have ih := valuesB_le t K hK l (fun x hx => h x (List.mem_cons_of_mem _ hx))
    have hi := itoaB_le f.f1 (h f List.mem_cons_self)
    have hl : (lineB t (valueLs f)).size ≤ K + f.f0.size := by
      rw [lineB_size]
      simp only [valueLs, catB, ByteArray.size_append]
      have e2 : (⟨#[32, 61, 32]⟩ : ByteArray).size = 3 := rfl
      have e3 : (⟨#[59]⟩ : ByteArray).size = 1 := rfl
      have e4 : (⟨#[]⟩ : ByteArray).size = 0 := rfl
      omega
    have := le_mul_K f.f0.size _ K hl (by omega)
    unfold valuesB at ih ⊢
    rw [List.map_cons, catB, ByteArray.size_append, nmPV, Nat.add_mul]
    omega
theorem methodsB_le (t K : Nat) (hK : t + 50 ≤ K) : ∀ fs : List PM, (methodsB fs t).size ≤ nmPM fs * K
  | [] => Nat.zero_le _
  | f :: l => by
    have ih := methodsB_le t K hK l
    have hl : (lineB t (methodLs f)).size ≤ K + (f.f0.size + f.f1.size + f.f2.size) := by
      rw [lineB_size]
      simp only [methodLs, catB, ByteArray.size_append]
      have e0 : (⟨#[114, 112, 99, 32]⟩ : ByteArray).size = 4 := rfl
      have e1 : (⟨#[40]⟩ : ByteArray).size = 1 := rfl
      have e2 : (⟨#[41, 32, 114, 101, 116, 117, 114, 110, 115, 32, 40]⟩ : ByteArray).size = 11 := rfl
      have e3 : (⟨#[41, 59]⟩ : ByteArray).size = 2 := rfl
      have e4 : (⟨#[]⟩ : ByteArray).size = 0 := rfl
      omega
    have := le_mul_K (f.f0.size + f.f1.size + f.f2.size) _ K hl (by omega)
    unfold methodsB at ih ⊢
    rw [List.map_cons, catB, ByteArray.size_append, nmPM, Nat.add_mul]
    rw [← Nat.add_assoc, ← Nat.add_assoc] at this
    omega
theorem declL_le : ∀ (l : List PD) (t K : Nat), okL l = true → 2 * t + 2 * szP l + 60 ≤ K → (declL l t).size ≤ szP l * K := by
  intro l
  induction l using pd_ind with
  | nil => intro t K _ _; rw [declL]; exact Nat.zero_le _
  | cons a b c fs vs ms ds l ihd ihl =>
    intro t K h hK
    rw [okL] at h
    simp only [Bool.and_eq_true, decide_eq_true_eq, List.all_eq_true] at h
    obtain ⟨⟨⟨⟨_, hf⟩, hv⟩, hd⟩, hl⟩ := h
    rw [szP] at hK ⊢
    rw [declL]
    simp only [ByteArray.size_append]
    have h1 := fieldsB_le (t + 1) K (by omega) fs hf
    have h2 := valuesB_le (t + 1) K (by omega) vs hv
    have h3 := methodsB_le (t + 1) K (by omega) ms
    have h4 := ihd (t + 1) K hd (by omega)
    have h5 := ihl t K hl (by omega)
    have hk := kindW_le a
    have h6 : (lineB t (headLs a b)).size + (lineB t [⟨#[125]⟩]).size ≤ K + b.size := by
      rw [lineB_size, lineB_size]
      simp only [headLs, catB, ByteArray.size_append]
      have e0 : (⟨#[32]⟩ : ByteArray).size = 1 := rfl
      have e1 : (⟨#[32, 123]⟩ : ByteArray).size = 2 := rfl
      have e2 : (⟨#[125]⟩ : ByteArray).size = 1 := rfl
      have e4 : (⟨#[]⟩ : ByteArray).size = 0 := rfl
      omega
    have h7 := le_mul_K b.size _ K h6 (by omega)
    simp only [Nat.add_mul] at h7 ⊢
    omega
end Go.Proofs.YtknbhbppofphpaaGreatDoor.X
