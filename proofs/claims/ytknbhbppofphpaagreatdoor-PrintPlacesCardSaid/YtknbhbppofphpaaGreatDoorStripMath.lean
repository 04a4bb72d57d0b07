/- Declarations without places, plainly: their text is the same; a row of the call's own out of a block's cells. -/
import Derived.Test.YtknbhbppofphpaaGreatDoorClone
import Derived.Test.YtknbhbppofphpaaGreatDoorPrFileMath
set_option linter.unusedVariables false
set_option linter.unusedSimpArgs false
namespace Go.Proofs.YtknbhbppofphpaaGreatDoor.X
open Go.RowKit Go.Shelf Go.Proofs.YtknbhbppofphpaaGreatDoorW.PrintWords Go.Proofs.YtknbhbppofphpaaGreatDoorW.PrintLast Go.Proofs.YtknbhbppofphpaaGreatDoorW.PrintMore
def stF (f : PF) : PF := ⟨f.f0, f.f1, f.f2, f.f3, ⟨0, 0⟩⟩
def stV (f : PV) : PV := ⟨f.f0, f.f1, ⟨0, 0⟩⟩
def stM (f : PM) : PM := ⟨f.f0, f.f1, f.f2, ⟨0, 0⟩⟩
def stL : List PD → List PD
  | [] => []
  | ⟨a, b, _, fs, vs, ms, ds⟩ :: l => ⟨a, b, ⟨0, 0⟩, fs.map stF, vs.map stV, ms.map stM, stL ds⟩ :: stL l
def stD : PD → PD
  | ⟨a, b, _, fs, vs, ms, ds⟩ => ⟨a, b, ⟨0, 0⟩, fs.map stF, vs.map stV, ms.map stM, stL ds⟩
theorem stL_map : ∀ l : List PD, stL l = l.map stD
  | [] => by rw [stL]; rfl
  | ⟨a, b, c, fs, vs, ms, ds⟩ :: l => by rw [stL, List.map_cons, stL_map l]; rfl
theorem stL_len (l : List PD) : (stL l).length = l.length := by rw [stL_map, List.length_map]
theorem fields_st (fs : List PF) (t : Nat) : fieldsB (fs.map stF) t = fieldsB fs t := by unfold fieldsB; rw [List.map_map]; rfl
theorem values_st (fs : List PV) (t : Nat) : valuesB (fs.map stV) t = valuesB fs t := by unfold valuesB; rw [List.map_map]; rfl
theorem methods_st (fs : List PM) (t : Nat) : methodsB (fs.map stM) t = methodsB fs t := by unfold methodsB; rw [List.map_map]; rfl
theorem declL_st : ∀ (l : List PD) (t : Nat), declL (stL l) t = declL l t := by
  intro l
  induction l using pd_ind with
  | nil => intro t; rw [stL]
  | cons a b c fs vs ms ds l ihd ihl => intro t; rw [stL, declL, declL, fields_st, values_st, methods_st, ihd, ihl]
theorem pfrmI_st : ∀ (l : List PD) (dep : Int), pfrmI (stL l) dep = pfrmI l dep := by
  intro l
  induction l using pd_ind with
  | nil => intro t; rw [stL]
  | cons a b c fs vs ms ds l ihd ihl =>
    intro dep
    rw [stL, pfrmI, pfrmI, ihd, ihl, stL_len]
    unfold phead
    rw [List.length_map, List.length_map, List.length_map, List.all_map, List.all_map, List.all_map]
    rfl
theorem formedP_st (l : List PD) : formedP (stL l) = formedP l := by unfold formedP; rw [← pfrmI_all, ← pfrmI_all, pfrmI_st]
theorem stD_one (d : PD) : [stD d] = stL [d] := by rw [stL_map]; rfl
theorem fileB_st (l : List PD) : fileB (stL l) = fileB l := by
  rw [stL_map]
  cases l with
  | nil => rfl
  | cons d l =>
    rw [List.map_cons, fileB, fileB, List.map_map, stD_one, declL_st]
    congr 2
    apply List.map_congr_left
    intro x _
    show _ ++ declL [stD x] 0 = _
    rw [stD_one, declL_st]
theorem printV_st (l : List PD) : printV (stL l) = printV l := by unfold printV; rw [formedP_st, fileB_st]
theorem nmPF_st : ∀ l : List PF, nmPF (l.map stF) = nmPF l
  | [] => rfl
  | f :: l => by rw [List.map_cons, nmPF, nmPF, nmPF_st l]; rfl
theorem nmPV_st : ∀ l : List PV, nmPV (l.map stV) = nmPV l
  | [] => rfl
  | f :: l => by rw [List.map_cons, nmPV, nmPV, nmPV_st l]; rfl
theorem nmPM_st : ∀ l : List PM, nmPM (l.map stM) = nmPM l
  | [] => rfl
  | f :: l => by rw [List.map_cons, nmPM, nmPM, nmPM_st l]; rfl
theorem szP_st : ∀ l : List PD, szP (stL l) = szP l := by
  intro l
  induction l using pd_ind with
  | nil => rw [stL]
  | cons a b c fs vs ms ds l ihd ihl => rw [stL, szP, szP, nmPF_st, nmPV_st, nmPM_st, ihd, ihl]
/-- A row of the call's own out of a block's cells. -/
theorem R_of_block {α : Type} {d : Kd α} {e : TypeId} {W : World} {B g cap : Nat} {arr : Array Value} {xs : List α} {ok : Nat → Prop} (hb : W.heap[g]? = some (.cells arr e (0, 0))) (hB : B ≤ g) (hsz : arr.size = cap * d.sz) (hl : xs.length ≤ cap) (hc : cap ≤ maxLen) (hok : ok g)
    (hrow : ∀ j (h : j < xs.length), ∃ cs, d.M W B (fun k => ok k ∧ k ≠ g) xs[j] cs ∧ ∀ u, u < d.sz → arr[j * d.sz + u]? = cs[u]?) : d.R e W B ok (.slice (some ⟨g, 0, none⟩) xs.length cap) xs := by
  have hll : xs.length * d.sz ≤ cap * d.sz := Nat.mul_le_mul_right _ hl
  have hal : arr.toList.length = cap * d.sz := hsz ▸ Array.length_toList
  refine ⟨fun k hk => ?_, arr.toList.take (xs.length * d.sz), ⟨?_, .inr ⟨g, cap, arr, rfl, hB, hb, hl, hc, hsz, rfl⟩⟩, ?_, fun j p hj => ?_⟩
  · obtain rfl : g = k := by simpa [Value.ownBlock] using hk
    exact hok
  · rw [List.length_take, hal]; omega
  · rw [List.length_take, hal]; omega
  · obtain ⟨hj1, rfl⟩ := List.getElem?_eq_some_iff.1 hj
    obtain ⟨cs, hM, hcs⟩ := hrow j hj1
    have hlen : cs.length = d.sz := d.K_len (d.K_of_M hM)
    have he : ((arr.toList.take (xs.length * d.sz)).drop (j * d.sz)).take d.sz = cs := by
      apply List.ext_getElem?
      intro u
      rw [List.getElem?_take]
      by_cases hu : u < d.sz
      · rw [if_pos hu, List.getElem?_drop]
        have hlt : j * d.sz + u < xs.length * d.sz := by
          have h1 : (j + 1) * d.sz ≤ xs.length * d.sz := Nat.mul_le_mul_right _ hj1
          rw [Nat.add_mul, Nat.one_mul] at h1
          omega
        rw [List.getElem?_take, if_pos hlt, Array.getElem?_toList, hcs u hu]
      · rw [if_neg hu, List.getElem?_eq_none (by omega)]
    rw [he]
    refine d.M_mono (fun k hk => ⟨hk.1, fun h => hk.2 ?_⟩) hM
    simpa [Value.ownBlock] using h
end Go.Proofs.YtknbhbppofphpaaGreatDoor.X
