/- printer.line: tabs, texts, a line's end. -/
import Derived.Test.YtknbhbppofphpaaGreatDoorPrWrite
import Derived.LoopTactic
set_option linter.unusedVariables false
set_option linter.unusedSimpArgs false
namespace Go.Proofs.YtknbhbppofphpaaGreatDoor.X
open Go.RowKit Go.Shelf Go.Proofs.YtknbhbppofphpaaGreatDoorW.PrintWords Go.Proofs.YtknbhbppofphpaaGreatDoorW.PrintLast Go.Proofs.YtknbhbppofphpaaGreatDoorW.PrintMore
def tabsB : Nat → ByteArray
  | 0 => ⟨#[]⟩
  | n + 1 => tabsB n ++ ⟨#[9]⟩
def catB : List ByteArray → ByteArray
  | [] => ⟨#[]⟩
  | p :: ps => p ++ catB ps
def lineB (t : Nat) (ps : List ByteArray) : ByteArray := tabsB t ++ catB ps ++ ⟨#[10]⟩
theorem tabsB_size : ∀ n, (tabsB n).size = n
  | 0 => rfl
  | n + 1 => by rw [tabsB, ByteArray.size_append, tabsB_size n]; rfl
theorem nil_app (s : ByteArray) : (⟨#[]⟩ : ByteArray) ++ s = s := by ext1; simp
theorem app_nil (s : ByteArray) : s ++ (⟨#[]⟩ : ByteArray) = s := by ext1; simp
theorem catB_app : ∀ ps qs : List ByteArray, catB (ps ++ qs) = catB ps ++ catB qs
  | [], qs => by rw [catB, nil_app]; rfl
  | p :: ps, qs => by rw [List.cons_append, catB, catB, catB_app ps qs, ByteArray.append_assoc]
theorem catB_take (ps : List ByteArray) (j : Nat) (h : j < ps.length) : catB (ps.take (j + 1)) = catB (ps.take j) ++ ps[j] := by
  rw [List.take_succ_eq_append_getElem h, catB_app, catB, catB, app_nil]
theorem catB_le (ps : List ByteArray) (j : Nat) : (catB (ps.take j)).size ≤ (catB ps).size := by
  have h : catB ps = catB (ps.take j) ++ catB (ps.drop j) := by rw [← catB_app, List.take_append_drop]
  rw [h, ByteArray.size_append]
  omega
/-- The texts that a line is made of: none, or a row of them. -/
def RowAt (A : Option Addr) (ps : List ByteArray) (w : World) : Prop := ps = [] ∨ ∃ g, A = some ⟨g, 0, none⟩ ∧ w.heap[g]? = some (.cells (ps.map Value.string).toArray 9 (0, 0))
theorem kept_of {B b : Nat} {w w' : World} (h : Lib.OthersKept 5 (some b) w w') {k : Nat} {cs : Array Value} {T : TypeId} {fz : Nat × Nat} (hk : w.heap[k]? = some (.cells cs T fz)) (hkb : k ≠ b) (hT : T ≠ 5) : w'.heap[k]? = some (.cells cs T fz) :=
  h k _ hk (by simpa using hkb) (fun c fz' e => hT (by injection e))
theorem PrAt.block {B b : Nat} {t : Int} {S : ByteArray} {w : World} (h : PrAt B b t S w) : ∃ cs fz, w.heap[b]? = some (.cells cs 49 fz) := by
  obtain ⟨p, _, _, v, hb, _⟩ := h.any
  exact ⟨_, _, hb⟩
theorem ne_of_type {w : World} {k b : Nat} {cs ds : Array Value} {T U : TypeId} {fz fy : Nat × Nat} (h : w.heap[k]? = some (.cells cs T fz)) (h' : w.heap[b]? = some (.cells ds U fy)) (hTU : T ≠ U) : k ≠ b := by
  rintro rfl
  rw [h] at h'
  injection h' with h'
  injection h' with _ h2 _
  exact hTU h2
theorem RowAt.kept {b : Nat} {A : Option Addr} {ps : List ByteArray} {w w' : World} (h : RowAt A ps w) (hk : Lib.OthersKept 5 (some b) w w') (hb : ∃ cs fz, w.heap[b]? = some (.cells cs 49 fz)) : RowAt A ps w' := by
  rcases h with h | ⟨g, hA, hg⟩
  · exact .inl h
  · obtain ⟨cs, fz, hb⟩ := hb
    exact .inr ⟨g, hA, kept_of (B := 0) hk hg (ne_of_type hg hb (by decide)) (by decide)⟩
set_option maxHeartbeats 4000000 in
set_option maxRecDepth 100000 in
theorem line.calls (B b t : Nat) (S : ByteArray) (A : Option Addr) (n c : Nat) (ps : List ByteArray) (w : World) (h : PrAt B b t S w) (hA : RowAt A ps w) (hn : ps.length = n) (hn9 : n ≤ 1000) (hlen : S.size + (t + (catB ps).size + 1) ≤ 140737488355328) (hBw : B ≤ w.heap.size) :
    Calls Tryz.prog 14 #[.pointer (some ⟨b, 0, none⟩), .slice A n c] w fun e w' => e = .returned (.tuple #[]) ∧ PrAt B b t (S ++ lineB t ps) w' ∧ Below B w w' ∧ Lib.OthersKept 5 (some b) w w' := by
  have HP := Aside0.mk h
  have HA := Aside0.mk hA
  have HN := Aside0.mk hn
  have HL := Aside0.mk hlen
  have HBW := Aside0.mk hBw
  have c2 := h.tabs.1
  have ht : t ≤ 140737488355328 := by omega
  clear h hA hn hlen hBw
  go_enter Tryz.func14, Tryz.ntmps14
  go_wp2_with fail
  clear c2
  go_loopw [10] (fun v10 wr => ∃ j : Nat, j ≤ t ∧ v10 = .int .i64 j ∧ Aside0 (PrAt B b t (S ++ tabsB j) wr) ∧ Aside0 (Below B w wr) ∧ Aside0 (Lib.OthersKept 5 (some b) w wr)) (fun v10 _ => t - (intOf v10).toNat)
  case atStart => exact ⟨0, by omega, rfl, ⟨by rw [tabsB, app_nil]; exact HP.out⟩, ⟨Below.refl _ _⟩, ⟨Lib.OthersKept.refl _ _ _⟩⟩
  case round =>
    obtain ⟨j, hj, rfl, HPJ, HBJ, HKJ⟩ := hrel
    by_cases hlt : j < t
    · have t1 : decide (j < t) = true := decide_eq_true hlt
      go_wp2_with fail
      refine (PrByte B b t (S ++ tabsB j) 9 9 rfl _ HPJ.out (by have := HL.out; rw [ByteArray.size_append, tabsB_size]; omega) (by have h1 := HBW.out; have h2 := HBJ.out.size; omega)).mono ?_
      rintro e w2 ⟨rfl, hp, hb, hk⟩
      have HP2 := Aside0.mk hp
      have HB2 := Aside0.mk (HBJ.out.trans hb)
      have HK2 := Aside0.mk (HKJ.out.trans hk)
      clear hp hb hk
      go_wp2_with fail
      go_roundw
      case rel => exact ⟨j + 1, by omega, by go_num, ⟨by rw [tabsB, ← ByteArray.append_assoc]; exact HP2.out⟩, HB2, HK2⟩
      case measure => simp [intOf]; omega
    · have t1 : decide (j < t) = false := decide_eq_false hlt
      obtain rfl : j = t := by omega
      go_wp2_with fail
      clear t1 hlt hj
      obtain ⟨S1, hS1⟩ : ∃ S1, S1 = S ++ tabsB j := ⟨_, rfl⟩
      rw [← hS1] at HPJ
      have HS1 := Aside0.mk hS1
      clear hS1
      obtain ⟨wa, hwa⟩ : ∃ wo : World, wo = wr := ⟨_, rfl⟩
      have HA1 : Aside0 (RowAt A ps wr) := ⟨HA.out.kept HKJ.out HP.out.block⟩
      go_loopw [19] (fun v19 wr => ∃ i : Nat, i ≤ n ∧ v19 = .int .i64 i ∧ Aside0 (PrAt B b j (S1 ++ catB (ps.take i)) wr) ∧ Aside0 (Below B w wr) ∧ Aside0 (Lib.OthersKept 5 (some b) w wr)) (fun v19 _ => n - (intOf v19).toNat)
      case atStart => exact ⟨0, by omega, rfl, ⟨by rw [List.take_zero, catB, app_nil]; exact HPJ.out⟩, HBJ, HKJ⟩
      case round =>
        obtain ⟨i, hi, rfl, HPI, HBI, HKI⟩ := hrel
        by_cases hlt : i < n
        · have t1 : decide (i < n) = true := decide_eq_true hlt
          have hip : i < ps.length := by rw [HN.out]; exact hlt
          have hA2 := HA.out.kept HKI.out HP.out.block
          rcases hA2 with h0 | ⟨g, hAg, hg⟩
          · rw [h0] at hip; exact absurd hip (Nat.not_lt_zero _)
          subst hAg
          have hcell : ∀ ww : World, ww.heap[g]? = some (.cells (ps.map Value.string).toArray 9 (0, 0)) → ww.cell? ⟨g, i, none⟩ = some (.string ps[i]) := fun ww hw => by
            rw [Lib.cell_of_heap hw]; simp [hip]
          have x0 := hcell _ hg
          have HT : Aside0 (catB (ps.take (i + 1)) = catB (ps.take i) ++ ps[i]) := ⟨catB_take ps i hip⟩
          have HLE : Aside0 ((catB (ps.take (i + 1))).size ≤ (catB ps).size) := ⟨catB_le ps (i + 1)⟩
          generalize ps[i] = p at x0 HT
          clear hcell hg
          go_wp2_with fail
          refine (PrText B b j (S1 ++ catB (ps.take i)) p _ HPI.out ?_ (by have h1 := HBW.out; have h2 := HBI.out.size; omega)).mono ?_
          · have h1 := HL.out; have h2 := HLE.out; rw [HT.out, ByteArray.size_append] at h2; rw [HS1.out, ByteArray.size_append, ByteArray.size_append, tabsB_size]; omega
          rintro e w2 ⟨rfl, hp, hb, hk⟩
          have HP2 := Aside0.mk hp
          have HB2 := Aside0.mk (HBI.out.trans hb)
          have HK2 := Aside0.mk (HKI.out.trans hk)
          clear hp hb hk
          go_wp2_with fail
          go_roundw
          case rel => exact ⟨i + 1, by omega, by go_num, ⟨by rw [HT.out, ← ByteArray.append_assoc]; exact HP2.out⟩, HB2, HK2⟩
          case measure => simp [intOf]; omega
        · have t1 : decide (i < n) = false := decide_eq_false hlt
          have hti : ps.take i = ps := List.take_of_length_le (by rw [HN.out]; omega)
          rw [hti] at HPI
          clear hti
          go_wp2_with fail
          refine (PrByte B b j (S1 ++ catB ps) 10 10 rfl _ HPI.out (by have h1 := HL.out; rw [HS1.out, ByteArray.size_append, ByteArray.size_append, tabsB_size]; omega) (by have h1 := HBW.out; have h2 := HBI.out.size; omega)).mono ?_
          rintro e w2 ⟨rfl, hp, hb, hk⟩
          have HP2 := Aside0.mk hp
          have HB2 := Aside0.mk (HBI.out.trans hb)
          have HK2 := Aside0.mk (HKI.out.trans hk)
          clear hp hb hk
          go_wp2_with fail
          go_end0
          refine ⟨rfl, ?_, HB2.out, HK2.out⟩
          have e : S ++ lineB j ps = S1 ++ catB ps ++ ⟨#[10]⟩ := by rw [HS1.out, lineB]; simp only [ByteArray.append_assoc]
          rw [e]
          exact HP2.out
end Go.Proofs.YtknbhbppofphpaaGreatDoor.X
