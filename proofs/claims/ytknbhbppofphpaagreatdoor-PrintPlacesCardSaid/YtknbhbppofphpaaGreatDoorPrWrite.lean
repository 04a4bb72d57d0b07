/- strings.Builder inside print.printer: the copy check, a byte, a text, and what has been written; over any printer that the call made; lengths up to 2^47. -/
import Derived.Test.YtknbhbppofphpaaGreatDoorShelf
import Derived.Test.YtknbhbppofphpaaGreatDoorMyWords
import Derived.WalkKit
import Derived.BigCall
import Derived.Laws.Externs
import Derived.Lib.FrozenHead2
import Derived.Lib.AppendStr
import Derived.Shelf.Strings.BuilderK
set_option linter.unusedVariables false
set_option linter.unusedSimpArgs false
namespace Go.Proofs.YtknbhbppofphpaaGreatDoor.X
open Go.RowKit Go.Shelf Go.Proofs.YtknbhbppofphpaaGreatDoorW.PrintWords Go.Proofs.YtknbhbppofphpaaGreatDoorW.PrintLast Go.Proofs.YtknbhbppofphpaaGreatDoorW.PrintMore
theorem sizeBld : (Tryz.prog.info? 47).map (·.size) = some 2 := by kernel_rfl
theorem liesPr : liesAt Tryz.prog Tryz.prog.depth 49 (3 / Tryz.prog.cellsOf 49) 0 47 1 = true := by kernel_rfl
theorem infoU8 : (Tryz.prog.info? 5).map (fun i => (i.zero, i.size, i.bytes)) = some (some (.int .u8 0), 1, 1) := by kernel_rfl
theorem cellsU8 : Tryz.prog.cellsOf 5 = 1 := by kernel_rfl
theorem strCells_app (a b : ByteArray) : Lib.strCells (a ++ b) = Lib.strCells a ++ Lib.strCells b := by
  unfold Lib.strCells
  rw [ByteArray.data_append, Array.toList_append, List.map_append]
/-- A printer: its builder's first cell, what has been written, its tabs. -/
def PrA (B b : Nat) (p : Value) (t : Int) (S : ByteArray) (w : World) : Prop :=
  B ≤ b ∧ ∃ v, w.heap[b]? = some (.cells #[p, v, .int .i64 t] 49 (0, 0)) ∧ w.ownsRowF B 5 1 v S.size (Lib.strCells S)
def PrAt (B b : Nat) (t : Int) (S : ByteArray) (w : World) : Prop := PrA B b (.pointer none) t S w ∨ PrA B b (.pointer (some ⟨b, 0, none⟩)) t S w
theorem PrA.lt {B b : Nat} {p : Value} {t : Int} {S : ByteArray} {w : World} (h : PrA B b p t S w) : b < w.heap.size := by
  obtain ⟨_, v, hb, _⟩ := h
  exact (Array.getElem?_eq_some_iff.1 hb).1
theorem PrAt.any {B b : Nat} {t : Int} {S : ByteArray} {w : World} (h : PrAt B b t S w) : ∃ p, (p = .pointer none ∨ p = .pointer (some ⟨b, 0, none⟩)) ∧ PrA B b p t S w :=
  h.elim (fun x => ⟨_, .inl rfl, x⟩) (fun x => ⟨_, .inr rfl, x⟩)
theorem PrAt.of {B b : Nat} {p : Value} {t : Int} {S : ByteArray} {w : World} (hp : p = .pointer none ∨ p = .pointer (some ⟨b, 0, none⟩)) (h : PrA B b p t S w) : PrAt B b t S w := by
  rcases hp with rfl | rfl
  · exact .inl h
  · exact .inr h
theorem PrAt.lt {B b : Nat} {t : Int} {S : ByteArray} {w : World} (h : PrAt B b t S w) : b < w.heap.size := h.elim PrA.lt PrA.lt
theorem PrAt.tabs {B b : Nat} {t : Int} {S : ByteArray} {w : World} (h : PrAt B b t S w) : w.cell? ⟨b, 2, none⟩ = some (.int .i64 t) ∧ w.frozen? ⟨b, 2, none⟩ = false := by
  obtain ⟨p, _, _, v, hb, _⟩ := h.any
  exact ⟨by rw [Lib.cell_of_heap hb]; rfl, Lib.frozen_of_heap hb 2⟩
theorem PrA.below {B b : Nat} {p : Value} {t : Int} {S : ByteArray} {W W' : World} (h : PrA B b p t S W) (hb : Below W.heap.size W W') : PrA B b p t S W' := by
  have hlt := h.lt
  obtain ⟨hB, v, hv, hown⟩ := h
  exact ⟨hB, v, (hb.block b hlt).trans hv, hown.kept (row := none) ⟨hb.os, hb.tape, hb.output, hb.size, fun k hk _ => hb.block k hk⟩ (Classical.em _)⟩
theorem PrAt.below {B b : Nat} {t : Int} {S : ByteArray} {W W' : World} (h : PrAt B b t S W) (hb : Below W.heap.size W W') : PrAt B b t S W' :=
  h.elim (fun x => .inl (x.below hb)) (fun x => .inr (x.below hb))
theorem PrAt.put {B b : Nat} {t : Int} {S : ByteArray} {w : World} (h : PrAt B b t S w) (t' : Int) : PrAt B b t' S (w.setCell ⟨b, 2, none⟩ (.int .i64 t')) := by
  obtain ⟨p, hp, hB, v, hb, hown⟩ := h.any
  refine PrAt.of hp ⟨hB, v, ?_, ?_⟩
  · simp [World.setCell, Array.getElem?_modify, hb]
  · exact hown.kept (row := some b) ⟨rfl, rfl, rfl, by simp [World.setCell], fun k _ hk => Below.heap_setCell _ _ _ _ (fun e => hk (by simp [e]))⟩ (Or.inr (Lib.ownBlock_neF hown hb (by decide)))
theorem PrA.put1 {B b : Nat} {p v v' : Value} {t : Int} {S : ByteArray} {w : World} (hB : B ≤ b) (hb : w.heap[b]? = some (.cells #[p, v, .int .i64 t] 49 (0, 0))) (hown : w.ownsRowF B 5 1 v' S.size (Lib.strCells S)) : PrA B b p t S (w.setCell ⟨b, 1, none⟩ v') := by
  refine ⟨hB, v', ?_, ?_⟩
  · simp [World.setCell, Array.getElem?_modify, hb]
  · exact hown.kept (row := some b) ⟨rfl, rfl, rfl, by simp [World.setCell], fun k _ hk => Below.heap_setCell _ _ _ _ (fun e => hk (by simp [e]))⟩ (Or.inr (Lib.ownBlock_neF hown hb (by decide)))
set_option maxHeartbeats 1000000 in
set_option maxRecDepth 100000 in
theorem PrCheck_used (b : Nat) (w : World) (h0 : w.cell? ⟨b, 0, none⟩ = some (.pointer (some ⟨b, 0, none⟩))) :
    Calls Tryz.prog 56 #[.pointer (some ⟨b, 0, none⟩)] w fun e w' => e = .returned (.tuple #[]) ∧ w' = w := by
  obtain ⟨j, hj, _⟩ := Option.map_eq_some_iff.1 sizeBld
  go_enter Tryz.func56, Tryz.ntmps56
  go_wp2
  rw [Lib.run_neq_ptr_same w _ Tryz.underlying44 hj]
  go_wp2
  go_end0
  exact ⟨rfl, rfl⟩
set_option maxHeartbeats 1000000 in
set_option maxRecDepth 100000 in
theorem PrCheck_fresh (b : Nat) (w : World) (h0 : w.cell? ⟨b, 0, none⟩ = some (.pointer none)) (hsh : w.shape? b = some (49, 3)) (hfz : w.frozen? ⟨b, 0, none⟩ = false) :
    Calls Tryz.prog 56 #[.pointer (some ⟨b, 0, none⟩)] w fun e w' => e = .returned (.tuple #[]) ∧ w' = w.setCell ⟨b, 0, none⟩ (.pointer (some ⟨b, 0, none⟩)) := by
  obtain ⟨j, hj, hjs⟩ := Option.map_eq_some_iff.1 sizeBld
  go_enter Tryz.func56, Tryz.ntmps56
  go_wp2
  rw [Lib.run_to_unsafe w ⟨b, 0, none⟩ Tryz.underlying44 Tryz.underlying129 hj (by rw [hjs]; decide) hsh (Nat.zero_lt_succ 2)]
  simp only [Result.andThen]
  rw [Oper.upon_value]
  go_wp2
  rw [run_callFunc_extern Tryz.func76 (by kernel_rfl) (by kernel_rfl) (by kernel_rfl) (e := Extern.AbiNoEscape.same) (by kernel_rfl)]
  rw [Lib.run_noEscape]
  simp only [Result.andThen]
  rw [Oper.upon_value]
  go_wp2
  rw [Lib.run_from_unsafe w ⟨b, 0, none⟩ Tryz.underlying129 Tryz.underlying44 hj hsh liesPr]
  simp only [Result.andThen]
  rw [Oper.upon_value]
  go_wp2
  go_end0
  exact ⟨rfl, rfl⟩
theorem PrCheck (B b : Nat) (t : Int) (S : ByteArray) (w : World) (h : PrAt B b t S w) :
    Calls Tryz.prog 56 #[.pointer (some ⟨b, 0, none⟩)] w fun e w' => e = .returned (.tuple #[]) ∧ (PrA B b (.pointer (some ⟨b, 0, none⟩)) t S w' ∧ Below B w w' ∧ Lib.OthersKept 5 (some b) w w') := by
  rcases h with ⟨hB, v, hb, hown⟩ | ⟨hB, v, hb, hown⟩
  · refine (PrCheck_fresh b w (by rw [Lib.cell_of_heap hb]; rfl) (by simp [World.shape?, hb]) (Lib.frozen_of_heap hb 0)).mono ?_
    rintro e w' ⟨rfl, rfl⟩
    refine ⟨rfl, ⟨hB, v, ?_, ?_⟩, (Below.refl B w).setCell (p := ⟨b, 0, none⟩) hB _, (Lib.OthersKept.refl _ _ w).setCell ⟨b, 0, none⟩ rfl _⟩
    · simp [World.setCell, Array.getElem?_modify, hb]
    · exact hown.kept (row := some b) ⟨rfl, rfl, rfl, by simp [World.setCell], fun k _ hk => Below.heap_setCell _ _ _ _ (fun e => hk (by simp [e]))⟩ (Or.inr (Lib.ownBlock_neF hown hb (by decide)))
  · refine (PrCheck_used b w (by rw [Lib.cell_of_heap hb]; rfl)).mono ?_
    rintro e w' ⟨rfl, rfl⟩
    exact ⟨rfl, ⟨hB, v, hb, hown⟩, Below.refl B _, Lib.OthersKept.refl _ _ _⟩
set_option maxHeartbeats 2000000 in
set_option maxRecDepth 100000 in
theorem PrByte (B b : Nat) (t : Int) (S : ByteArray) (ci : Int) (c : UInt8) (hci : ci = c.toNat) (w : World) (h : PrAt B b t S w) (hlen : S.size + 1 ≤ 140737488355328) (hBw : B ≤ w.heap.size) :
    Calls Tryz.prog 28 #[.pointer (some ⟨b, 0, none⟩), .int .u8 ci] w fun e w' => e = .returned .nilIface ∧ (PrAt B b t (S ++ ⟨#[c]⟩) w' ∧ Below B w w' ∧ Lib.OthersKept 5 (some b) w w') := by
  obtain ⟨i0, hi, hz0, hz1, hz2⟩ := info_parts infoU8
  have HCI := Aside0.mk hci
  clear hci
  go_enter Tryz.func28, Tryz.ntmps28
  go_wp2_with (go_at_call 56; refine (PrCheck B b t S _ h).mono ?_)
  rintro e w1 ⟨rfl, h1, hb1, hk1⟩
  obtain ⟨hB, v, hbk, hown⟩ := h1
  have hne := Lib.ownBlock_neF hown hbk (by decide)
  have c0 : w1.cell? ⟨b, 0, none⟩ = some (.pointer (some ⟨b, 0, none⟩)) := by rw [Lib.cell_of_heap hbk]; rfl
  have c1 : w1.cell? ⟨b, 1, none⟩ = some v := by rw [Lib.cell_of_heap hbk]; rfl
  go_wp2_with (at_builtin; refine wpList_append_ownF _ rfl _ _ 45 rfl B 5 i0 (.int .u8 0) 1 1 Tryz.underlying45 hi hz0 hz1 hz2 rfl (by decide) _ _ _ rfl (hown.alloc _) ⟨w1.heap.size, 0, none⟩ 1 1 [.int .u8 ci] rfl rfl ?c1 ?c2 ?c3 ?c4 ?c5 ?_)
  case c1 =>
    intro j u hj
    match j, hj with
    | 0, hj => simp at hj; subst hj; simp [Addr.add]
  case c2 => intro u hu; simp at hu; subst hu; rfl
  case c3 => unfold maxLen; omega
  case c4 => omega
  case c5 => have := hb1.size; simp; omega
  intro v' w2 hown' hgrow _
  have hlt : b < w1.heap.size := (Array.getElem?_eq_some_iff.1 hbk).1
  have hb2 : w2.heap[b]? = some (.cells #[.pointer (some ⟨b, 0, none⟩), v, .int .i64 t] 49 (0, 0)) := by
    rw [hgrow.block b (by simp; omega) (fun e => hne e.symm), Lib.alloc_old w1 _ b hlt]
    exact hbk
  have d0 : w2.cell? ⟨b, 0, none⟩ = some (.pointer (some ⟨b, 0, none⟩)) := by rw [Lib.cell_of_heap hb2]; rfl
  have d1 : w2.cell? ⟨b, 1, none⟩ = some v := by rw [Lib.cell_of_heap hb2]; rfl
  have f1 : w2.frozen? ⟨b, 1, none⟩ = false := Lib.frozen_of_heap hb2 1
  obtain ⟨g, cap, rfl⟩ : ∃ g cap, v' = .slice (some ⟨g, 0, none⟩) (S.size + 1) cap := by
    rcases hown'.2 with ⟨_, h0⟩ | ⟨g, cap, cur, fz, hv, _⟩
    · omega
    · exact ⟨g, cap, hv⟩
  go_wp2
  go_ret
  have e1 : (S ++ (⟨#[c]⟩ : ByteArray)).size = S.size + 1 := by rw [ByteArray.size_append]; rfl
  have e2 : Lib.strCells (S ++ (⟨#[c]⟩ : ByteArray)) = Lib.strCells S ++ [.int .u8 ci] := by rw [strCells_app, HCI.out]; rfl
  refine ⟨rfl, .inr (PrA.put1 hB hb2 (S := S ++ ⟨#[c]⟩) (by rw [e1, e2]; exact hown')), ?_, ((hk1.alloc _).grown hgrow (Lib.ownsRowF_kind (hown.alloc _))).setCell ⟨b, 1, none⟩ rfl _⟩
  exact ((hb1.alloc (by have := hb1.size; omega) _).grown hgrow (by have := hb1.size; simp; omega) (fun k hk => (hown.lt k hk).1)).setCell (p := ⟨b, 1, none⟩) hB _
set_option maxHeartbeats 2000000 in
set_option maxRecDepth 100000 in
theorem PrText (B b : Nat) (t : Int) (S : ByteArray) (s : ByteArray) (w : World) (h : PrAt B b t S w) (hlen : S.size + s.size ≤ 140737488355328) (hBw : B ≤ w.heap.size) :
    Calls Tryz.prog 29 #[.pointer (some ⟨b, 0, none⟩), .string s] w fun e w' => e = .returned (.tuple #[.int .i64 s.size, .nilIface]) ∧ (PrAt B b t (S ++ s) w' ∧ Below B w w' ∧ Lib.OthersKept 5 (some b) w w') := by
  obtain ⟨i0, hi, hz0, hz1, hz2⟩ := info_parts infoU8
  go_enter Tryz.func29, Tryz.ntmps29
  go_wp2_with (go_at_call 56; refine (PrCheck B b t S _ h).mono ?_)
  rintro e w1 ⟨rfl, h1, hb1, hk1⟩
  obtain ⟨hB, v, hbk, hown⟩ := h1
  have hne := Lib.ownBlock_neF hown hbk (by decide)
  have c0 : w1.cell? ⟨b, 0, none⟩ = some (.pointer (some ⟨b, 0, none⟩)) := by rw [Lib.cell_of_heap hbk]; rfl
  have c1 : w1.cell? ⟨b, 1, none⟩ = some v := by rw [Lib.cell_of_heap hbk]; rfl
  go_wp2_with (at_builtin; refine Lib.wpList_append_own_stringF _ rfl _ _ 45 9 rfl B 5 i0 Tryz.underlying45 Tryz.underlying9 hi hz0 hz1 hz2 _ _ _ rfl hown s rfl ?c3 ?c4 ?c5 ?_)
  case c3 => unfold maxLen; omega
  case c4 => omega
  case c5 => have := hb1.size; omega
  intro v' w2 hown' hgrow _
  have hlt : b < w1.heap.size := (Array.getElem?_eq_some_iff.1 hbk).1
  have hb2 : w2.heap[b]? = some (.cells #[.pointer (some ⟨b, 0, none⟩), v, .int .i64 t] 49 (0, 0)) := by
    rw [hgrow.block b hlt (fun e => hne e.symm)]
    exact hbk
  have d0 : w2.cell? ⟨b, 0, none⟩ = some (.pointer (some ⟨b, 0, none⟩)) := by rw [Lib.cell_of_heap hb2]; rfl
  have d1 : w2.cell? ⟨b, 1, none⟩ = some v := by rw [Lib.cell_of_heap hb2]; rfl
  have f1 : w2.frozen? ⟨b, 1, none⟩ = false := Lib.frozen_of_heap hb2 1
  obtain ⟨ao, n', cap, rfl⟩ : ∃ ao n' cap, v' = .slice ao n' cap := by
    rcases hown'.2 with ⟨hv, _⟩ | ⟨g, cap, cur, fz, hv, _⟩
    · exact ⟨_, _, _, hv⟩
    · exact ⟨_, _, _, hv⟩
  go_wp2
  go_ret2
  refine ⟨rfl, .inr (PrA.put1 hB hb2 (S := S ++ s) (by rw [ByteArray.size_append, strCells_app]; exact hown')), ?_, (hk1.grown hgrow (Lib.ownsRowF_kind hown)).setCell ⟨b, 1, none⟩ rfl _⟩
  exact (hb1.grown hgrow (by have := hb1.size; omega) (fun k hk => (hown.lt k hk).1)).setCell (p := ⟨b, 1, none⟩) hB _
set_option maxHeartbeats 1000000 in
set_option maxRecDepth 100000 in
/-- What has been written, read once. -/
theorem PrString (B b : Nat) (t : Int) (S : ByteArray) (w : World) (h : PrAt B b t S w) (h0 : S.size ≠ 0) :
    Calls Tryz.prog 16 #[.pointer (some ⟨b, 0, none⟩)] w fun e w' => e = .returned (.string S) ∧ Below B w w' := by
  obtain ⟨p, hp, hB, v, hbk, hown⟩ := h.any
  have hls : S.data.toList.length = S.size := by rw [Array.length_toList]; rfl
  obtain ⟨g, cap, cur, fz, rfl, hbg, hg, hfz, hnc, hcm, hcs, htake⟩ : ∃ g cap cur fz, v = .slice (some ⟨g, 0, none⟩) S.size cap ∧ B ≤ g ∧ w.heap[g]? = some (.cells cur 5 fz) ∧ fz.2 ≤ S.size * 1 ∧ S.size ≤ cap ∧ cap ≤ maxLen ∧ cur.size = cap * 1 ∧ cur.toList.take (S.size * 1) = Lib.strCells S := by
    rcases hown.2 with ⟨_, hz⟩ | ⟨g, cap, cur, fz, hv, r⟩
    · exact absurd hz h0
    · exact ⟨g, cap, cur, fz, hv, r⟩
  have c1 : w.drew.cell? ⟨b, 1, none⟩ = some (.slice (some ⟨g, 0, none⟩) S.size cap) := by
    have : w.drew.heap[b]? = some (.cells #[p, .slice (some ⟨g, 0, none⟩) S.size cap, .int .i64 t] 49 (0, 0)) := hbk
    rw [Lib.cell_of_heap this]; rfl
  have hSD : (Builtin.unsafeSliceData_ #[45] 87 #[.slice (some ⟨g, 0, none⟩) S.size cap]).run Tryz.prog w.drew = .ok (.pointer (some ⟨g, 0, none⟩)) w.drew :=
    Lib.run_unsafeSliceData_row _ _ _ _ _ _ (by omega)
  have hUS : (Builtin.unsafeString_ #[87, 3] 9 #[.pointer (some ⟨g, 0, none⟩), .int .i64 S.size]).run Tryz.prog w.drew = .ok (.string S) (w.drew.freeze ⟨g, 0, none⟩ S.size) := by
    have h1 := Lib.run_unsafeString_row (P := Tryz.prog) w.drew 87 3 9 5 Tryz.underlying87 cellsU8 g cur.size (by have hg' : w.drew.heap[g]? = some (.cells cur 5 fz) := hg; simp [World.shape?, hg']) S.data.toList (by intro he; rw [he] at hls; exact h0 hls.symm) (by omega) (by unfold maxLen at hcm; omega) (by
      intro j x hx
      have := hown.cells (g := g) rfl j (.int .u8 x.toNat) (by unfold Lib.strCells; rw [List.getElem?_map, hx]; rfl)
      exact this)
    rw [hls] at h1
    exact h1
  have mixed : Tryz.prog.follows Departure.mixedOrders = true := by kernel_rfl
  go_enter Tryz.func16, Tryz.ntmps16
  go_wp2
  go_region_o
  all_goals (go_wp2; go_ret; exact ⟨rfl, Lib.below_freeze (Below.drew (Below.refl B w)) (p := ⟨g, 0, none⟩) hbg _⟩)
set_option maxHeartbeats 1000000 in
set_option maxRecDepth 100000 in
/-- Nothing has been written. -/
theorem PrString_nil (B b : Nat) (p : Value) (t : Int) (w : World) (hbk : w.heap[b]? = some (.cells #[p, .slice none 0 0, .int .i64 t] 49 (0, 0))) :
    Calls Tryz.prog 16 #[.pointer (some ⟨b, 0, none⟩)] w fun e w' => e = .returned (.string ⟨#[]⟩) ∧ Below B w w' := by
  have hUS : ∀ (W : World) (q : Option Addr), (Builtin.unsafeString_ #[87, 3] 9 #[.pointer q, .int .i64 0]).run Tryz.prog W = .ok (.string .empty) W := fun W q => Lib.run_unsafeString_none (P := Tryz.prog) W _ _ _ q
  have c1 : w.drew.cell? ⟨b, 1, none⟩ = some (.slice none 0 0) := by
    have : w.drew.heap[b]? = some (.cells #[p, .slice none 0 0, .int .i64 t] 49 (0, 0)) := hbk
    rw [Lib.cell_of_heap this]; rfl
  have hSD : (Builtin.unsafeSliceData_ #[45] 87 #[.slice none 0 0]).run Tryz.prog w.drew = .ok (.pointer none) w.drew := rfl
  have mixed : Tryz.prog.follows Departure.mixedOrders = true := by kernel_rfl
  go_enter Tryz.func16, Tryz.ntmps16
  go_wp2
  go_region_o
  all_goals (go_wp2; go_ret; exact ⟨rfl, Below.drew (Below.refl B w)⟩)
end Go.Proofs.YtknbhbppofphpaaGreatDoor.X
