/- Plain functions for Go's own, out of the translation's print, and a proof that each call comes to what they tell; no condition but the functions' own answers. -/
import Derived.Test.YthhkdabajikckaaX0
import Derived.Test.YthhkdabajikckaaX5
import Derived.Test.YthhkdabajikckaaX13
import Derived.Test.YthhkdabajikckaaX16
import Derived.Test.YthhkdabajikckaaX17
import Derived.Laws.EntriesVeiled
namespace Go.Proofs.Ythhkdabajikckaa.X
open Go.RowKit Go.Proofs.YthhkdabajikckaaW.PrintWords Go.Proofs.YthhkdabajikckaaW.PrintLast Go.Proofs.YthhkdabajikckaaW.PrintMore
attribute [local go_sem] max2_int min2_int max_two min_two max_three min_three max_four min_four Go.Proofs.Ythhkdabajikckaa.MyWords.put_isSome Go.Proofs.Ythhkdabajikckaa.MyWords.drewN_put   -- for this text's walks alone
set_option linter.unusedVariables false
set_option linter.unusedSimpArgs false

/-! ### frame_Parse: function 16 -/
section
open Go.Proofs.Ythhkdabajikckaa.Math
theorem min2_mn (k k' : IntKind) (x y : Int) : Builtin.min2 (.int k x) (.int k' y) = pure (.int k (mn x y)) := by
  rw [min2_int]
  rfl
theorem max2_mx (k k' : IntKind) (x y : Int) : Builtin.max2 (.int k x) (.int k' y) = pure (.int k (mx x y)) := by
  rw [max2_int]
  rfl
attribute [local go_sem high] max2_mx min2_mn
theorem keepbut_of {w w' : World} {g : Nat} {u : Value} {n : Nat} (j : Nat) (h : w' = (w.drewN n).setCell ⟨g, j, none⟩ u) : KeepBut w w' g none := by
  subst h
  exact (KeepBut.of_below (pw_below_drewN (Below.refl w.heap.size w) n) g none).set_ j u
/-- Behind the taking of a varint out of the variable in block g: what is left stands there, all else is as it was. -/
def NextPost (y : List Int) (g : Nat) (W w w' : World) : Prop := ∃ A' c', Kd.C (Kd.int .u8) W A' y.length y ∧ y.length ≤ c' ∧ w'.heap[g]? = some (.cells #[.slice A' y.length c'] 23 (0, 0)) ∧ KeepBut w w' g none ∧ Below W.heap.size W w'
set_option maxHeartbeats 1000000 in
set_option maxRecDepth 100000 in
theorem frame_next (k : Nat) (g : Nat) (A : Option Addr) (c : Nat) (l : List Int) (n m e : Int) (W w : World) (hr : Kd.C (Kd.int .u8) W A l.length l) (hc : l.length ≤ c) (HB : Below W.heap.size W w) (hg : W.heap.size ≤ g)
    (hbox : w.heap[g]? = some (.cells #[.slice A l.length c] 23 (0, 0))) (h : varint_Take.f k l = some (n, m, e)) (h0 : 0 ≤ m) (hm : m ≤ (l.length : Int)) :
    Calls Try.prog 24 #[.pointer (some ⟨g, 0, none⟩)] w fun en w' => en = .returned (.int .u64 n) ∧ NextPost (l.drop m.toNat) g W w w' := by
  have HR := Aside0.mk hr
  have HC := Aside0.mk hc
  have HX := Aside0.mk hbox
  have HBB := Aside0.mk HB
  have H := Aside0.mk h
  have HG := Aside0.mk hg
  have c1 := blk_cell hbox 0
  have c2 := blk_frozen hbox 0
  obtain ⟨i0, hi0, _, hsz, _⟩ := info_parts info5
  have hcut := cut_from (P := Try.prog) 23 5 .i64 Try.underlying23 hi0 1 hsz A l.length c m h0 hm
  have hl : (l.drop m.toNat).length = l.length - m.toNat := List.length_drop
  have hCd := Kd.C_drop (m := m.toNat) hr (by omega) hc
  rw [show (Kd.int IntKind.u8).sz = 1 from rfl] at hCd
  rw [← hl] at hcut
  obtain ⟨A', hA'⟩ : ∃ A', A' = (if c = m.toNat then A else A.map (·.add (m.toNat * 1))) := ⟨_, rfl⟩
  rw [← hA'] at hcut hCd
  have HCD := Aside0.mk hCd
  have HLC : Aside0 ((l.drop m.toNat).length ≤ c - m.toNat) := ⟨by omega⟩
  generalize hy : l.drop m.toNat = y at hcut HCD HLC ⊢
  clear hr hc hbox HB h hi0 hsz hl hCd hA' h0 hm hg hy
  go_enter Try.func24, Try.ntmps24
  go_wp2_with (go_at_call 25; (with_reducible refine (varint_Take.calls k A c l n m e _ (Kd.C_below HR.out HBB.out) HC.out H.out).mono ?_); rintro e w' ⟨rfl, ⟨nd, rfl⟩⟩)
  go_ret
  refine ⟨rfl, A', c - m.toNat, HCD.out, HLC.out, ?_, keepbut_of 0 rfl, ?_⟩
  · exact blk_set (w := w.drewN nd) (cs := #[.slice A l.length c]) HX.out 0 _
  · exact (pw_below_drewN HBB.out nd).setCell HG.out _
def smallF (n : Int) : Int := wrap64 (mn n 2147483648)
def timeF (n : Int) : Int := wrap64 (mn n 1099511627777)
set_option maxHeartbeats 1000000 in
set_option maxRecDepth 100000 in
theorem frame_small (k : Nat) (g g5 : Nat) (A : Option Addr) (c : Nat) (l : List Int) (n m e : Int) (W w : World) (hr : Kd.C (Kd.int .u8) W A l.length l) (hc : l.length ≤ c) (HB : Below W.heap.size W w) (hg : W.heap.size ≤ g)
    (hbox : w.heap[g]? = some (.cells #[.slice A l.length c] 23 (0, 0))) (hfn : w.heap[g5]? = some (.cells #[.func (.func 24) #[] #[.pointer (some ⟨g, 0, none⟩)]] 45 (0, 0))) (h : varint_Take.f k l = some (n, m, e)) (h0 : 0 ≤ m) (hm : m ≤ (l.length : Int)) :
    Calls Try.prog 26 #[.pointer (some ⟨g5, 0, none⟩)] w fun en w' => en = .returned (.int .i64 (smallF n)) ∧ NextPost (l.drop m.toNat) g W w w' := by
  have HN := fun (w : World) HB hbox => Aside0.mk (frame_next k g A c l n m e W w hr hc HB hg hbox h h0 hm)
  have HX := Aside0.mk hbox
  have HBB := Aside0.mk HB
  have c1 := blk_cell hfn 0
  clear hr hc hbox HB h h0 hm hg hfn
  go_enter Try.func26, Try.ntmps26
  go_wp2_with (go_at_call 24; (with_reducible refine (HN _ HBB.out HX.out).out.mono ?_); rintro e w' ⟨rfl, H1⟩; have H1 := Aside0.mk H1)
  go_ret
  exact ⟨rfl, H1.out⟩
def T6 (a0 a2 a3 a4 a5 a6 a11 a12 a13 a15 a16 a17 a18 : Value) (v7 v19 v20 v21 v22 v23 v24 v25 v26 v27 v28 v29 v30 v31 : Value) : Array Value := #[a0, undef, a2, a3, a4, a5, a6, v7, undef, undef, undef, a11, a12, a13, undef, a15, a16, a17, a18, v19, v20, v21, v22, v23, v24, v25, v26, v27, v28, v29, v30, v31, undef, undef, undef, undef, undef, undef, undef, undef, undef, undef, undef, undef, undef, undef, undef, undef, undef, undef, undef, undef, undef, undef, undef, undef, undef, undef, undef, undef, undef, undef, undef, undef, undef, undef, undef, undef]
/-- What is there while the frame's numbers are taken: the result's variable, what is left of the bytes, the closure. -/
def Inv6 (W : World) (g2 g4 g5 : Nat) (y : List Int) (w : World) : Prop := Below W.heap.size W w ∧ w.heap[g2]? = some (.cells #[.int .i64 0, .int .i64 0, .int .u64 0, .int .i64 0, .int .u64 0, .int .i64 0, .int .i64 0, .int .i64 0, .slice none 0 0] 25 (0, 0)) ∧ w.heap[g5]? = some (.cells #[.func (.func 24) #[] #[.pointer (some ⟨g4, 0, none⟩)]] 45 (0, 0)) ∧ ∃ A c, Kd.C (Kd.int .u8) W A y.length y ∧ y.length ≤ c ∧ w.heap[g4]? = some (.cells #[.slice A y.length c] 23 (0, 0))
theorem Inv6.next {W : World} {g2 g4 g5 : Nat} {y : List Int} {w w' : World} {x : List Int} (h : Inv6 W g2 g4 g5 y w) (h24 : g2 ≠ g4)  (h54 : g5 ≠ g4) (hp : NextPost x g4 W w w') : Inv6 W g2 g4 g5 x w' := by
  obtain ⟨H1, H2, H3, A, c, H4, H5, H6⟩ := h
  obtain ⟨A', c', P1, P2, P3, P4, P5⟩ := hp
  exact ⟨P5, P4.blk H2 h24 (by simp), P4.blk H3 h54 (by simp), A', c', P1, P2, P3⟩
theorem Inv6.alloc {W : World} {g2 g4 g5 : Nat} {y : List Int} {w : World} (h : Inv6 W g2 g4 g5 y w) (o : Obj) : Inv6 W g2 g4 g5 y (w.alloc o) := by
  obtain ⟨H1, H2, H3, A, c, H4, H5, H6⟩ := h
  exact ⟨below_alloc H1 o, blk_alloc H2 o, blk_alloc H3 o, A, c, H4, H5, blk_alloc H6 o⟩
theorem Inv6.set_ {W : World} {g2 g4 g5 : Nat} {y : List Int} {w : World} (h : Inv6 W g2 g4 g5 y w) {g : Nat} (hg : W.heap.size ≤ g) (h2 : g2 ≠ g) (h4 : g4 ≠ g) (h5 : g5 ≠ g) (j : Nat) (u : Value) : Inv6 W g2 g4 g5 y (w.setCell ⟨g, j, none⟩ u) := by
  obtain ⟨H1, H2, H3, A, c, H4, H5, H6⟩ := h
  exact ⟨H1.setCell hg u, blk_far H2 h2 u, blk_far H3 h5 u, A, c, H4, H5, blk_far H6 h4 u⟩
def frame_Parse.S6 (g4 g5 : Nat) (w : World) : Prop := w.cell? ⟨g5, 0, none⟩ = some (.func (.func 24) #[] #[.pointer (some ⟨g4, 0, none⟩)])
theorem Inv6.held {W : World} {g2 g4 g5 : Nat} {y : List Int} {w : World} (h : Inv6 W g2 g4 g5 y w) : frame_Parse.S6 g4 g5 w := (blk_cell h.2.2.1 0).trans rfl
section
end
def frame_Parse.T6 : Bool × List (List Nat × List Nat) := (true, [([], []), ([0], [0]), ([], []), ([2, 1], [2]), ([], []), ([4, 3], [4]), ([], []), ([6, 5], [6]), ([], []), ([8, 7], [8]), ([], []), ([10, 9], [10]), ([1, 3, 5, 7, 9, 11], [1, 3, 5, 7, 9, 11]), ([], []), ([13, 12, 11, 0, 1, 2, 3, 4, 5, 6, 7, 8, 9, 10, 11, 12, 13], [12, 13])])
def frame_Parse.B6 : List Nat := [0, 1, 0, 7, 0, 31, 0, 127, 0, 511, 0, 2047, 4095, 0, 16383]
theorem frame_Parse.tab6 : rtab .any (opsOf Try.f16 6) = frame_Parse.T6 := by kernel_rfl
theorem frame_Parse.bits6 : waitsOk frame_Parse.T6.2 frame_Parse.B6 = true := by kernel_rfl
section
variable {Q : Exit → Act → World → Prop} {k : Nat} {W : World} {g2 g4 g5 : Nat} {n1 n2 n3 n4 n5 n6 m1 m2 m3 m4 m5 m6 e1 e2 e3 e4 e5 e6 : Int} {y1 y2 y3 y4 y5 y6 y7 : List Int} {a0 a2 a3 a4 a5 a11 a12 a13 a15 a16 a17 a18 : Value}
set_option maxHeartbeats 1000000 in
set_option maxRecDepth 100000 in
theorem parse6_end (hQ : ∀ c (a : Act) w (N : Option Tmp) v, Q (.panic c) (a.put N v) w → Q (.panic c) a w) (hE : ∀ w' g7, Inv6 W g2 g4 g5 y7 w' → W.heap.size ≤ g7 → g7 ≠ g2 → g7 ≠ g4 → g7 ≠ g5 → w'.heap[g7]? = some (.cells #[.int .i64 (smallF n1), .int .i64 (smallF n2), .int .u64 n3, .int .i64 (smallF n4), .int .u64 n5, .int .i64 (smallF n6), .int .i64 0, .int .i64 0, .slice none 0 0] 25 (0, 0)) → Q .normal ⟨(T6 a0 a2 a3 a4 a5 (.func (.func 26) #[] #[.pointer (some ⟨g5, 0, none⟩)] : Value) a11 a12 a13 a15 a16 a17 a18 (.pointer (some ⟨g7, 0, none⟩)) (.func (.func 26) #[] #[.pointer (some ⟨g5, 0, none⟩)] : Value) (.int .i64 (smallF n1)) (.func (.func 26) #[] #[.pointer (some ⟨g5, 0, none⟩)] : Value) (.int .i64 (smallF n2)) (.func (.func 24) #[] #[.pointer (some ⟨g4, 0, none⟩)] : Value) (.int .u64 n3) (.func (.func 26) #[] #[.pointer (some ⟨g5, 0, none⟩)] : Value) (.int .i64 (smallF n4)) (.func (.func 24) #[] #[.pointer (some ⟨g4, 0, none⟩)] : Value) (.int .u64 n5) (.func (.func 26) #[] #[.pointer (some ⟨g5, 0, none⟩)] : Value) (.int .i64 (smallF n6)) (.agg #[.int .i64 (smallF n1), .int .i64 (smallF n2), .int .u64 n3, .int .i64 (smallF n4), .int .u64 n5, .int .i64 (smallF n6), .int .i64 0, .int .i64 0, .slice none 0 0])), []⟩ w') (w : World) (g7 : Nat) (hI : Inv6 W g2 g4 g5 y7 w) (hg : W.heap.size ≤ g7) (i2 : g7 ≠ g2) (i4 : g7 ≠ g4) (i5 : g7 ≠ g5) (hz : w.heap[g7]? = some (.cells #[.int .i64 0, .int .i64 0, .int .u64 0, .int .i64 0, .int .u64 0, .int .i64 0, .int .i64 0, .int .i64 0, .slice none 0 0] 25 (0, 0))) :
    wpAnyLast Try.prog .any (opsOf Try.f16 6) Q (frame_Parse.S6 g4 g5) [] 1 #[true, true, true, true, true, true, true, true, true, true, true, true, true, true, false] ⟨(T6 a0 a2 a3 a4 a5 (.func (.func 26) #[] #[.pointer (some ⟨g5, 0, none⟩)] : Value) a11 a12 a13 a15 a16 a17 a18 (.pointer (some ⟨g7, 0, none⟩)) (.func (.func 26) #[] #[.pointer (some ⟨g5, 0, none⟩)] : Value) (.int .i64 (smallF n1)) (.func (.func 26) #[] #[.pointer (some ⟨g5, 0, none⟩)] : Value) (.int .i64 (smallF n2)) (.func (.func 24) #[] #[.pointer (some ⟨g4, 0, none⟩)] : Value) (.int .u64 n3) (.func (.func 26) #[] #[.pointer (some ⟨g5, 0, none⟩)] : Value) (.int .i64 (smallF n4)) (.func (.func 24) #[] #[.pointer (some ⟨g4, 0, none⟩)] : Value) (.int .u64 n5) (.func (.func 26) #[] #[.pointer (some ⟨g5, 0, none⟩)] : Value) (.int .i64 (smallF n6)) (.agg #[.int .i64 (smallF n1), .int .i64 (smallF n2), .int .u64 n3, .int .i64 (smallF n4), .int .u64 n5, .int .i64 (smallF n6), .int .i64 0, .int .i64 0, .slice none 0 0])), []⟩ w := by
  refine with_tabW frame_Parse.tab6 frame_Parse.bits6 (fun HT_ HW_ => ?_)
  obtain ⟨oi, o1, o2, o3, o4⟩ : ∃ oi, (opsOf Try.f16 6)[14]? = some oi ∧ oi.op = .store 25 (.tmp 7) (.tmp 31) ∧ oi.dst = none ∧ oi.guard = none := ⟨_, rfl, rfl, rfl, rfl⟩
  refine one_ (i := 14) (N := none) #[true, true, true, true, true, true, true, true, true, true, true, true, true, true, true] o1 o3 (one_of HT_.out (by kernel_rfl)) (by decide) (fun K hK => ?_)
  have c0 := blk_cell hz 0
  have f0 := blk_frozen hz 0
  have c1 := blk_cell hz 1
  have f1 := blk_frozen hz 1
  have c2 := blk_cell hz 2
  have f2 := blk_frozen hz 2
  have c3 := blk_cell hz 3
  have f3 := blk_frozen hz 3
  have c4 := blk_cell hz 4
  have f4 := blk_frozen hz 4
  have c5 := blk_cell hz 5
  have f5 := blk_frozen hz 5
  have c6 := blk_cell hz 6
  have f6 := blk_frozen hz 6
  have c7 := blk_cell hz 7
  have f7 := blk_frozen hz 7
  have c8 := blk_cell hz 8
  have f8 := blk_frozen hz 8
  have hu25 := Try.underlying25
  have hx : Act.eval ⟨(T6 a0 a2 a3 a4 a5 (.func (.func 26) #[] #[.pointer (some ⟨g5, 0, none⟩)] : Value) a11 a12 a13 a15 a16 a17 a18 (.pointer (some ⟨g7, 0, none⟩)) (.func (.func 26) #[] #[.pointer (some ⟨g5, 0, none⟩)] : Value) (.int .i64 (smallF n1)) (.func (.func 26) #[] #[.pointer (some ⟨g5, 0, none⟩)] : Value) (.int .i64 (smallF n2)) (.func (.func 24) #[] #[.pointer (some ⟨g4, 0, none⟩)] : Value) (.int .u64 n3) (.func (.func 26) #[] #[.pointer (some ⟨g5, 0, none⟩)] : Value) (.int .i64 (smallF n4)) (.func (.func 24) #[] #[.pointer (some ⟨g4, 0, none⟩)] : Value) (.int .u64 n5) (.func (.func 26) #[] #[.pointer (some ⟨g5, 0, none⟩)] : Value) (.int .i64 (smallF n6)) (.agg #[.int .i64 (smallF n1), .int .i64 (smallF n2), .int .u64 n3, .int .i64 (smallF n4), .int .u64 n5, .int .i64 (smallF n6), .int .i64 0, .int .i64 0, .slice none 0 0])), []⟩ (.tmp 7) = .pointer (some ⟨g7, 0, none⟩) := rfl
  have hy : Act.eval ⟨(T6 a0 a2 a3 a4 a5 (.func (.func 26) #[] #[.pointer (some ⟨g5, 0, none⟩)] : Value) a11 a12 a13 a15 a16 a17 a18 (.pointer (some ⟨g7, 0, none⟩)) (.func (.func 26) #[] #[.pointer (some ⟨g5, 0, none⟩)] : Value) (.int .i64 (smallF n1)) (.func (.func 26) #[] #[.pointer (some ⟨g5, 0, none⟩)] : Value) (.int .i64 (smallF n2)) (.func (.func 24) #[] #[.pointer (some ⟨g4, 0, none⟩)] : Value) (.int .u64 n3) (.func (.func 26) #[] #[.pointer (some ⟨g5, 0, none⟩)] : Value) (.int .i64 (smallF n4)) (.func (.func 24) #[] #[.pointer (some ⟨g4, 0, none⟩)] : Value) (.int .u64 n5) (.func (.func 26) #[] #[.pointer (some ⟨g5, 0, none⟩)] : Value) (.int .i64 (smallF n6)) (.agg #[.int .i64 (smallF n1), .int .i64 (smallF n2), .int .u64 n3, .int .i64 (smallF n4), .int .u64 n5, .int .i64 (smallF n6), .int .i64 0, .int .i64 0, .slice none 0 0])), []⟩ (.tmp 31) = .agg #[.int .i64 (smallF n1), .int .i64 (smallF n2), .int .u64 n3, .int .i64 (smallF n4), .int .u64 n5, .int .i64 (smallF n6), .int .i64 0, .int .i64 0, .slice none 0 0] := rfl
  refine skip_ (w1 := ?_) (by simp [Region.wanted, o4]) o3 ?_ ?_
  rotate_left
  · simp only [execOp, o2, hx, hy]
    go_simp
    rfl
  have hI' := (((((((((((((((((hI.set_ hg i2.symm i4.symm i5.symm 0 (.int .i64 (smallF n1)))).set_ hg i2.symm i4.symm i5.symm 1 (.int .i64 (smallF n2)))).set_ hg i2.symm i4.symm i5.symm 2 (.int .u64 n3))).set_ hg i2.symm i4.symm i5.symm 3 (.int .i64 (smallF n4)))).set_ hg i2.symm i4.symm i5.symm 4 (.int .u64 n5))).set_ hg i2.symm i4.symm i5.symm 5 (.int .i64 (smallF n6)))).set_ hg i2.symm i4.symm i5.symm 6 (.int .i64 0))).set_ hg i2.symm i4.symm i5.symm 7 (.int .i64 0))).set_ hg i2.symm i4.symm i5.symm 8 (.slice none 0 0))
  refine hK.out _ _ hI'.held (fun _ => ?_)
  refine norm_ (a' := ⟨(T6 a0 a2 a3 a4 a5 (.func (.func 26) #[] #[.pointer (some ⟨g5, 0, none⟩)] : Value) a11 a12 a13 a15 a16 a17 a18 (.pointer (some ⟨g7, 0, none⟩)) (.func (.func 26) #[] #[.pointer (some ⟨g5, 0, none⟩)] : Value) (.int .i64 (smallF n1)) (.func (.func 26) #[] #[.pointer (some ⟨g5, 0, none⟩)] : Value) (.int .i64 (smallF n2)) (.func (.func 24) #[] #[.pointer (some ⟨g4, 0, none⟩)] : Value) (.int .u64 n3) (.func (.func 26) #[] #[.pointer (some ⟨g5, 0, none⟩)] : Value) (.int .i64 (smallF n4)) (.func (.func 24) #[] #[.pointer (some ⟨g4, 0, none⟩)] : Value) (.int .u64 n5) (.func (.func 26) #[] #[.pointer (some ⟨g5, 0, none⟩)] : Value) (.int .i64 (smallF n6)) (.agg #[.int .i64 (smallF n1), .int .i64 (smallF n2), .int .u64 n3, .int .i64 (smallF n4), .int .u64 n5, .int .i64 (smallF n6), .int .i64 0, .int .i64 0, .slice none 0 0])), []⟩) (by rfl) ?_
  refine done_ (done_of HT_.out (by kernel_rfl)) ?_
  exact hE _ g7 hI' hg i2 i4 i5 (blk_put (cs := #[.int .i64 (smallF n1), .int .i64 (smallF n2), .int .u64 n3, .int .i64 (smallF n4), .int .u64 n5, .int .i64 (smallF n6), .int .i64 0, .int .i64 0, .slice none 0 0]) (blk_put (cs := #[.int .i64 (smallF n1), .int .i64 (smallF n2), .int .u64 n3, .int .i64 (smallF n4), .int .u64 n5, .int .i64 (smallF n6), .int .i64 0, .int .i64 0, .slice none 0 0]) (blk_put (cs := #[.int .i64 (smallF n1), .int .i64 (smallF n2), .int .u64 n3, .int .i64 (smallF n4), .int .u64 n5, .int .i64 (smallF n6), .int .i64 0, .int .i64 0, .slice none 0 0]) (blk_put (cs := #[.int .i64 (smallF n1), .int .i64 (smallF n2), .int .u64 n3, .int .i64 (smallF n4), .int .u64 n5, .int .i64 0, .int .i64 0, .int .i64 0, .slice none 0 0]) (blk_put (cs := #[.int .i64 (smallF n1), .int .i64 (smallF n2), .int .u64 n3, .int .i64 (smallF n4), .int .u64 0, .int .i64 0, .int .i64 0, .int .i64 0, .slice none 0 0]) (blk_put (cs := #[.int .i64 (smallF n1), .int .i64 (smallF n2), .int .u64 n3, .int .i64 0, .int .u64 0, .int .i64 0, .int .i64 0, .int .i64 0, .slice none 0 0]) (blk_put (cs := #[.int .i64 (smallF n1), .int .i64 (smallF n2), .int .u64 0, .int .i64 0, .int .u64 0, .int .i64 0, .int .i64 0, .int .i64 0, .slice none 0 0]) (blk_put (cs := #[.int .i64 (smallF n1), .int .i64 0, .int .u64 0, .int .i64 0, .int .u64 0, .int .i64 0, .int .i64 0, .int .i64 0, .slice none 0 0]) (blk_put (cs := #[.int .i64 0, .int .i64 0, .int .u64 0, .int .i64 0, .int .u64 0, .int .i64 0, .int .i64 0, .int .i64 0, .slice none 0 0]) hz 0 _ rfl) 1 _ rfl) 2 _ rfl) 3 _ rfl) 4 _ rfl) 5 _ rfl) 6 _ rfl) 7 _ rfl) 8 _ rfl)
set_option maxHeartbeats 1000000 in
set_option maxRecDepth 100000 in
theorem parse6_psi6 (hQ : ∀ c (a : Act) w (N : Option Tmp) v, Q (.panic c) (a.put N v) w → Q (.panic c) a w) (hE : ∀ w' g7, Inv6 W g2 g4 g5 y7 w' → W.heap.size ≤ g7 → g7 ≠ g2 → g7 ≠ g4 → g7 ≠ g5 → w'.heap[g7]? = some (.cells #[.int .i64 (smallF n1), .int .i64 (smallF n2), .int .u64 n3, .int .i64 (smallF n4), .int .u64 n5, .int .i64 (smallF n6), .int .i64 0, .int .i64 0, .slice none 0 0] 25 (0, 0)) → Q .normal ⟨(T6 a0 a2 a3 a4 a5 (.func (.func 26) #[] #[.pointer (some ⟨g5, 0, none⟩)] : Value) a11 a12 a13 a15 a16 a17 a18 (.pointer (some ⟨g7, 0, none⟩)) (.func (.func 26) #[] #[.pointer (some ⟨g5, 0, none⟩)] : Value) (.int .i64 (smallF n1)) (.func (.func 26) #[] #[.pointer (some ⟨g5, 0, none⟩)] : Value) (.int .i64 (smallF n2)) (.func (.func 24) #[] #[.pointer (some ⟨g4, 0, none⟩)] : Value) (.int .u64 n3) (.func (.func 26) #[] #[.pointer (some ⟨g5, 0, none⟩)] : Value) (.int .i64 (smallF n4)) (.func (.func 24) #[] #[.pointer (some ⟨g4, 0, none⟩)] : Value) (.int .u64 n5) (.func (.func 26) #[] #[.pointer (some ⟨g5, 0, none⟩)] : Value) (.int .i64 (smallF n6)) (.agg #[.int .i64 (smallF n1), .int .i64 (smallF n2), .int .u64 n3, .int .i64 (smallF n4), .int .u64 n5, .int .i64 (smallF n6), .int .i64 0, .int .i64 0, .slice none 0 0])), []⟩ w') (w : World) (g7 : Nat) (hI : Inv6 W g2 g4 g5 y7 w) (hg : W.heap.size ≤ g7) (i2 : g7 ≠ g2) (i4 : g7 ≠ g4) (i5 : g7 ≠ g5) (hz : w.heap[g7]? = some (.cells #[.int .i64 0, .int .i64 0, .int .u64 0, .int .i64 0, .int .u64 0, .int .i64 0, .int .i64 0, .int .i64 0, .slice none 0 0] 25 (0, 0))) :
    wpAnyLast Try.prog .any (opsOf Try.f16 6) Q (frame_Parse.S6 g4 g5) [] 2 #[true, true, true, true, true, true, true, true, true, true, true, true, false, true, false] ⟨(T6 a0 a2 a3 a4 a5 (.func (.func 26) #[] #[.pointer (some ⟨g5, 0, none⟩)] : Value) a11 a12 a13 a15 a16 a17 a18 (.pointer (some ⟨g7, 0, none⟩)) (.func (.func 26) #[] #[.pointer (some ⟨g5, 0, none⟩)] : Value) (.int .i64 (smallF n1)) (.func (.func 26) #[] #[.pointer (some ⟨g5, 0, none⟩)] : Value) (.int .i64 (smallF n2)) (.func (.func 24) #[] #[.pointer (some ⟨g4, 0, none⟩)] : Value) (.int .u64 n3) (.func (.func 26) #[] #[.pointer (some ⟨g5, 0, none⟩)] : Value) (.int .i64 (smallF n4)) (.func (.func 24) #[] #[.pointer (some ⟨g4, 0, none⟩)] : Value) (.int .u64 n5) (.func (.func 26) #[] #[.pointer (some ⟨g5, 0, none⟩)] : Value) (.int .i64 (smallF n6)) undef), []⟩ w := by
  refine with_tabW frame_Parse.tab6 frame_Parse.bits6 (fun HT_ HW_ => ?_)
  refine pure_ (i := 12) (N := some 31) (v := ?_) (a' := ⟨(T6 a0 a2 a3 a4 a5 (.func (.func 26) #[] #[.pointer (some ⟨g5, 0, none⟩)] : Value) a11 a12 a13 a15 a16 a17 a18 (.pointer (some ⟨g7, 0, none⟩)) (.func (.func 26) #[] #[.pointer (some ⟨g5, 0, none⟩)] : Value) (.int .i64 (smallF n1)) (.func (.func 26) #[] #[.pointer (some ⟨g5, 0, none⟩)] : Value) (.int .i64 (smallF n2)) (.func (.func 24) #[] #[.pointer (some ⟨g4, 0, none⟩)] : Value) (.int .u64 n3) (.func (.func 26) #[] #[.pointer (some ⟨g5, 0, none⟩)] : Value) (.int .i64 (smallF n4)) (.func (.func 24) #[] #[.pointer (some ⟨g4, 0, none⟩)] : Value) (.int .u64 n5) (.func (.func 26) #[] #[.pointer (some ⟨g5, 0, none⟩)] : Value) (.int .i64 (smallF n6)) (.agg #[.int .i64 (smallF n1), .int .i64 (smallF n2), .int .u64 n3, .int .i64 (smallF n4), .int .u64 n5, .int .i64 (smallF n6), .int .i64 0, .int .i64 0, .slice none 0 0])), []⟩) #[true, true, true, true, true, true, true, true, true, true, true, true, true, true, false] rfl rfl (any_of HT_.out (by kernel_rfl)) (fun c a w h => hQ c a w _ _ h) (Or.inl ⟨by rfl, ?_⟩) (by rfl) ?_
  · intro w'
    kernel_rfl
  exact parse6_end hQ hE w g7 hI hg i2 i4 i5 hz
set_option maxHeartbeats 1000000 in
set_option maxRecDepth 100000 in
theorem parse6_psi5 (hQ : ∀ c (a : Act) w (N : Option Tmp) v, Q (.panic c) (a.put N v) w → Q (.panic c) a w) (hE : ∀ w' g7, Inv6 W g2 g4 g5 y7 w' → W.heap.size ≤ g7 → g7 ≠ g2 → g7 ≠ g4 → g7 ≠ g5 → w'.heap[g7]? = some (.cells #[.int .i64 (smallF n1), .int .i64 (smallF n2), .int .u64 n3, .int .i64 (smallF n4), .int .u64 n5, .int .i64 (smallF n6), .int .i64 0, .int .i64 0, .slice none 0 0] 25 (0, 0)) → Q .normal ⟨(T6 a0 a2 a3 a4 a5 (.func (.func 26) #[] #[.pointer (some ⟨g5, 0, none⟩)] : Value) a11 a12 a13 a15 a16 a17 a18 (.pointer (some ⟨g7, 0, none⟩)) (.func (.func 26) #[] #[.pointer (some ⟨g5, 0, none⟩)] : Value) (.int .i64 (smallF n1)) (.func (.func 26) #[] #[.pointer (some ⟨g5, 0, none⟩)] : Value) (.int .i64 (smallF n2)) (.func (.func 24) #[] #[.pointer (some ⟨g4, 0, none⟩)] : Value) (.int .u64 n3) (.func (.func 26) #[] #[.pointer (some ⟨g5, 0, none⟩)] : Value) (.int .i64 (smallF n4)) (.func (.func 24) #[] #[.pointer (some ⟨g4, 0, none⟩)] : Value) (.int .u64 n5) (.func (.func 26) #[] #[.pointer (some ⟨g5, 0, none⟩)] : Value) (.int .i64 (smallF n6)) (.agg #[.int .i64 (smallF n1), .int .i64 (smallF n2), .int .u64 n3, .int .i64 (smallF n4), .int .u64 n5, .int .i64 (smallF n6), .int .i64 0, .int .i64 0, .slice none 0 0])), []⟩ w') (hg4 : W.heap.size ≤ g4) (h24 : g2 ≠ g4) (h54 : g5 ≠ g4) (h6 : varint_Take.f k y6 = some (n6, m6, e6) ∧ 0 ≤ m6 ∧ m6 ≤ (y6.length : Int) ∧ y7 = y6.drop m6.toNat) (w : World) (g7 : Nat) (hI : Inv6 W g2 g4 g5 y6 w) (hg : W.heap.size ≤ g7) (i2 : g7 ≠ g2) (i4 : g7 ≠ g4) (i5 : g7 ≠ g5) (hz : w.heap[g7]? = some (.cells #[.int .i64 0, .int .i64 0, .int .u64 0, .int .i64 0, .int .u64 0, .int .i64 0, .int .i64 0, .int .i64 0, .slice none 0 0] 25 (0, 0))) :
    wpAnyLast Try.prog .any (opsOf Try.f16 6) Q (frame_Parse.S6 g4 g5) [] 3 #[true, true, true, true, true, true, true, true, true, true, true, false, false, true, false] ⟨(T6 a0 a2 a3 a4 a5 (.func (.func 26) #[] #[.pointer (some ⟨g5, 0, none⟩)] : Value) a11 a12 a13 a15 a16 a17 a18 (.pointer (some ⟨g7, 0, none⟩)) (.func (.func 26) #[] #[.pointer (some ⟨g5, 0, none⟩)] : Value) (.int .i64 (smallF n1)) (.func (.func 26) #[] #[.pointer (some ⟨g5, 0, none⟩)] : Value) (.int .i64 (smallF n2)) (.func (.func 24) #[] #[.pointer (some ⟨g4, 0, none⟩)] : Value) (.int .u64 n3) (.func (.func 26) #[] #[.pointer (some ⟨g5, 0, none⟩)] : Value) (.int .i64 (smallF n4)) (.func (.func 24) #[] #[.pointer (some ⟨g4, 0, none⟩)] : Value) (.int .u64 n5) (.func (.func 26) #[] #[.pointer (some ⟨g5, 0, none⟩)] : Value) undef undef), []⟩ w := by
  refine with_tabW frame_Parse.tab6 frame_Parse.bits6 (fun HT_ HW_ => ?_)
  obtain ⟨q1, q2, q3, rfl⟩ := h6
  obtain ⟨HB, H2, H5, A, c, HC, Hc, H4⟩ := id hI
  refine one_ (i := 11) (N := some 30) #[true, true, true, true, true, true, true, true, true, true, true, true, false, true, false] rfl rfl (one_of HT_.out (by kernel_rfl)) (by decide) (fun K hK => ?_)
  refine call_ 26 #[.pointer (some ⟨g5, 0, none⟩)] (by rfl) rfl (by kernel_rfl) ?_
  refine (frame_small k g4 g5 A c y6 n6 m6 e6 W w HC Hc HB hg4 H4 H5 q1 q2 q3).mono ?_
  rintro e w' ⟨rfl, hp⟩
  refine ⟨_, rfl, ?_⟩
  have hI' := hI.next h24 h54 hp
  refine hK.out _ _ hI'.held (fun _ => ?_)
  refine norm_ (a' := ⟨(T6 a0 a2 a3 a4 a5 (.func (.func 26) #[] #[.pointer (some ⟨g5, 0, none⟩)] : Value) a11 a12 a13 a15 a16 a17 a18 (.pointer (some ⟨g7, 0, none⟩)) (.func (.func 26) #[] #[.pointer (some ⟨g5, 0, none⟩)] : Value) (.int .i64 (smallF n1)) (.func (.func 26) #[] #[.pointer (some ⟨g5, 0, none⟩)] : Value) (.int .i64 (smallF n2)) (.func (.func 24) #[] #[.pointer (some ⟨g4, 0, none⟩)] : Value) (.int .u64 n3) (.func (.func 26) #[] #[.pointer (some ⟨g5, 0, none⟩)] : Value) (.int .i64 (smallF n4)) (.func (.func 24) #[] #[.pointer (some ⟨g4, 0, none⟩)] : Value) (.int .u64 n5) (.func (.func 26) #[] #[.pointer (some ⟨g5, 0, none⟩)] : Value) (.int .i64 (smallF n6)) undef), []⟩) (by rfl) ?_
  obtain ⟨_, _, _, _, _, P4, _⟩ := hp
  exact parse6_psi6 hQ hE w' g7 hI' hg i2 i4 i5 (P4.blk hz i4 (by simp))
set_option maxHeartbeats 1000000 in
set_option maxRecDepth 100000 in
theorem parse6_psi4 (hQ : ∀ c (a : Act) w (N : Option Tmp) v, Q (.panic c) (a.put N v) w → Q (.panic c) a w) (hE : ∀ w' g7, Inv6 W g2 g4 g5 y7 w' → W.heap.size ≤ g7 → g7 ≠ g2 → g7 ≠ g4 → g7 ≠ g5 → w'.heap[g7]? = some (.cells #[.int .i64 (smallF n1), .int .i64 (smallF n2), .int .u64 n3, .int .i64 (smallF n4), .int .u64 n5, .int .i64 (smallF n6), .int .i64 0, .int .i64 0, .slice none 0 0] 25 (0, 0)) → Q .normal ⟨(T6 a0 a2 a3 a4 a5 (.func (.func 26) #[] #[.pointer (some ⟨g5, 0, none⟩)] : Value) a11 a12 a13 a15 a16 a17 a18 (.pointer (some ⟨g7, 0, none⟩)) (.func (.func 26) #[] #[.pointer (some ⟨g5, 0, none⟩)] : Value) (.int .i64 (smallF n1)) (.func (.func 26) #[] #[.pointer (some ⟨g5, 0, none⟩)] : Value) (.int .i64 (smallF n2)) (.func (.func 24) #[] #[.pointer (some ⟨g4, 0, none⟩)] : Value) (.int .u64 n3) (.func (.func 26) #[] #[.pointer (some ⟨g5, 0, none⟩)] : Value) (.int .i64 (smallF n4)) (.func (.func 24) #[] #[.pointer (some ⟨g4, 0, none⟩)] : Value) (.int .u64 n5) (.func (.func 26) #[] #[.pointer (some ⟨g5, 0, none⟩)] : Value) (.int .i64 (smallF n6)) (.agg #[.int .i64 (smallF n1), .int .i64 (smallF n2), .int .u64 n3, .int .i64 (smallF n4), .int .u64 n5, .int .i64 (smallF n6), .int .i64 0, .int .i64 0, .slice none 0 0])), []⟩ w') (hg4 : W.heap.size ≤ g4) (h24 : g2 ≠ g4) (h54 : g5 ≠ g4) (h5 : varint_Take.f k y5 = some (n5, m5, e5) ∧ 0 ≤ m5 ∧ m5 ≤ (y5.length : Int) ∧ y6 = y5.drop m5.toNat) (h6 : varint_Take.f k y6 = some (n6, m6, e6) ∧ 0 ≤ m6 ∧ m6 ≤ (y6.length : Int) ∧ y7 = y6.drop m6.toNat) (w : World) (g7 : Nat) (hI : Inv6 W g2 g4 g5 y5 w) (hg : W.heap.size ≤ g7) (i2 : g7 ≠ g2) (i4 : g7 ≠ g4) (i5 : g7 ≠ g5) (hz : w.heap[g7]? = some (.cells #[.int .i64 0, .int .i64 0, .int .u64 0, .int .i64 0, .int .u64 0, .int .i64 0, .int .i64 0, .int .i64 0, .slice none 0 0] 25 (0, 0))) :
    wpAnyLast Try.prog .any (opsOf Try.f16 6) Q (frame_Parse.S6 g4 g5) [] 4 #[true, true, true, true, true, true, true, true, true, false, true, false, false, true, false] ⟨(T6 a0 a2 a3 a4 a5 (.func (.func 26) #[] #[.pointer (some ⟨g5, 0, none⟩)] : Value) a11 a12 a13 a15 a16 a17 a18 (.pointer (some ⟨g7, 0, none⟩)) (.func (.func 26) #[] #[.pointer (some ⟨g5, 0, none⟩)] : Value) (.int .i64 (smallF n1)) (.func (.func 26) #[] #[.pointer (some ⟨g5, 0, none⟩)] : Value) (.int .i64 (smallF n2)) (.func (.func 24) #[] #[.pointer (some ⟨g4, 0, none⟩)] : Value) (.int .u64 n3) (.func (.func 26) #[] #[.pointer (some ⟨g5, 0, none⟩)] : Value) (.int .i64 (smallF n4)) (.func (.func 24) #[] #[.pointer (some ⟨g4, 0, none⟩)] : Value) undef (.func (.func 26) #[] #[.pointer (some ⟨g5, 0, none⟩)] : Value) undef undef), []⟩ w := by
  refine with_tabW frame_Parse.tab6 frame_Parse.bits6 (fun HT_ HW_ => ?_)
  obtain ⟨q1, q2, q3, rfl⟩ := h5
  obtain ⟨HB, H2, H5, A, c, HC, Hc, H4⟩ := id hI
  refine one_ (i := 9) (N := some 28) #[true, true, true, true, true, true, true, true, true, true, true, false, false, true, false] rfl rfl (one_of HT_.out (by kernel_rfl)) (by decide) (fun K hK => ?_)
  refine call_ 24 #[.pointer (some ⟨g4, 0, none⟩)] (by rfl) rfl (by kernel_rfl) ?_
  refine (frame_next k g4 A c y5 n5 m5 e5 W w HC Hc HB hg4 H4 q1 q2 q3).mono ?_
  rintro e w' ⟨rfl, hp⟩
  refine ⟨_, rfl, ?_⟩
  have hI' := hI.next h24 h54 hp
  refine hK.out _ _ hI'.held (fun _ => ?_)
  refine norm_ (a' := ⟨(T6 a0 a2 a3 a4 a5 (.func (.func 26) #[] #[.pointer (some ⟨g5, 0, none⟩)] : Value) a11 a12 a13 a15 a16 a17 a18 (.pointer (some ⟨g7, 0, none⟩)) (.func (.func 26) #[] #[.pointer (some ⟨g5, 0, none⟩)] : Value) (.int .i64 (smallF n1)) (.func (.func 26) #[] #[.pointer (some ⟨g5, 0, none⟩)] : Value) (.int .i64 (smallF n2)) (.func (.func 24) #[] #[.pointer (some ⟨g4, 0, none⟩)] : Value) (.int .u64 n3) (.func (.func 26) #[] #[.pointer (some ⟨g5, 0, none⟩)] : Value) (.int .i64 (smallF n4)) (.func (.func 24) #[] #[.pointer (some ⟨g4, 0, none⟩)] : Value) (.int .u64 n5) (.func (.func 26) #[] #[.pointer (some ⟨g5, 0, none⟩)] : Value) undef undef), []⟩) (by rfl) ?_
  obtain ⟨_, _, _, _, _, P4, _⟩ := hp
  exact parse6_psi5 hQ hE hg4 h24 h54 h6 w' g7 hI' hg i2 i4 i5 (P4.blk hz i4 (by simp))
set_option maxHeartbeats 1000000 in
set_option maxRecDepth 100000 in
theorem parse6_psi3 (hQ : ∀ c (a : Act) w (N : Option Tmp) v, Q (.panic c) (a.put N v) w → Q (.panic c) a w) (hE : ∀ w' g7, Inv6 W g2 g4 g5 y7 w' → W.heap.size ≤ g7 → g7 ≠ g2 → g7 ≠ g4 → g7 ≠ g5 → w'.heap[g7]? = some (.cells #[.int .i64 (smallF n1), .int .i64 (smallF n2), .int .u64 n3, .int .i64 (smallF n4), .int .u64 n5, .int .i64 (smallF n6), .int .i64 0, .int .i64 0, .slice none 0 0] 25 (0, 0)) → Q .normal ⟨(T6 a0 a2 a3 a4 a5 (.func (.func 26) #[] #[.pointer (some ⟨g5, 0, none⟩)] : Value) a11 a12 a13 a15 a16 a17 a18 (.pointer (some ⟨g7, 0, none⟩)) (.func (.func 26) #[] #[.pointer (some ⟨g5, 0, none⟩)] : Value) (.int .i64 (smallF n1)) (.func (.func 26) #[] #[.pointer (some ⟨g5, 0, none⟩)] : Value) (.int .i64 (smallF n2)) (.func (.func 24) #[] #[.pointer (some ⟨g4, 0, none⟩)] : Value) (.int .u64 n3) (.func (.func 26) #[] #[.pointer (some ⟨g5, 0, none⟩)] : Value) (.int .i64 (smallF n4)) (.func (.func 24) #[] #[.pointer (some ⟨g4, 0, none⟩)] : Value) (.int .u64 n5) (.func (.func 26) #[] #[.pointer (some ⟨g5, 0, none⟩)] : Value) (.int .i64 (smallF n6)) (.agg #[.int .i64 (smallF n1), .int .i64 (smallF n2), .int .u64 n3, .int .i64 (smallF n4), .int .u64 n5, .int .i64 (smallF n6), .int .i64 0, .int .i64 0, .slice none 0 0])), []⟩ w') (hg4 : W.heap.size ≤ g4) (h24 : g2 ≠ g4) (h54 : g5 ≠ g4) (h4 : varint_Take.f k y4 = some (n4, m4, e4) ∧ 0 ≤ m4 ∧ m4 ≤ (y4.length : Int) ∧ y5 = y4.drop m4.toNat) (h5 : varint_Take.f k y5 = some (n5, m5, e5) ∧ 0 ≤ m5 ∧ m5 ≤ (y5.length : Int) ∧ y6 = y5.drop m5.toNat) (h6 : varint_Take.f k y6 = some (n6, m6, e6) ∧ 0 ≤ m6 ∧ m6 ≤ (y6.length : Int) ∧ y7 = y6.drop m6.toNat) (w : World) (g7 : Nat) (hI : Inv6 W g2 g4 g5 y4 w) (hg : W.heap.size ≤ g7) (i2 : g7 ≠ g2) (i4 : g7 ≠ g4) (i5 : g7 ≠ g5) (hz : w.heap[g7]? = some (.cells #[.int .i64 0, .int .i64 0, .int .u64 0, .int .i64 0, .int .u64 0, .int .i64 0, .int .i64 0, .int .i64 0, .slice none 0 0] 25 (0, 0))) :
    wpAnyLast Try.prog .any (opsOf Try.f16 6) Q (frame_Parse.S6 g4 g5) [] 5 #[true, true, true, true, true, true, true, false, true, false, true, false, false, true, false] ⟨(T6 a0 a2 a3 a4 a5 (.func (.func 26) #[] #[.pointer (some ⟨g5, 0, none⟩)] : Value) a11 a12 a13 a15 a16 a17 a18 (.pointer (some ⟨g7, 0, none⟩)) (.func (.func 26) #[] #[.pointer (some ⟨g5, 0, none⟩)] : Value) (.int .i64 (smallF n1)) (.func (.func 26) #[] #[.pointer (some ⟨g5, 0, none⟩)] : Value) (.int .i64 (smallF n2)) (.func (.func 24) #[] #[.pointer (some ⟨g4, 0, none⟩)] : Value) (.int .u64 n3) (.func (.func 26) #[] #[.pointer (some ⟨g5, 0, none⟩)] : Value) undef (.func (.func 24) #[] #[.pointer (some ⟨g4, 0, none⟩)] : Value) undef (.func (.func 26) #[] #[.pointer (some ⟨g5, 0, none⟩)] : Value) undef undef), []⟩ w := by
  refine with_tabW frame_Parse.tab6 frame_Parse.bits6 (fun HT_ HW_ => ?_)
  obtain ⟨q1, q2, q3, rfl⟩ := h4
  obtain ⟨HB, H2, H5, A, c, HC, Hc, H4⟩ := id hI
  refine one_ (i := 7) (N := some 26) #[true, true, true, true, true, true, true, true, true, false, true, false, false, true, false] rfl rfl (one_of HT_.out (by kernel_rfl)) (by decide) (fun K hK => ?_)
  refine call_ 26 #[.pointer (some ⟨g5, 0, none⟩)] (by rfl) rfl (by kernel_rfl) ?_
  refine (frame_small k g4 g5 A c y4 n4 m4 e4 W w HC Hc HB hg4 H4 H5 q1 q2 q3).mono ?_
  rintro e w' ⟨rfl, hp⟩
  refine ⟨_, rfl, ?_⟩
  have hI' := hI.next h24 h54 hp
  refine hK.out _ _ hI'.held (fun _ => ?_)
  refine norm_ (a' := ⟨(T6 a0 a2 a3 a4 a5 (.func (.func 26) #[] #[.pointer (some ⟨g5, 0, none⟩)] : Value) a11 a12 a13 a15 a16 a17 a18 (.pointer (some ⟨g7, 0, none⟩)) (.func (.func 26) #[] #[.pointer (some ⟨g5, 0, none⟩)] : Value) (.int .i64 (smallF n1)) (.func (.func 26) #[] #[.pointer (some ⟨g5, 0, none⟩)] : Value) (.int .i64 (smallF n2)) (.func (.func 24) #[] #[.pointer (some ⟨g4, 0, none⟩)] : Value) (.int .u64 n3) (.func (.func 26) #[] #[.pointer (some ⟨g5, 0, none⟩)] : Value) (.int .i64 (smallF n4)) (.func (.func 24) #[] #[.pointer (some ⟨g4, 0, none⟩)] : Value) undef (.func (.func 26) #[] #[.pointer (some ⟨g5, 0, none⟩)] : Value) undef undef), []⟩) (by rfl) ?_
  obtain ⟨_, _, _, _, _, P4, _⟩ := hp
  exact parse6_psi4 hQ hE hg4 h24 h54 h5 h6 w' g7 hI' hg i2 i4 i5 (P4.blk hz i4 (by simp))
set_option maxHeartbeats 1000000 in
set_option maxRecDepth 100000 in
theorem parse6_psi2 (hQ : ∀ c (a : Act) w (N : Option Tmp) v, Q (.panic c) (a.put N v) w → Q (.panic c) a w) (hE : ∀ w' g7, Inv6 W g2 g4 g5 y7 w' → W.heap.size ≤ g7 → g7 ≠ g2 → g7 ≠ g4 → g7 ≠ g5 → w'.heap[g7]? = some (.cells #[.int .i64 (smallF n1), .int .i64 (smallF n2), .int .u64 n3, .int .i64 (smallF n4), .int .u64 n5, .int .i64 (smallF n6), .int .i64 0, .int .i64 0, .slice none 0 0] 25 (0, 0)) → Q .normal ⟨(T6 a0 a2 a3 a4 a5 (.func (.func 26) #[] #[.pointer (some ⟨g5, 0, none⟩)] : Value) a11 a12 a13 a15 a16 a17 a18 (.pointer (some ⟨g7, 0, none⟩)) (.func (.func 26) #[] #[.pointer (some ⟨g5, 0, none⟩)] : Value) (.int .i64 (smallF n1)) (.func (.func 26) #[] #[.pointer (some ⟨g5, 0, none⟩)] : Value) (.int .i64 (smallF n2)) (.func (.func 24) #[] #[.pointer (some ⟨g4, 0, none⟩)] : Value) (.int .u64 n3) (.func (.func 26) #[] #[.pointer (some ⟨g5, 0, none⟩)] : Value) (.int .i64 (smallF n4)) (.func (.func 24) #[] #[.pointer (some ⟨g4, 0, none⟩)] : Value) (.int .u64 n5) (.func (.func 26) #[] #[.pointer (some ⟨g5, 0, none⟩)] : Value) (.int .i64 (smallF n6)) (.agg #[.int .i64 (smallF n1), .int .i64 (smallF n2), .int .u64 n3, .int .i64 (smallF n4), .int .u64 n5, .int .i64 (smallF n6), .int .i64 0, .int .i64 0, .slice none 0 0])), []⟩ w') (hg4 : W.heap.size ≤ g4) (h24 : g2 ≠ g4) (h54 : g5 ≠ g4) (h3 : varint_Take.f k y3 = some (n3, m3, e3) ∧ 0 ≤ m3 ∧ m3 ≤ (y3.length : Int) ∧ y4 = y3.drop m3.toNat) (h4 : varint_Take.f k y4 = some (n4, m4, e4) ∧ 0 ≤ m4 ∧ m4 ≤ (y4.length : Int) ∧ y5 = y4.drop m4.toNat) (h5 : varint_Take.f k y5 = some (n5, m5, e5) ∧ 0 ≤ m5 ∧ m5 ≤ (y5.length : Int) ∧ y6 = y5.drop m5.toNat) (h6 : varint_Take.f k y6 = some (n6, m6, e6) ∧ 0 ≤ m6 ∧ m6 ≤ (y6.length : Int) ∧ y7 = y6.drop m6.toNat) (w : World) (g7 : Nat) (hI : Inv6 W g2 g4 g5 y3 w) (hg : W.heap.size ≤ g7) (i2 : g7 ≠ g2) (i4 : g7 ≠ g4) (i5 : g7 ≠ g5) (hz : w.heap[g7]? = some (.cells #[.int .i64 0, .int .i64 0, .int .u64 0, .int .i64 0, .int .u64 0, .int .i64 0, .int .i64 0, .int .i64 0, .slice none 0 0] 25 (0, 0))) :
    wpAnyLast Try.prog .any (opsOf Try.f16 6) Q (frame_Parse.S6 g4 g5) [] 6 #[true, true, true, true, true, false, true, false, true, false, true, false, false, true, false] ⟨(T6 a0 a2 a3 a4 a5 (.func (.func 26) #[] #[.pointer (some ⟨g5, 0, none⟩)] : Value) a11 a12 a13 a15 a16 a17 a18 (.pointer (some ⟨g7, 0, none⟩)) (.func (.func 26) #[] #[.pointer (some ⟨g5, 0, none⟩)] : Value) (.int .i64 (smallF n1)) (.func (.func 26) #[] #[.pointer (some ⟨g5, 0, none⟩)] : Value) (.int .i64 (smallF n2)) (.func (.func 24) #[] #[.pointer (some ⟨g4, 0, none⟩)] : Value) undef (.func (.func 26) #[] #[.pointer (some ⟨g5, 0, none⟩)] : Value) undef (.func (.func 24) #[] #[.pointer (some ⟨g4, 0, none⟩)] : Value) undef (.func (.func 26) #[] #[.pointer (some ⟨g5, 0, none⟩)] : Value) undef undef), []⟩ w := by
  refine with_tabW frame_Parse.tab6 frame_Parse.bits6 (fun HT_ HW_ => ?_)
  obtain ⟨q1, q2, q3, rfl⟩ := h3
  obtain ⟨HB, H2, H5, A, c, HC, Hc, H4⟩ := id hI
  refine one_ (i := 5) (N := some 24) #[true, true, true, true, true, true, true, false, true, false, true, false, false, true, false] rfl rfl (one_of HT_.out (by kernel_rfl)) (by decide) (fun K hK => ?_)
  refine call_ 24 #[.pointer (some ⟨g4, 0, none⟩)] (by rfl) rfl (by kernel_rfl) ?_
  refine (frame_next k g4 A c y3 n3 m3 e3 W w HC Hc HB hg4 H4 q1 q2 q3).mono ?_
  rintro e w' ⟨rfl, hp⟩
  refine ⟨_, rfl, ?_⟩
  have hI' := hI.next h24 h54 hp
  refine hK.out _ _ hI'.held (fun _ => ?_)
  refine norm_ (a' := ⟨(T6 a0 a2 a3 a4 a5 (.func (.func 26) #[] #[.pointer (some ⟨g5, 0, none⟩)] : Value) a11 a12 a13 a15 a16 a17 a18 (.pointer (some ⟨g7, 0, none⟩)) (.func (.func 26) #[] #[.pointer (some ⟨g5, 0, none⟩)] : Value) (.int .i64 (smallF n1)) (.func (.func 26) #[] #[.pointer (some ⟨g5, 0, none⟩)] : Value) (.int .i64 (smallF n2)) (.func (.func 24) #[] #[.pointer (some ⟨g4, 0, none⟩)] : Value) (.int .u64 n3) (.func (.func 26) #[] #[.pointer (some ⟨g5, 0, none⟩)] : Value) undef (.func (.func 24) #[] #[.pointer (some ⟨g4, 0, none⟩)] : Value) undef (.func (.func 26) #[] #[.pointer (some ⟨g5, 0, none⟩)] : Value) undef undef), []⟩) (by rfl) ?_
  obtain ⟨_, _, _, _, _, P4, _⟩ := hp
  exact parse6_psi3 hQ hE hg4 h24 h54 h4 h5 h6 w' g7 hI' hg i2 i4 i5 (P4.blk hz i4 (by simp))
set_option maxHeartbeats 1000000 in
set_option maxRecDepth 100000 in
theorem parse6_psi1 (hQ : ∀ c (a : Act) w (N : Option Tmp) v, Q (.panic c) (a.put N v) w → Q (.panic c) a w) (hE : ∀ w' g7, Inv6 W g2 g4 g5 y7 w' → W.heap.size ≤ g7 → g7 ≠ g2 → g7 ≠ g4 → g7 ≠ g5 → w'.heap[g7]? = some (.cells #[.int .i64 (smallF n1), .int .i64 (smallF n2), .int .u64 n3, .int .i64 (smallF n4), .int .u64 n5, .int .i64 (smallF n6), .int .i64 0, .int .i64 0, .slice none 0 0] 25 (0, 0)) → Q .normal ⟨(T6 a0 a2 a3 a4 a5 (.func (.func 26) #[] #[.pointer (some ⟨g5, 0, none⟩)] : Value) a11 a12 a13 a15 a16 a17 a18 (.pointer (some ⟨g7, 0, none⟩)) (.func (.func 26) #[] #[.pointer (some ⟨g5, 0, none⟩)] : Value) (.int .i64 (smallF n1)) (.func (.func 26) #[] #[.pointer (some ⟨g5, 0, none⟩)] : Value) (.int .i64 (smallF n2)) (.func (.func 24) #[] #[.pointer (some ⟨g4, 0, none⟩)] : Value) (.int .u64 n3) (.func (.func 26) #[] #[.pointer (some ⟨g5, 0, none⟩)] : Value) (.int .i64 (smallF n4)) (.func (.func 24) #[] #[.pointer (some ⟨g4, 0, none⟩)] : Value) (.int .u64 n5) (.func (.func 26) #[] #[.pointer (some ⟨g5, 0, none⟩)] : Value) (.int .i64 (smallF n6)) (.agg #[.int .i64 (smallF n1), .int .i64 (smallF n2), .int .u64 n3, .int .i64 (smallF n4), .int .u64 n5, .int .i64 (smallF n6), .int .i64 0, .int .i64 0, .slice none 0 0])), []⟩ w') (hg4 : W.heap.size ≤ g4) (h24 : g2 ≠ g4) (h54 : g5 ≠ g4) (h2 : varint_Take.f k y2 = some (n2, m2, e2) ∧ 0 ≤ m2 ∧ m2 ≤ (y2.length : Int) ∧ y3 = y2.drop m2.toNat) (h3 : varint_Take.f k y3 = some (n3, m3, e3) ∧ 0 ≤ m3 ∧ m3 ≤ (y3.length : Int) ∧ y4 = y3.drop m3.toNat) (h4 : varint_Take.f k y4 = some (n4, m4, e4) ∧ 0 ≤ m4 ∧ m4 ≤ (y4.length : Int) ∧ y5 = y4.drop m4.toNat) (h5 : varint_Take.f k y5 = some (n5, m5, e5) ∧ 0 ≤ m5 ∧ m5 ≤ (y5.length : Int) ∧ y6 = y5.drop m5.toNat) (h6 : varint_Take.f k y6 = some (n6, m6, e6) ∧ 0 ≤ m6 ∧ m6 ≤ (y6.length : Int) ∧ y7 = y6.drop m6.toNat) (w : World) (g7 : Nat) (hI : Inv6 W g2 g4 g5 y2 w) (hg : W.heap.size ≤ g7) (i2 : g7 ≠ g2) (i4 : g7 ≠ g4) (i5 : g7 ≠ g5) (hz : w.heap[g7]? = some (.cells #[.int .i64 0, .int .i64 0, .int .u64 0, .int .i64 0, .int .u64 0, .int .i64 0, .int .i64 0, .int .i64 0, .slice none 0 0] 25 (0, 0))) :
    wpAnyLast Try.prog .any (opsOf Try.f16 6) Q (frame_Parse.S6 g4 g5) [] 7 #[true, true, true, false, true, false, true, false, true, false, true, false, false, true, false] ⟨(T6 a0 a2 a3 a4 a5 (.func (.func 26) #[] #[.pointer (some ⟨g5, 0, none⟩)] : Value) a11 a12 a13 a15 a16 a17 a18 (.pointer (some ⟨g7, 0, none⟩)) (.func (.func 26) #[] #[.pointer (some ⟨g5, 0, none⟩)] : Value) (.int .i64 (smallF n1)) (.func (.func 26) #[] #[.pointer (some ⟨g5, 0, none⟩)] : Value) undef (.func (.func 24) #[] #[.pointer (some ⟨g4, 0, none⟩)] : Value) undef (.func (.func 26) #[] #[.pointer (some ⟨g5, 0, none⟩)] : Value) undef (.func (.func 24) #[] #[.pointer (some ⟨g4, 0, none⟩)] : Value) undef (.func (.func 26) #[] #[.pointer (some ⟨g5, 0, none⟩)] : Value) undef undef), []⟩ w := by
  refine with_tabW frame_Parse.tab6 frame_Parse.bits6 (fun HT_ HW_ => ?_)
  obtain ⟨q1, q2, q3, rfl⟩ := h2
  obtain ⟨HB, H2, H5, A, c, HC, Hc, H4⟩ := id hI
  refine one_ (i := 3) (N := some 22) #[true, true, true, true, true, false, true, false, true, false, true, false, false, true, false] rfl rfl (one_of HT_.out (by kernel_rfl)) (by decide) (fun K hK => ?_)
  refine call_ 26 #[.pointer (some ⟨g5, 0, none⟩)] (by rfl) rfl (by kernel_rfl) ?_
  refine (frame_small k g4 g5 A c y2 n2 m2 e2 W w HC Hc HB hg4 H4 H5 q1 q2 q3).mono ?_
  rintro e w' ⟨rfl, hp⟩
  refine ⟨_, rfl, ?_⟩
  have hI' := hI.next h24 h54 hp
  refine hK.out _ _ hI'.held (fun _ => ?_)
  refine norm_ (a' := ⟨(T6 a0 a2 a3 a4 a5 (.func (.func 26) #[] #[.pointer (some ⟨g5, 0, none⟩)] : Value) a11 a12 a13 a15 a16 a17 a18 (.pointer (some ⟨g7, 0, none⟩)) (.func (.func 26) #[] #[.pointer (some ⟨g5, 0, none⟩)] : Value) (.int .i64 (smallF n1)) (.func (.func 26) #[] #[.pointer (some ⟨g5, 0, none⟩)] : Value) (.int .i64 (smallF n2)) (.func (.func 24) #[] #[.pointer (some ⟨g4, 0, none⟩)] : Value) undef (.func (.func 26) #[] #[.pointer (some ⟨g5, 0, none⟩)] : Value) undef (.func (.func 24) #[] #[.pointer (some ⟨g4, 0, none⟩)] : Value) undef (.func (.func 26) #[] #[.pointer (some ⟨g5, 0, none⟩)] : Value) undef undef), []⟩) (by rfl) ?_
  obtain ⟨_, _, _, _, _, P4, _⟩ := hp
  exact parse6_psi2 hQ hE hg4 h24 h54 h3 h4 h5 h6 w' g7 hI' hg i2 i4 i5 (P4.blk hz i4 (by simp))
set_option maxHeartbeats 1000000 in
set_option maxRecDepth 100000 in
theorem parse6_psi0 (hQ : ∀ c (a : Act) w (N : Option Tmp) v, Q (.panic c) (a.put N v) w → Q (.panic c) a w) (hE : ∀ w' g7, Inv6 W g2 g4 g5 y7 w' → W.heap.size ≤ g7 → g7 ≠ g2 → g7 ≠ g4 → g7 ≠ g5 → w'.heap[g7]? = some (.cells #[.int .i64 (smallF n1), .int .i64 (smallF n2), .int .u64 n3, .int .i64 (smallF n4), .int .u64 n5, .int .i64 (smallF n6), .int .i64 0, .int .i64 0, .slice none 0 0] 25 (0, 0)) → Q .normal ⟨(T6 a0 a2 a3 a4 a5 (.func (.func 26) #[] #[.pointer (some ⟨g5, 0, none⟩)] : Value) a11 a12 a13 a15 a16 a17 a18 (.pointer (some ⟨g7, 0, none⟩)) (.func (.func 26) #[] #[.pointer (some ⟨g5, 0, none⟩)] : Value) (.int .i64 (smallF n1)) (.func (.func 26) #[] #[.pointer (some ⟨g5, 0, none⟩)] : Value) (.int .i64 (smallF n2)) (.func (.func 24) #[] #[.pointer (some ⟨g4, 0, none⟩)] : Value) (.int .u64 n3) (.func (.func 26) #[] #[.pointer (some ⟨g5, 0, none⟩)] : Value) (.int .i64 (smallF n4)) (.func (.func 24) #[] #[.pointer (some ⟨g4, 0, none⟩)] : Value) (.int .u64 n5) (.func (.func 26) #[] #[.pointer (some ⟨g5, 0, none⟩)] : Value) (.int .i64 (smallF n6)) (.agg #[.int .i64 (smallF n1), .int .i64 (smallF n2), .int .u64 n3, .int .i64 (smallF n4), .int .u64 n5, .int .i64 (smallF n6), .int .i64 0, .int .i64 0, .slice none 0 0])), []⟩ w') (hg4 : W.heap.size ≤ g4) (h24 : g2 ≠ g4) (h54 : g5 ≠ g4) (h1 : varint_Take.f k y1 = some (n1, m1, e1) ∧ 0 ≤ m1 ∧ m1 ≤ (y1.length : Int) ∧ y2 = y1.drop m1.toNat) (h2 : varint_Take.f k y2 = some (n2, m2, e2) ∧ 0 ≤ m2 ∧ m2 ≤ (y2.length : Int) ∧ y3 = y2.drop m2.toNat) (h3 : varint_Take.f k y3 = some (n3, m3, e3) ∧ 0 ≤ m3 ∧ m3 ≤ (y3.length : Int) ∧ y4 = y3.drop m3.toNat) (h4 : varint_Take.f k y4 = some (n4, m4, e4) ∧ 0 ≤ m4 ∧ m4 ≤ (y4.length : Int) ∧ y5 = y4.drop m4.toNat) (h5 : varint_Take.f k y5 = some (n5, m5, e5) ∧ 0 ≤ m5 ∧ m5 ≤ (y5.length : Int) ∧ y6 = y5.drop m5.toNat) (h6 : varint_Take.f k y6 = some (n6, m6, e6) ∧ 0 ≤ m6 ∧ m6 ≤ (y6.length : Int) ∧ y7 = y6.drop m6.toNat) (w : World) (g7 : Nat) (hI : Inv6 W g2 g4 g5 y1 w) (hg : W.heap.size ≤ g7) (i2 : g7 ≠ g2) (i4 : g7 ≠ g4) (i5 : g7 ≠ g5) (hz : w.heap[g7]? = some (.cells #[.int .i64 0, .int .i64 0, .int .u64 0, .int .i64 0, .int .u64 0, .int .i64 0, .int .i64 0, .int .i64 0, .slice none 0 0] 25 (0, 0))) :
    wpAnyLast Try.prog .any (opsOf Try.f16 6) Q (frame_Parse.S6 g4 g5) [] 8 #[true, false, true, false, true, false, true, false, true, false, true, false, false, true, false] ⟨(T6 a0 a2 a3 a4 a5 (.func (.func 26) #[] #[.pointer (some ⟨g5, 0, none⟩)] : Value) a11 a12 a13 a15 a16 a17 a18 (.pointer (some ⟨g7, 0, none⟩)) (.func (.func 26) #[] #[.pointer (some ⟨g5, 0, none⟩)] : Value) undef (.func (.func 26) #[] #[.pointer (some ⟨g5, 0, none⟩)] : Value) undef (.func (.func 24) #[] #[.pointer (some ⟨g4, 0, none⟩)] : Value) undef (.func (.func 26) #[] #[.pointer (some ⟨g5, 0, none⟩)] : Value) undef (.func (.func 24) #[] #[.pointer (some ⟨g4, 0, none⟩)] : Value) undef (.func (.func 26) #[] #[.pointer (some ⟨g5, 0, none⟩)] : Value) undef undef), []⟩ w := by
  refine with_tabW frame_Parse.tab6 frame_Parse.bits6 (fun HT_ HW_ => ?_)
  obtain ⟨q1, q2, q3, rfl⟩ := h1
  obtain ⟨HB, H2, H5, A, c, HC, Hc, H4⟩ := id hI
  refine one_ (i := 1) (N := some 20) #[true, true, true, false, true, false, true, false, true, false, true, false, false, true, false] rfl rfl (one_of HT_.out (by kernel_rfl)) (by decide) (fun K hK => ?_)
  refine call_ 26 #[.pointer (some ⟨g5, 0, none⟩)] (by rfl) rfl (by kernel_rfl) ?_
  refine (frame_small k g4 g5 A c y1 n1 m1 e1 W w HC Hc HB hg4 H4 H5 q1 q2 q3).mono ?_
  rintro e w' ⟨rfl, hp⟩
  refine ⟨_, rfl, ?_⟩
  have hI' := hI.next h24 h54 hp
  refine hK.out _ _ hI'.held (fun _ => ?_)
  refine norm_ (a' := ⟨(T6 a0 a2 a3 a4 a5 (.func (.func 26) #[] #[.pointer (some ⟨g5, 0, none⟩)] : Value) a11 a12 a13 a15 a16 a17 a18 (.pointer (some ⟨g7, 0, none⟩)) (.func (.func 26) #[] #[.pointer (some ⟨g5, 0, none⟩)] : Value) (.int .i64 (smallF n1)) (.func (.func 26) #[] #[.pointer (some ⟨g5, 0, none⟩)] : Value) undef (.func (.func 24) #[] #[.pointer (some ⟨g4, 0, none⟩)] : Value) undef (.func (.func 26) #[] #[.pointer (some ⟨g5, 0, none⟩)] : Value) undef (.func (.func 24) #[] #[.pointer (some ⟨g4, 0, none⟩)] : Value) undef (.func (.func 26) #[] #[.pointer (some ⟨g5, 0, none⟩)] : Value) undef undef), []⟩) (by rfl) ?_
  obtain ⟨_, _, _, _, _, P4, _⟩ := hp
  exact parse6_psi1 hQ hE hg4 h24 h54 h2 h3 h4 h5 h6 w' g7 hI' hg i2 i4 i5 (P4.blk hz i4 (by simp))
theorem NextPost.size {y : List Int} {g : Nat} {W w w' : World} (h : NextPost y g W w w') : w.heap.size ≤ w'.heap.size := by
  obtain ⟨_, _, _, _, _, h4, _⟩ := h
  exact h4.1
set_option maxHeartbeats 1000000 in
set_option maxRecDepth 100000 in
theorem parse6_phi6 {hs : Nat} (hQ : ∀ c (a : Act) w (N : Option Tmp) v, Q (.panic c) (a.put N v) w → Q (.panic c) a w) (hE : ∀ w' g7, Inv6 W g2 g4 g5 y7 w' → W.heap.size ≤ g7 → g7 ≠ g2 → g7 ≠ g4 → g7 ≠ g5 → w'.heap[g7]? = some (.cells #[.int .i64 (smallF n1), .int .i64 (smallF n2), .int .u64 n3, .int .i64 (smallF n4), .int .u64 n5, .int .i64 (smallF n6), .int .i64 0, .int .i64 0, .slice none 0 0] 25 (0, 0)) → Q .normal ⟨(T6 a0 a2 a3 a4 a5 (.func (.func 26) #[] #[.pointer (some ⟨g5, 0, none⟩)] : Value) a11 a12 a13 a15 a16 a17 a18 (.pointer (some ⟨g7, 0, none⟩)) (.func (.func 26) #[] #[.pointer (some ⟨g5, 0, none⟩)] : Value) (.int .i64 (smallF n1)) (.func (.func 26) #[] #[.pointer (some ⟨g5, 0, none⟩)] : Value) (.int .i64 (smallF n2)) (.func (.func 24) #[] #[.pointer (some ⟨g4, 0, none⟩)] : Value) (.int .u64 n3) (.func (.func 26) #[] #[.pointer (some ⟨g5, 0, none⟩)] : Value) (.int .i64 (smallF n4)) (.func (.func 24) #[] #[.pointer (some ⟨g4, 0, none⟩)] : Value) (.int .u64 n5) (.func (.func 26) #[] #[.pointer (some ⟨g5, 0, none⟩)] : Value) (.int .i64 (smallF n6)) (.agg #[.int .i64 (smallF n1), .int .i64 (smallF n2), .int .u64 n3, .int .i64 (smallF n4), .int .u64 n5, .int .i64 (smallF n6), .int .i64 0, .int .i64 0, .slice none 0 0])), []⟩ w') (hg4 : W.heap.size ≤ g4) (h24 : g2 ≠ g4) (h54 : g5 ≠ g4) (hl2 : g2 < hs) (hl4 : g4 < hs) (hl5 : g5 < hs) (w : World) (hI : Inv6 W g2 g4 g5 y7 w) (hw : hs ≤ w.heap.size) :
    wpAnyLast Try.prog .any (opsOf Try.f16 6) Q (frame_Parse.S6 g4 g5) [] 3 #[true, true, true, true, true, true, true, true, true, true, true, true, false, false, false] ⟨(T6 a0 a2 a3 a4 a5 (.func (.func 26) #[] #[.pointer (some ⟨g5, 0, none⟩)] : Value) a11 a12 a13 a15 a16 a17 a18 undef (.func (.func 26) #[] #[.pointer (some ⟨g5, 0, none⟩)] : Value) (.int .i64 (smallF n1)) (.func (.func 26) #[] #[.pointer (some ⟨g5, 0, none⟩)] : Value) (.int .i64 (smallF n2)) (.func (.func 24) #[] #[.pointer (some ⟨g4, 0, none⟩)] : Value) (.int .u64 n3) (.func (.func 26) #[] #[.pointer (some ⟨g5, 0, none⟩)] : Value) (.int .i64 (smallF n4)) (.func (.func 24) #[] #[.pointer (some ⟨g4, 0, none⟩)] : Value) (.int .u64 n5) (.func (.func 26) #[] #[.pointer (some ⟨g5, 0, none⟩)] : Value) (.int .i64 (smallF n6)) undef), []⟩ w := by
  refine with_tabW frame_Parse.tab6 frame_Parse.bits6 (fun HT_ HW_ => ?_)
  refine pure_ (i := 12) (N := some 31) (v := ?_) (a' := ⟨(T6 a0 a2 a3 a4 a5 (.func (.func 26) #[] #[.pointer (some ⟨g5, 0, none⟩)] : Value) a11 a12 a13 a15 a16 a17 a18 undef (.func (.func 26) #[] #[.pointer (some ⟨g5, 0, none⟩)] : Value) (.int .i64 (smallF n1)) (.func (.func 26) #[] #[.pointer (some ⟨g5, 0, none⟩)] : Value) (.int .i64 (smallF n2)) (.func (.func 24) #[] #[.pointer (some ⟨g4, 0, none⟩)] : Value) (.int .u64 n3) (.func (.func 26) #[] #[.pointer (some ⟨g5, 0, none⟩)] : Value) (.int .i64 (smallF n4)) (.func (.func 24) #[] #[.pointer (some ⟨g4, 0, none⟩)] : Value) (.int .u64 n5) (.func (.func 26) #[] #[.pointer (some ⟨g5, 0, none⟩)] : Value) (.int .i64 (smallF n6)) (.agg #[.int .i64 (smallF n1), .int .i64 (smallF n2), .int .u64 n3, .int .i64 (smallF n4), .int .u64 n5, .int .i64 (smallF n6), .int .i64 0, .int .i64 0, .slice none 0 0])), []⟩) #[true, true, true, true, true, true, true, true, true, true, true, true, true, false, false] rfl rfl (any_of HT_.out (by kernel_rfl)) (fun c a w h => hQ c a w _ _ h) (Or.inl ⟨by rfl, ?_⟩) (by rfl) ?_
  · intro w'
    kernel_rfl
  obtain ⟨oi, o1, o2, o3, o4⟩ : ∃ oi, (opsOf Try.f16 6)[13]? = some oi ∧ oi.op = .alloc 25 ∧ oi.dst = some 7 ∧ oi.guard = none := ⟨_, rfl, rfl, rfl, rfl⟩
  refine one_ (i := 13) (N := some 7) #[true, true, true, true, true, true, true, true, true, true, true, true, true, true, false] o1 o3 (one_of HT_.out (by kernel_rfl)) (by decide) (fun K hK => ?_)
  refine value_ (w1 := w.alloc (.cells #[.int .i64 0, .int .i64 0, .int .u64 0, .int .i64 0, .int .u64 0, .int .i64 0, .int .i64 0, .int .i64 0, .slice none 0 0] 25 (0, 0))) (v := .pointer (some ⟨w.heap.size, 0, none⟩)) (by simp [Region.wanted, o4]) o3 (by simp only [execOp, o2]; go_simp) ?_
  have hI' := hI.alloc (.cells #[.int .i64 0, .int .i64 0, .int .u64 0, .int .i64 0, .int .u64 0, .int .i64 0, .int .i64 0, .int .i64 0, .slice none 0 0] 25 (0, 0))
  refine hK.out _ _ hI'.held (fun _ => ?_)
  obtain ⟨g7, hg7⟩ : ∃ g7, g7 = w.heap.size := ⟨_, rfl⟩
  rw [← hg7]
  refine norm_ (a' := ⟨(T6 a0 a2 a3 a4 a5 (.func (.func 26) #[] #[.pointer (some ⟨g5, 0, none⟩)] : Value) a11 a12 a13 a15 a16 a17 a18 (.pointer (some ⟨g7, 0, none⟩)) (.func (.func 26) #[] #[.pointer (some ⟨g5, 0, none⟩)] : Value) (.int .i64 (smallF n1)) (.func (.func 26) #[] #[.pointer (some ⟨g5, 0, none⟩)] : Value) (.int .i64 (smallF n2)) (.func (.func 24) #[] #[.pointer (some ⟨g4, 0, none⟩)] : Value) (.int .u64 n3) (.func (.func 26) #[] #[.pointer (some ⟨g5, 0, none⟩)] : Value) (.int .i64 (smallF n4)) (.func (.func 24) #[] #[.pointer (some ⟨g4, 0, none⟩)] : Value) (.int .u64 n5) (.func (.func 26) #[] #[.pointer (some ⟨g5, 0, none⟩)] : Value) (.int .i64 (smallF n6)) (.agg #[.int .i64 (smallF n1), .int .i64 (smallF n2), .int .u64 n3, .int .i64 (smallF n4), .int .u64 n5, .int .i64 (smallF n6), .int .i64 0, .int .i64 0, .slice none 0 0])), []⟩) (by rfl) ?_
  have hb := hI.1.size
  exact parse6_end hQ hE _ g7 hI' (by omega) (by omega) (by omega) (by omega) (by rw [hg7]; exact heap_alloc_new _ _)
set_option maxHeartbeats 1000000 in
set_option maxRecDepth 100000 in
theorem parse6_phi5 {hs : Nat} (hQ : ∀ c (a : Act) w (N : Option Tmp) v, Q (.panic c) (a.put N v) w → Q (.panic c) a w) (hE : ∀ w' g7, Inv6 W g2 g4 g5 y7 w' → W.heap.size ≤ g7 → g7 ≠ g2 → g7 ≠ g4 → g7 ≠ g5 → w'.heap[g7]? = some (.cells #[.int .i64 (smallF n1), .int .i64 (smallF n2), .int .u64 n3, .int .i64 (smallF n4), .int .u64 n5, .int .i64 (smallF n6), .int .i64 0, .int .i64 0, .slice none 0 0] 25 (0, 0)) → Q .normal ⟨(T6 a0 a2 a3 a4 a5 (.func (.func 26) #[] #[.pointer (some ⟨g5, 0, none⟩)] : Value) a11 a12 a13 a15 a16 a17 a18 (.pointer (some ⟨g7, 0, none⟩)) (.func (.func 26) #[] #[.pointer (some ⟨g5, 0, none⟩)] : Value) (.int .i64 (smallF n1)) (.func (.func 26) #[] #[.pointer (some ⟨g5, 0, none⟩)] : Value) (.int .i64 (smallF n2)) (.func (.func 24) #[] #[.pointer (some ⟨g4, 0, none⟩)] : Value) (.int .u64 n3) (.func (.func 26) #[] #[.pointer (some ⟨g5, 0, none⟩)] : Value) (.int .i64 (smallF n4)) (.func (.func 24) #[] #[.pointer (some ⟨g4, 0, none⟩)] : Value) (.int .u64 n5) (.func (.func 26) #[] #[.pointer (some ⟨g5, 0, none⟩)] : Value) (.int .i64 (smallF n6)) (.agg #[.int .i64 (smallF n1), .int .i64 (smallF n2), .int .u64 n3, .int .i64 (smallF n4), .int .u64 n5, .int .i64 (smallF n6), .int .i64 0, .int .i64 0, .slice none 0 0])), []⟩ w') (hg4 : W.heap.size ≤ g4) (h24 : g2 ≠ g4) (h54 : g5 ≠ g4) (h6 : varint_Take.f k y6 = some (n6, m6, e6) ∧ 0 ≤ m6 ∧ m6 ≤ (y6.length : Int) ∧ y7 = y6.drop m6.toNat) (hl2 : g2 < hs) (hl4 : g4 < hs) (hl5 : g5 < hs) (w : World) (hI : Inv6 W g2 g4 g5 y6 w) (hw : hs ≤ w.heap.size) :
    wpAnyLast Try.prog .any (opsOf Try.f16 6) Q (frame_Parse.S6 g4 g5) [] 4 #[true, true, true, true, true, true, true, true, true, true, true, false, false, false, false] ⟨(T6 a0 a2 a3 a4 a5 (.func (.func 26) #[] #[.pointer (some ⟨g5, 0, none⟩)] : Value) a11 a12 a13 a15 a16 a17 a18 undef (.func (.func 26) #[] #[.pointer (some ⟨g5, 0, none⟩)] : Value) (.int .i64 (smallF n1)) (.func (.func 26) #[] #[.pointer (some ⟨g5, 0, none⟩)] : Value) (.int .i64 (smallF n2)) (.func (.func 24) #[] #[.pointer (some ⟨g4, 0, none⟩)] : Value) (.int .u64 n3) (.func (.func 26) #[] #[.pointer (some ⟨g5, 0, none⟩)] : Value) (.int .i64 (smallF n4)) (.func (.func 24) #[] #[.pointer (some ⟨g4, 0, none⟩)] : Value) (.int .u64 n5) (.func (.func 26) #[] #[.pointer (some ⟨g5, 0, none⟩)] : Value) undef undef), []⟩ w := by
  refine with_tabW frame_Parse.tab6 frame_Parse.bits6 (fun HT_ HW_ => ?_)
  obtain ⟨oi, o1, o2, o3, o4⟩ : ∃ oi, (opsOf Try.f16 6)[13]? = some oi ∧ oi.op = .alloc 25 ∧ oi.dst = some 7 ∧ oi.guard = none := ⟨_, rfl, rfl, rfl, rfl⟩
  refine two_ (i := 11) (j := 13) (Ni := some 30) (Nj := some 7) #[true, true, true, true, true, true, true, true, true, true, true, true, false, false, false] #[true, true, true, true, true, true, true, true, true, true, true, false, false, true, false] rfl o1 rfl o3 (two_of HT_.out (by kernel_rfl)) (by decide) (by decide) (fun K hK => ?_) (fun K hK => ?_)
  rotate_left
  · skip
    refine value_ (w1 := w.alloc (.cells #[.int .i64 0, .int .i64 0, .int .u64 0, .int .i64 0, .int .u64 0, .int .i64 0, .int .i64 0, .int .i64 0, .slice none 0 0] 25 (0, 0))) (v := .pointer (some ⟨w.heap.size, 0, none⟩)) (by simp [Region.wanted, o4]) o3 (by simp only [execOp, o2]; go_simp) ?_
    have hI' := hI.alloc (.cells #[.int .i64 0, .int .i64 0, .int .u64 0, .int .i64 0, .int .u64 0, .int .i64 0, .int .i64 0, .int .i64 0, .slice none 0 0] 25 (0, 0))
    refine hK.out _ _ hI'.held (fun _ => ?_)
    obtain ⟨g7, hg7⟩ : ∃ g7, g7 = w.heap.size := ⟨_, rfl⟩
    rw [← hg7]
    refine norm_ (a' := ⟨(T6 a0 a2 a3 a4 a5 (.func (.func 26) #[] #[.pointer (some ⟨g5, 0, none⟩)] : Value) a11 a12 a13 a15 a16 a17 a18 (.pointer (some ⟨g7, 0, none⟩)) (.func (.func 26) #[] #[.pointer (some ⟨g5, 0, none⟩)] : Value) (.int .i64 (smallF n1)) (.func (.func 26) #[] #[.pointer (some ⟨g5, 0, none⟩)] : Value) (.int .i64 (smallF n2)) (.func (.func 24) #[] #[.pointer (some ⟨g4, 0, none⟩)] : Value) (.int .u64 n3) (.func (.func 26) #[] #[.pointer (some ⟨g5, 0, none⟩)] : Value) (.int .i64 (smallF n4)) (.func (.func 24) #[] #[.pointer (some ⟨g4, 0, none⟩)] : Value) (.int .u64 n5) (.func (.func 26) #[] #[.pointer (some ⟨g5, 0, none⟩)] : Value) undef undef), []⟩) (by rfl) ?_
    have hb := hI.1.size
    exact parse6_psi5 hQ hE hg4 h24 h54 h6 _ g7 hI' (by omega) (by omega) (by omega) (by omega) (by rw [hg7]; exact heap_alloc_new _ _)
  obtain ⟨q1, q2, q3, rfl⟩ := h6
  obtain ⟨HB, H2, H5, A, c, HC, Hc, H4⟩ := id hI
  · refine call_ 26 #[.pointer (some ⟨g5, 0, none⟩)] (by rfl) rfl (by kernel_rfl) ?_
    refine (frame_small k g4 g5 A c y6 n6 m6 e6 W w HC Hc HB hg4 H4 H5 q1 q2 q3).mono ?_
    rintro e w' ⟨rfl, hp⟩
    refine ⟨_, rfl, ?_⟩
    have hI' := hI.next h24 h54 hp
    refine hK.out _ _ hI'.held (fun _ => ?_)
    refine norm_ (a' := ⟨(T6 a0 a2 a3 a4 a5 (.func (.func 26) #[] #[.pointer (some ⟨g5, 0, none⟩)] : Value) a11 a12 a13 a15 a16 a17 a18 undef (.func (.func 26) #[] #[.pointer (some ⟨g5, 0, none⟩)] : Value) (.int .i64 (smallF n1)) (.func (.func 26) #[] #[.pointer (some ⟨g5, 0, none⟩)] : Value) (.int .i64 (smallF n2)) (.func (.func 24) #[] #[.pointer (some ⟨g4, 0, none⟩)] : Value) (.int .u64 n3) (.func (.func 26) #[] #[.pointer (some ⟨g5, 0, none⟩)] : Value) (.int .i64 (smallF n4)) (.func (.func 24) #[] #[.pointer (some ⟨g4, 0, none⟩)] : Value) (.int .u64 n5) (.func (.func 26) #[] #[.pointer (some ⟨g5, 0, none⟩)] : Value) (.int .i64 (smallF n6)) undef), []⟩) (by rfl) ?_
    exact parse6_phi6 hQ hE hg4 h24 h54 hl2 hl4 hl5 w' hI' (Nat.le_trans hw (hp.size))
set_option maxHeartbeats 1000000 in
set_option maxRecDepth 100000 in
theorem parse6_phi4 {hs : Nat} (hQ : ∀ c (a : Act) w (N : Option Tmp) v, Q (.panic c) (a.put N v) w → Q (.panic c) a w) (hE : ∀ w' g7, Inv6 W g2 g4 g5 y7 w' → W.heap.size ≤ g7 → g7 ≠ g2 → g7 ≠ g4 → g7 ≠ g5 → w'.heap[g7]? = some (.cells #[.int .i64 (smallF n1), .int .i64 (smallF n2), .int .u64 n3, .int .i64 (smallF n4), .int .u64 n5, .int .i64 (smallF n6), .int .i64 0, .int .i64 0, .slice none 0 0] 25 (0, 0)) → Q .normal ⟨(T6 a0 a2 a3 a4 a5 (.func (.func 26) #[] #[.pointer (some ⟨g5, 0, none⟩)] : Value) a11 a12 a13 a15 a16 a17 a18 (.pointer (some ⟨g7, 0, none⟩)) (.func (.func 26) #[] #[.pointer (some ⟨g5, 0, none⟩)] : Value) (.int .i64 (smallF n1)) (.func (.func 26) #[] #[.pointer (some ⟨g5, 0, none⟩)] : Value) (.int .i64 (smallF n2)) (.func (.func 24) #[] #[.pointer (some ⟨g4, 0, none⟩)] : Value) (.int .u64 n3) (.func (.func 26) #[] #[.pointer (some ⟨g5, 0, none⟩)] : Value) (.int .i64 (smallF n4)) (.func (.func 24) #[] #[.pointer (some ⟨g4, 0, none⟩)] : Value) (.int .u64 n5) (.func (.func 26) #[] #[.pointer (some ⟨g5, 0, none⟩)] : Value) (.int .i64 (smallF n6)) (.agg #[.int .i64 (smallF n1), .int .i64 (smallF n2), .int .u64 n3, .int .i64 (smallF n4), .int .u64 n5, .int .i64 (smallF n6), .int .i64 0, .int .i64 0, .slice none 0 0])), []⟩ w') (hg4 : W.heap.size ≤ g4) (h24 : g2 ≠ g4) (h54 : g5 ≠ g4) (h5 : varint_Take.f k y5 = some (n5, m5, e5) ∧ 0 ≤ m5 ∧ m5 ≤ (y5.length : Int) ∧ y6 = y5.drop m5.toNat) (h6 : varint_Take.f k y6 = some (n6, m6, e6) ∧ 0 ≤ m6 ∧ m6 ≤ (y6.length : Int) ∧ y7 = y6.drop m6.toNat) (hl2 : g2 < hs) (hl4 : g4 < hs) (hl5 : g5 < hs) (w : World) (hI : Inv6 W g2 g4 g5 y5 w) (hw : hs ≤ w.heap.size) :
    wpAnyLast Try.prog .any (opsOf Try.f16 6) Q (frame_Parse.S6 g4 g5) [] 5 #[true, true, true, true, true, true, true, true, true, false, true, false, false, false, false] ⟨(T6 a0 a2 a3 a4 a5 (.func (.func 26) #[] #[.pointer (some ⟨g5, 0, none⟩)] : Value) a11 a12 a13 a15 a16 a17 a18 undef (.func (.func 26) #[] #[.pointer (some ⟨g5, 0, none⟩)] : Value) (.int .i64 (smallF n1)) (.func (.func 26) #[] #[.pointer (some ⟨g5, 0, none⟩)] : Value) (.int .i64 (smallF n2)) (.func (.func 24) #[] #[.pointer (some ⟨g4, 0, none⟩)] : Value) (.int .u64 n3) (.func (.func 26) #[] #[.pointer (some ⟨g5, 0, none⟩)] : Value) (.int .i64 (smallF n4)) (.func (.func 24) #[] #[.pointer (some ⟨g4, 0, none⟩)] : Value) undef (.func (.func 26) #[] #[.pointer (some ⟨g5, 0, none⟩)] : Value) undef undef), []⟩ w := by
  refine with_tabW frame_Parse.tab6 frame_Parse.bits6 (fun HT_ HW_ => ?_)
  obtain ⟨oi, o1, o2, o3, o4⟩ : ∃ oi, (opsOf Try.f16 6)[13]? = some oi ∧ oi.op = .alloc 25 ∧ oi.dst = some 7 ∧ oi.guard = none := ⟨_, rfl, rfl, rfl, rfl⟩
  refine two_ (i := 9) (j := 13) (Ni := some 28) (Nj := some 7) #[true, true, true, true, true, true, true, true, true, true, true, false, false, false, false] #[true, true, true, true, true, true, true, true, true, false, true, false, false, true, false] rfl o1 rfl o3 (two_of HT_.out (by kernel_rfl)) (by decide) (by decide) (fun K hK => ?_) (fun K hK => ?_)
  rotate_left
  · skip
    refine value_ (w1 := w.alloc (.cells #[.int .i64 0, .int .i64 0, .int .u64 0, .int .i64 0, .int .u64 0, .int .i64 0, .int .i64 0, .int .i64 0, .slice none 0 0] 25 (0, 0))) (v := .pointer (some ⟨w.heap.size, 0, none⟩)) (by simp [Region.wanted, o4]) o3 (by simp only [execOp, o2]; go_simp) ?_
    have hI' := hI.alloc (.cells #[.int .i64 0, .int .i64 0, .int .u64 0, .int .i64 0, .int .u64 0, .int .i64 0, .int .i64 0, .int .i64 0, .slice none 0 0] 25 (0, 0))
    refine hK.out _ _ hI'.held (fun _ => ?_)
    obtain ⟨g7, hg7⟩ : ∃ g7, g7 = w.heap.size := ⟨_, rfl⟩
    rw [← hg7]
    refine norm_ (a' := ⟨(T6 a0 a2 a3 a4 a5 (.func (.func 26) #[] #[.pointer (some ⟨g5, 0, none⟩)] : Value) a11 a12 a13 a15 a16 a17 a18 (.pointer (some ⟨g7, 0, none⟩)) (.func (.func 26) #[] #[.pointer (some ⟨g5, 0, none⟩)] : Value) (.int .i64 (smallF n1)) (.func (.func 26) #[] #[.pointer (some ⟨g5, 0, none⟩)] : Value) (.int .i64 (smallF n2)) (.func (.func 24) #[] #[.pointer (some ⟨g4, 0, none⟩)] : Value) (.int .u64 n3) (.func (.func 26) #[] #[.pointer (some ⟨g5, 0, none⟩)] : Value) (.int .i64 (smallF n4)) (.func (.func 24) #[] #[.pointer (some ⟨g4, 0, none⟩)] : Value) undef (.func (.func 26) #[] #[.pointer (some ⟨g5, 0, none⟩)] : Value) undef undef), []⟩) (by rfl) ?_
    have hb := hI.1.size
    exact parse6_psi4 hQ hE hg4 h24 h54 h5 h6 _ g7 hI' (by omega) (by omega) (by omega) (by omega) (by rw [hg7]; exact heap_alloc_new _ _)
  obtain ⟨q1, q2, q3, rfl⟩ := h5
  obtain ⟨HB, H2, H5, A, c, HC, Hc, H4⟩ := id hI
  · refine call_ 24 #[.pointer (some ⟨g4, 0, none⟩)] (by rfl) rfl (by kernel_rfl) ?_
    refine (frame_next k g4 A c y5 n5 m5 e5 W w HC Hc HB hg4 H4 q1 q2 q3).mono ?_
    rintro e w' ⟨rfl, hp⟩
    refine ⟨_, rfl, ?_⟩
    have hI' := hI.next h24 h54 hp
    refine hK.out _ _ hI'.held (fun _ => ?_)
    refine norm_ (a' := ⟨(T6 a0 a2 a3 a4 a5 (.func (.func 26) #[] #[.pointer (some ⟨g5, 0, none⟩)] : Value) a11 a12 a13 a15 a16 a17 a18 undef (.func (.func 26) #[] #[.pointer (some ⟨g5, 0, none⟩)] : Value) (.int .i64 (smallF n1)) (.func (.func 26) #[] #[.pointer (some ⟨g5, 0, none⟩)] : Value) (.int .i64 (smallF n2)) (.func (.func 24) #[] #[.pointer (some ⟨g4, 0, none⟩)] : Value) (.int .u64 n3) (.func (.func 26) #[] #[.pointer (some ⟨g5, 0, none⟩)] : Value) (.int .i64 (smallF n4)) (.func (.func 24) #[] #[.pointer (some ⟨g4, 0, none⟩)] : Value) (.int .u64 n5) (.func (.func 26) #[] #[.pointer (some ⟨g5, 0, none⟩)] : Value) undef undef), []⟩) (by rfl) ?_
    exact parse6_phi5 hQ hE hg4 h24 h54 h6 hl2 hl4 hl5 w' hI' (Nat.le_trans hw (hp.size))
set_option maxHeartbeats 1000000 in
set_option maxRecDepth 100000 in
theorem parse6_phi3 {hs : Nat} (hQ : ∀ c (a : Act) w (N : Option Tmp) v, Q (.panic c) (a.put N v) w → Q (.panic c) a w) (hE : ∀ w' g7, Inv6 W g2 g4 g5 y7 w' → W.heap.size ≤ g7 → g7 ≠ g2 → g7 ≠ g4 → g7 ≠ g5 → w'.heap[g7]? = some (.cells #[.int .i64 (smallF n1), .int .i64 (smallF n2), .int .u64 n3, .int .i64 (smallF n4), .int .u64 n5, .int .i64 (smallF n6), .int .i64 0, .int .i64 0, .slice none 0 0] 25 (0, 0)) → Q .normal ⟨(T6 a0 a2 a3 a4 a5 (.func (.func 26) #[] #[.pointer (some ⟨g5, 0, none⟩)] : Value) a11 a12 a13 a15 a16 a17 a18 (.pointer (some ⟨g7, 0, none⟩)) (.func (.func 26) #[] #[.pointer (some ⟨g5, 0, none⟩)] : Value) (.int .i64 (smallF n1)) (.func (.func 26) #[] #[.pointer (some ⟨g5, 0, none⟩)] : Value) (.int .i64 (smallF n2)) (.func (.func 24) #[] #[.pointer (some ⟨g4, 0, none⟩)] : Value) (.int .u64 n3) (.func (.func 26) #[] #[.pointer (some ⟨g5, 0, none⟩)] : Value) (.int .i64 (smallF n4)) (.func (.func 24) #[] #[.pointer (some ⟨g4, 0, none⟩)] : Value) (.int .u64 n5) (.func (.func 26) #[] #[.pointer (some ⟨g5, 0, none⟩)] : Value) (.int .i64 (smallF n6)) (.agg #[.int .i64 (smallF n1), .int .i64 (smallF n2), .int .u64 n3, .int .i64 (smallF n4), .int .u64 n5, .int .i64 (smallF n6), .int .i64 0, .int .i64 0, .slice none 0 0])), []⟩ w') (hg4 : W.heap.size ≤ g4) (h24 : g2 ≠ g4) (h54 : g5 ≠ g4) (h4 : varint_Take.f k y4 = some (n4, m4, e4) ∧ 0 ≤ m4 ∧ m4 ≤ (y4.length : Int) ∧ y5 = y4.drop m4.toNat) (h5 : varint_Take.f k y5 = some (n5, m5, e5) ∧ 0 ≤ m5 ∧ m5 ≤ (y5.length : Int) ∧ y6 = y5.drop m5.toNat) (h6 : varint_Take.f k y6 = some (n6, m6, e6) ∧ 0 ≤ m6 ∧ m6 ≤ (y6.length : Int) ∧ y7 = y6.drop m6.toNat) (hl2 : g2 < hs) (hl4 : g4 < hs) (hl5 : g5 < hs) (w : World) (hI : Inv6 W g2 g4 g5 y4 w) (hw : hs ≤ w.heap.size) :
    wpAnyLast Try.prog .any (opsOf Try.f16 6) Q (frame_Parse.S6 g4 g5) [] 6 #[true, true, true, true, true, true, true, false, true, false, true, false, false, false, false] ⟨(T6 a0 a2 a3 a4 a5 (.func (.func 26) #[] #[.pointer (some ⟨g5, 0, none⟩)] : Value) a11 a12 a13 a15 a16 a17 a18 undef (.func (.func 26) #[] #[.pointer (some ⟨g5, 0, none⟩)] : Value) (.int .i64 (smallF n1)) (.func (.func 26) #[] #[.pointer (some ⟨g5, 0, none⟩)] : Value) (.int .i64 (smallF n2)) (.func (.func 24) #[] #[.pointer (some ⟨g4, 0, none⟩)] : Value) (.int .u64 n3) (.func (.func 26) #[] #[.pointer (some ⟨g5, 0, none⟩)] : Value) undef (.func (.func 24) #[] #[.pointer (some ⟨g4, 0, none⟩)] : Value) undef (.func (.func 26) #[] #[.pointer (some ⟨g5, 0, none⟩)] : Value) undef undef), []⟩ w := by
  refine with_tabW frame_Parse.tab6 frame_Parse.bits6 (fun HT_ HW_ => ?_)
  obtain ⟨oi, o1, o2, o3, o4⟩ : ∃ oi, (opsOf Try.f16 6)[13]? = some oi ∧ oi.op = .alloc 25 ∧ oi.dst = some 7 ∧ oi.guard = none := ⟨_, rfl, rfl, rfl, rfl⟩
  refine two_ (i := 7) (j := 13) (Ni := some 26) (Nj := some 7) #[true, true, true, true, true, true, true, true, true, false, true, false, false, false, false] #[true, true, true, true, true, true, true, false, true, false, true, false, false, true, false] rfl o1 rfl o3 (two_of HT_.out (by kernel_rfl)) (by decide) (by decide) (fun K hK => ?_) (fun K hK => ?_)
  rotate_left
  · skip
    refine value_ (w1 := w.alloc (.cells #[.int .i64 0, .int .i64 0, .int .u64 0, .int .i64 0, .int .u64 0, .int .i64 0, .int .i64 0, .int .i64 0, .slice none 0 0] 25 (0, 0))) (v := .pointer (some ⟨w.heap.size, 0, none⟩)) (by simp [Region.wanted, o4]) o3 (by simp only [execOp, o2]; go_simp) ?_
    have hI' := hI.alloc (.cells #[.int .i64 0, .int .i64 0, .int .u64 0, .int .i64 0, .int .u64 0, .int .i64 0, .int .i64 0, .int .i64 0, .slice none 0 0] 25 (0, 0))
    refine hK.out _ _ hI'.held (fun _ => ?_)
    obtain ⟨g7, hg7⟩ : ∃ g7, g7 = w.heap.size := ⟨_, rfl⟩
    rw [← hg7]
    refine norm_ (a' := ⟨(T6 a0 a2 a3 a4 a5 (.func (.func 26) #[] #[.pointer (some ⟨g5, 0, none⟩)] : Value) a11 a12 a13 a15 a16 a17 a18 (.pointer (some ⟨g7, 0, none⟩)) (.func (.func 26) #[] #[.pointer (some ⟨g5, 0, none⟩)] : Value) (.int .i64 (smallF n1)) (.func (.func 26) #[] #[.pointer (some ⟨g5, 0, none⟩)] : Value) (.int .i64 (smallF n2)) (.func (.func 24) #[] #[.pointer (some ⟨g4, 0, none⟩)] : Value) (.int .u64 n3) (.func (.func 26) #[] #[.pointer (some ⟨g5, 0, none⟩)] : Value) undef (.func (.func 24) #[] #[.pointer (some ⟨g4, 0, none⟩)] : Value) undef (.func (.func 26) #[] #[.pointer (some ⟨g5, 0, none⟩)] : Value) undef undef), []⟩) (by rfl) ?_
    have hb := hI.1.size
    exact parse6_psi3 hQ hE hg4 h24 h54 h4 h5 h6 _ g7 hI' (by omega) (by omega) (by omega) (by omega) (by rw [hg7]; exact heap_alloc_new _ _)
  obtain ⟨q1, q2, q3, rfl⟩ := h4
  obtain ⟨HB, H2, H5, A, c, HC, Hc, H4⟩ := id hI
  · refine call_ 26 #[.pointer (some ⟨g5, 0, none⟩)] (by rfl) rfl (by kernel_rfl) ?_
    refine (frame_small k g4 g5 A c y4 n4 m4 e4 W w HC Hc HB hg4 H4 H5 q1 q2 q3).mono ?_
    rintro e w' ⟨rfl, hp⟩
    refine ⟨_, rfl, ?_⟩
    have hI' := hI.next h24 h54 hp
    refine hK.out _ _ hI'.held (fun _ => ?_)
    refine norm_ (a' := ⟨(T6 a0 a2 a3 a4 a5 (.func (.func 26) #[] #[.pointer (some ⟨g5, 0, none⟩)] : Value) a11 a12 a13 a15 a16 a17 a18 undef (.func (.func 26) #[] #[.pointer (some ⟨g5, 0, none⟩)] : Value) (.int .i64 (smallF n1)) (.func (.func 26) #[] #[.pointer (some ⟨g5, 0, none⟩)] : Value) (.int .i64 (smallF n2)) (.func (.func 24) #[] #[.pointer (some ⟨g4, 0, none⟩)] : Value) (.int .u64 n3) (.func (.func 26) #[] #[.pointer (some ⟨g5, 0, none⟩)] : Value) (.int .i64 (smallF n4)) (.func (.func 24) #[] #[.pointer (some ⟨g4, 0, none⟩)] : Value) undef (.func (.func 26) #[] #[.pointer (some ⟨g5, 0, none⟩)] : Value) undef undef), []⟩) (by rfl) ?_
    exact parse6_phi4 hQ hE hg4 h24 h54 h5 h6 hl2 hl4 hl5 w' hI' (Nat.le_trans hw (hp.size))
set_option maxHeartbeats 1000000 in
set_option maxRecDepth 100000 in
theorem parse6_phi2 {hs : Nat} (hQ : ∀ c (a : Act) w (N : Option Tmp) v, Q (.panic c) (a.put N v) w → Q (.panic c) a w) (hE : ∀ w' g7, Inv6 W g2 g4 g5 y7 w' → W.heap.size ≤ g7 → g7 ≠ g2 → g7 ≠ g4 → g7 ≠ g5 → w'.heap[g7]? = some (.cells #[.int .i64 (smallF n1), .int .i64 (smallF n2), .int .u64 n3, .int .i64 (smallF n4), .int .u64 n5, .int .i64 (smallF n6), .int .i64 0, .int .i64 0, .slice none 0 0] 25 (0, 0)) → Q .normal ⟨(T6 a0 a2 a3 a4 a5 (.func (.func 26) #[] #[.pointer (some ⟨g5, 0, none⟩)] : Value) a11 a12 a13 a15 a16 a17 a18 (.pointer (some ⟨g7, 0, none⟩)) (.func (.func 26) #[] #[.pointer (some ⟨g5, 0, none⟩)] : Value) (.int .i64 (smallF n1)) (.func (.func 26) #[] #[.pointer (some ⟨g5, 0, none⟩)] : Value) (.int .i64 (smallF n2)) (.func (.func 24) #[] #[.pointer (some ⟨g4, 0, none⟩)] : Value) (.int .u64 n3) (.func (.func 26) #[] #[.pointer (some ⟨g5, 0, none⟩)] : Value) (.int .i64 (smallF n4)) (.func (.func 24) #[] #[.pointer (some ⟨g4, 0, none⟩)] : Value) (.int .u64 n5) (.func (.func 26) #[] #[.pointer (some ⟨g5, 0, none⟩)] : Value) (.int .i64 (smallF n6)) (.agg #[.int .i64 (smallF n1), .int .i64 (smallF n2), .int .u64 n3, .int .i64 (smallF n4), .int .u64 n5, .int .i64 (smallF n6), .int .i64 0, .int .i64 0, .slice none 0 0])), []⟩ w') (hg4 : W.heap.size ≤ g4) (h24 : g2 ≠ g4) (h54 : g5 ≠ g4) (h3 : varint_Take.f k y3 = some (n3, m3, e3) ∧ 0 ≤ m3 ∧ m3 ≤ (y3.length : Int) ∧ y4 = y3.drop m3.toNat) (h4 : varint_Take.f k y4 = some (n4, m4, e4) ∧ 0 ≤ m4 ∧ m4 ≤ (y4.length : Int) ∧ y5 = y4.drop m4.toNat) (h5 : varint_Take.f k y5 = some (n5, m5, e5) ∧ 0 ≤ m5 ∧ m5 ≤ (y5.length : Int) ∧ y6 = y5.drop m5.toNat) (h6 : varint_Take.f k y6 = some (n6, m6, e6) ∧ 0 ≤ m6 ∧ m6 ≤ (y6.length : Int) ∧ y7 = y6.drop m6.toNat) (hl2 : g2 < hs) (hl4 : g4 < hs) (hl5 : g5 < hs) (w : World) (hI : Inv6 W g2 g4 g5 y3 w) (hw : hs ≤ w.heap.size) :
    wpAnyLast Try.prog .any (opsOf Try.f16 6) Q (frame_Parse.S6 g4 g5) [] 7 #[true, true, true, true, true, false, true, false, true, false, true, false, false, false, false] ⟨(T6 a0 a2 a3 a4 a5 (.func (.func 26) #[] #[.pointer (some ⟨g5, 0, none⟩)] : Value) a11 a12 a13 a15 a16 a17 a18 undef (.func (.func 26) #[] #[.pointer (some ⟨g5, 0, none⟩)] : Value) (.int .i64 (smallF n1)) (.func (.func 26) #[] #[.pointer (some ⟨g5, 0, none⟩)] : Value) (.int .i64 (smallF n2)) (.func (.func 24) #[] #[.pointer (some ⟨g4, 0, none⟩)] : Value) undef (.func (.func 26) #[] #[.pointer (some ⟨g5, 0, none⟩)] : Value) undef (.func (.func 24) #[] #[.pointer (some ⟨g4, 0, none⟩)] : Value) undef (.func (.func 26) #[] #[.pointer (some ⟨g5, 0, none⟩)] : Value) undef undef), []⟩ w := by
  refine with_tabW frame_Parse.tab6 frame_Parse.bits6 (fun HT_ HW_ => ?_)
  obtain ⟨oi, o1, o2, o3, o4⟩ : ∃ oi, (opsOf Try.f16 6)[13]? = some oi ∧ oi.op = .alloc 25 ∧ oi.dst = some 7 ∧ oi.guard = none := ⟨_, rfl, rfl, rfl, rfl⟩
  refine two_ (i := 5) (j := 13) (Ni := some 24) (Nj := some 7) #[true, true, true, true, true, true, true, false, true, false, true, false, false, false, false] #[true, true, true, true, true, false, true, false, true, false, true, false, false, true, false] rfl o1 rfl o3 (two_of HT_.out (by kernel_rfl)) (by decide) (by decide) (fun K hK => ?_) (fun K hK => ?_)
  rotate_left
  · skip
    refine value_ (w1 := w.alloc (.cells #[.int .i64 0, .int .i64 0, .int .u64 0, .int .i64 0, .int .u64 0, .int .i64 0, .int .i64 0, .int .i64 0, .slice none 0 0] 25 (0, 0))) (v := .pointer (some ⟨w.heap.size, 0, none⟩)) (by simp [Region.wanted, o4]) o3 (by simp only [execOp, o2]; go_simp) ?_
    have hI' := hI.alloc (.cells #[.int .i64 0, .int .i64 0, .int .u64 0, .int .i64 0, .int .u64 0, .int .i64 0, .int .i64 0, .int .i64 0, .slice none 0 0] 25 (0, 0))
    refine hK.out _ _ hI'.held (fun _ => ?_)
    obtain ⟨g7, hg7⟩ : ∃ g7, g7 = w.heap.size := ⟨_, rfl⟩
    rw [← hg7]
    refine norm_ (a' := ⟨(T6 a0 a2 a3 a4 a5 (.func (.func 26) #[] #[.pointer (some ⟨g5, 0, none⟩)] : Value) a11 a12 a13 a15 a16 a17 a18 (.pointer (some ⟨g7, 0, none⟩)) (.func (.func 26) #[] #[.pointer (some ⟨g5, 0, none⟩)] : Value) (.int .i64 (smallF n1)) (.func (.func 26) #[] #[.pointer (some ⟨g5, 0, none⟩)] : Value) (.int .i64 (smallF n2)) (.func (.func 24) #[] #[.pointer (some ⟨g4, 0, none⟩)] : Value) undef (.func (.func 26) #[] #[.pointer (some ⟨g5, 0, none⟩)] : Value) undef (.func (.func 24) #[] #[.pointer (some ⟨g4, 0, none⟩)] : Value) undef (.func (.func 26) #[] #[.pointer (some ⟨g5, 0, none⟩)] : Value) undef undef), []⟩) (by rfl) ?_
    have hb := hI.1.size
    exact parse6_psi2 hQ hE hg4 h24 h54 h3 h4 h5 h6 _ g7 hI' (by omega) (by omega) (by omega) (by omega) (by rw [hg7]; exact heap_alloc_new _ _)
  obtain ⟨q1, q2, q3, rfl⟩ := h3
  obtain ⟨HB, H2, H5, A, c, HC, Hc, H4⟩ := id hI
  · refine call_ 24 #[.pointer (some ⟨g4, 0, none⟩)] (by rfl) rfl (by kernel_rfl) ?_
    refine (frame_next k g4 A c y3 n3 m3 e3 W w HC Hc HB hg4 H4 q1 q2 q3).mono ?_
    rintro e w' ⟨rfl, hp⟩
    refine ⟨_, rfl, ?_⟩
    have hI' := hI.next h24 h54 hp
    refine hK.out _ _ hI'.held (fun _ => ?_)
    refine norm_ (a' := ⟨(T6 a0 a2 a3 a4 a5 (.func (.func 26) #[] #[.pointer (some ⟨g5, 0, none⟩)] : Value) a11 a12 a13 a15 a16 a17 a18 undef (.func (.func 26) #[] #[.pointer (some ⟨g5, 0, none⟩)] : Value) (.int .i64 (smallF n1)) (.func (.func 26) #[] #[.pointer (some ⟨g5, 0, none⟩)] : Value) (.int .i64 (smallF n2)) (.func (.func 24) #[] #[.pointer (some ⟨g4, 0, none⟩)] : Value) (.int .u64 n3) (.func (.func 26) #[] #[.pointer (some ⟨g5, 0, none⟩)] : Value) undef (.func (.func 24) #[] #[.pointer (some ⟨g4, 0, none⟩)] : Value) undef (.func (.func 26) #[] #[.pointer (some ⟨g5, 0, none⟩)] : Value) undef undef), []⟩) (by rfl) ?_
    exact parse6_phi3 hQ hE hg4 h24 h54 h4 h5 h6 hl2 hl4 hl5 w' hI' (Nat.le_trans hw (hp.size))
set_option maxHeartbeats 1000000 in
set_option maxRecDepth 100000 in
theorem parse6_phi1 {hs : Nat} (hQ : ∀ c (a : Act) w (N : Option Tmp) v, Q (.panic c) (a.put N v) w → Q (.panic c) a w) (hE : ∀ w' g7, Inv6 W g2 g4 g5 y7 w' → W.heap.size ≤ g7 → g7 ≠ g2 → g7 ≠ g4 → g7 ≠ g5 → w'.heap[g7]? = some (.cells #[.int .i64 (smallF n1), .int .i64 (smallF n2), .int .u64 n3, .int .i64 (smallF n4), .int .u64 n5, .int .i64 (smallF n6), .int .i64 0, .int .i64 0, .slice none 0 0] 25 (0, 0)) → Q .normal ⟨(T6 a0 a2 a3 a4 a5 (.func (.func 26) #[] #[.pointer (some ⟨g5, 0, none⟩)] : Value) a11 a12 a13 a15 a16 a17 a18 (.pointer (some ⟨g7, 0, none⟩)) (.func (.func 26) #[] #[.pointer (some ⟨g5, 0, none⟩)] : Value) (.int .i64 (smallF n1)) (.func (.func 26) #[] #[.pointer (some ⟨g5, 0, none⟩)] : Value) (.int .i64 (smallF n2)) (.func (.func 24) #[] #[.pointer (some ⟨g4, 0, none⟩)] : Value) (.int .u64 n3) (.func (.func 26) #[] #[.pointer (some ⟨g5, 0, none⟩)] : Value) (.int .i64 (smallF n4)) (.func (.func 24) #[] #[.pointer (some ⟨g4, 0, none⟩)] : Value) (.int .u64 n5) (.func (.func 26) #[] #[.pointer (some ⟨g5, 0, none⟩)] : Value) (.int .i64 (smallF n6)) (.agg #[.int .i64 (smallF n1), .int .i64 (smallF n2), .int .u64 n3, .int .i64 (smallF n4), .int .u64 n5, .int .i64 (smallF n6), .int .i64 0, .int .i64 0, .slice none 0 0])), []⟩ w') (hg4 : W.heap.size ≤ g4) (h24 : g2 ≠ g4) (h54 : g5 ≠ g4) (h2 : varint_Take.f k y2 = some (n2, m2, e2) ∧ 0 ≤ m2 ∧ m2 ≤ (y2.length : Int) ∧ y3 = y2.drop m2.toNat) (h3 : varint_Take.f k y3 = some (n3, m3, e3) ∧ 0 ≤ m3 ∧ m3 ≤ (y3.length : Int) ∧ y4 = y3.drop m3.toNat) (h4 : varint_Take.f k y4 = some (n4, m4, e4) ∧ 0 ≤ m4 ∧ m4 ≤ (y4.length : Int) ∧ y5 = y4.drop m4.toNat) (h5 : varint_Take.f k y5 = some (n5, m5, e5) ∧ 0 ≤ m5 ∧ m5 ≤ (y5.length : Int) ∧ y6 = y5.drop m5.toNat) (h6 : varint_Take.f k y6 = some (n6, m6, e6) ∧ 0 ≤ m6 ∧ m6 ≤ (y6.length : Int) ∧ y7 = y6.drop m6.toNat) (hl2 : g2 < hs) (hl4 : g4 < hs) (hl5 : g5 < hs) (w : World) (hI : Inv6 W g2 g4 g5 y2 w) (hw : hs ≤ w.heap.size) :
    wpAnyLast Try.prog .any (opsOf Try.f16 6) Q (frame_Parse.S6 g4 g5) [] 8 #[true, true, true, false, true, false, true, false, true, false, true, false, false, false, false] ⟨(T6 a0 a2 a3 a4 a5 (.func (.func 26) #[] #[.pointer (some ⟨g5, 0, none⟩)] : Value) a11 a12 a13 a15 a16 a17 a18 undef (.func (.func 26) #[] #[.pointer (some ⟨g5, 0, none⟩)] : Value) (.int .i64 (smallF n1)) (.func (.func 26) #[] #[.pointer (some ⟨g5, 0, none⟩)] : Value) undef (.func (.func 24) #[] #[.pointer (some ⟨g4, 0, none⟩)] : Value) undef (.func (.func 26) #[] #[.pointer (some ⟨g5, 0, none⟩)] : Value) undef (.func (.func 24) #[] #[.pointer (some ⟨g4, 0, none⟩)] : Value) undef (.func (.func 26) #[] #[.pointer (some ⟨g5, 0, none⟩)] : Value) undef undef), []⟩ w := by
  refine with_tabW frame_Parse.tab6 frame_Parse.bits6 (fun HT_ HW_ => ?_)
  obtain ⟨oi, o1, o2, o3, o4⟩ : ∃ oi, (opsOf Try.f16 6)[13]? = some oi ∧ oi.op = .alloc 25 ∧ oi.dst = some 7 ∧ oi.guard = none := ⟨_, rfl, rfl, rfl, rfl⟩
  refine two_ (i := 3) (j := 13) (Ni := some 22) (Nj := some 7) #[true, true, true, true, true, false, true, false, true, false, true, false, false, false, false] #[true, true, true, false, true, false, true, false, true, false, true, false, false, true, false] rfl o1 rfl o3 (two_of HT_.out (by kernel_rfl)) (by decide) (by decide) (fun K hK => ?_) (fun K hK => ?_)
  rotate_left
  · skip
    refine value_ (w1 := w.alloc (.cells #[.int .i64 0, .int .i64 0, .int .u64 0, .int .i64 0, .int .u64 0, .int .i64 0, .int .i64 0, .int .i64 0, .slice none 0 0] 25 (0, 0))) (v := .pointer (some ⟨w.heap.size, 0, none⟩)) (by simp [Region.wanted, o4]) o3 (by simp only [execOp, o2]; go_simp) ?_
    have hI' := hI.alloc (.cells #[.int .i64 0, .int .i64 0, .int .u64 0, .int .i64 0, .int .u64 0, .int .i64 0, .int .i64 0, .int .i64 0, .slice none 0 0] 25 (0, 0))
    refine hK.out _ _ hI'.held (fun _ => ?_)
    obtain ⟨g7, hg7⟩ : ∃ g7, g7 = w.heap.size := ⟨_, rfl⟩
    rw [← hg7]
    refine norm_ (a' := ⟨(T6 a0 a2 a3 a4 a5 (.func (.func 26) #[] #[.pointer (some ⟨g5, 0, none⟩)] : Value) a11 a12 a13 a15 a16 a17 a18 (.pointer (some ⟨g7, 0, none⟩)) (.func (.func 26) #[] #[.pointer (some ⟨g5, 0, none⟩)] : Value) (.int .i64 (smallF n1)) (.func (.func 26) #[] #[.pointer (some ⟨g5, 0, none⟩)] : Value) undef (.func (.func 24) #[] #[.pointer (some ⟨g4, 0, none⟩)] : Value) undef (.func (.func 26) #[] #[.pointer (some ⟨g5, 0, none⟩)] : Value) undef (.func (.func 24) #[] #[.pointer (some ⟨g4, 0, none⟩)] : Value) undef (.func (.func 26) #[] #[.pointer (some ⟨g5, 0, none⟩)] : Value) undef undef), []⟩) (by rfl) ?_
    have hb := hI.1.size
    exact parse6_psi1 hQ hE hg4 h24 h54 h2 h3 h4 h5 h6 _ g7 hI' (by omega) (by omega) (by omega) (by omega) (by rw [hg7]; exact heap_alloc_new _ _)
  obtain ⟨q1, q2, q3, rfl⟩ := h2
  obtain ⟨HB, H2, H5, A, c, HC, Hc, H4⟩ := id hI
  · refine call_ 26 #[.pointer (some ⟨g5, 0, none⟩)] (by rfl) rfl (by kernel_rfl) ?_
    refine (frame_small k g4 g5 A c y2 n2 m2 e2 W w HC Hc HB hg4 H4 H5 q1 q2 q3).mono ?_
    rintro e w' ⟨rfl, hp⟩
    refine ⟨_, rfl, ?_⟩
    have hI' := hI.next h24 h54 hp
    refine hK.out _ _ hI'.held (fun _ => ?_)
    refine norm_ (a' := ⟨(T6 a0 a2 a3 a4 a5 (.func (.func 26) #[] #[.pointer (some ⟨g5, 0, none⟩)] : Value) a11 a12 a13 a15 a16 a17 a18 undef (.func (.func 26) #[] #[.pointer (some ⟨g5, 0, none⟩)] : Value) (.int .i64 (smallF n1)) (.func (.func 26) #[] #[.pointer (some ⟨g5, 0, none⟩)] : Value) (.int .i64 (smallF n2)) (.func (.func 24) #[] #[.pointer (some ⟨g4, 0, none⟩)] : Value) undef (.func (.func 26) #[] #[.pointer (some ⟨g5, 0, none⟩)] : Value) undef (.func (.func 24) #[] #[.pointer (some ⟨g4, 0, none⟩)] : Value) undef (.func (.func 26) #[] #[.pointer (some ⟨g5, 0, none⟩)] : Value) undef undef), []⟩) (by rfl) ?_
    exact parse6_phi2 hQ hE hg4 h24 h54 h3 h4 h5 h6 hl2 hl4 hl5 w' hI' (Nat.le_trans hw (hp.size))
set_option maxHeartbeats 1000000 in
set_option maxRecDepth 100000 in
theorem parse6_phi0 {hs : Nat} (hQ : ∀ c (a : Act) w (N : Option Tmp) v, Q (.panic c) (a.put N v) w → Q (.panic c) a w) (hE : ∀ w' g7, Inv6 W g2 g4 g5 y7 w' → W.heap.size ≤ g7 → g7 ≠ g2 → g7 ≠ g4 → g7 ≠ g5 → w'.heap[g7]? = some (.cells #[.int .i64 (smallF n1), .int .i64 (smallF n2), .int .u64 n3, .int .i64 (smallF n4), .int .u64 n5, .int .i64 (smallF n6), .int .i64 0, .int .i64 0, .slice none 0 0] 25 (0, 0)) → Q .normal ⟨(T6 a0 a2 a3 a4 a5 (.func (.func 26) #[] #[.pointer (some ⟨g5, 0, none⟩)] : Value) a11 a12 a13 a15 a16 a17 a18 (.pointer (some ⟨g7, 0, none⟩)) (.func (.func 26) #[] #[.pointer (some ⟨g5, 0, none⟩)] : Value) (.int .i64 (smallF n1)) (.func (.func 26) #[] #[.pointer (some ⟨g5, 0, none⟩)] : Value) (.int .i64 (smallF n2)) (.func (.func 24) #[] #[.pointer (some ⟨g4, 0, none⟩)] : Value) (.int .u64 n3) (.func (.func 26) #[] #[.pointer (some ⟨g5, 0, none⟩)] : Value) (.int .i64 (smallF n4)) (.func (.func 24) #[] #[.pointer (some ⟨g4, 0, none⟩)] : Value) (.int .u64 n5) (.func (.func 26) #[] #[.pointer (some ⟨g5, 0, none⟩)] : Value) (.int .i64 (smallF n6)) (.agg #[.int .i64 (smallF n1), .int .i64 (smallF n2), .int .u64 n3, .int .i64 (smallF n4), .int .u64 n5, .int .i64 (smallF n6), .int .i64 0, .int .i64 0, .slice none 0 0])), []⟩ w') (hg4 : W.heap.size ≤ g4) (h24 : g2 ≠ g4) (h54 : g5 ≠ g4) (h1 : varint_Take.f k y1 = some (n1, m1, e1) ∧ 0 ≤ m1 ∧ m1 ≤ (y1.length : Int) ∧ y2 = y1.drop m1.toNat) (h2 : varint_Take.f k y2 = some (n2, m2, e2) ∧ 0 ≤ m2 ∧ m2 ≤ (y2.length : Int) ∧ y3 = y2.drop m2.toNat) (h3 : varint_Take.f k y3 = some (n3, m3, e3) ∧ 0 ≤ m3 ∧ m3 ≤ (y3.length : Int) ∧ y4 = y3.drop m3.toNat) (h4 : varint_Take.f k y4 = some (n4, m4, e4) ∧ 0 ≤ m4 ∧ m4 ≤ (y4.length : Int) ∧ y5 = y4.drop m4.toNat) (h5 : varint_Take.f k y5 = some (n5, m5, e5) ∧ 0 ≤ m5 ∧ m5 ≤ (y5.length : Int) ∧ y6 = y5.drop m5.toNat) (h6 : varint_Take.f k y6 = some (n6, m6, e6) ∧ 0 ≤ m6 ∧ m6 ≤ (y6.length : Int) ∧ y7 = y6.drop m6.toNat) (hl2 : g2 < hs) (hl4 : g4 < hs) (hl5 : g5 < hs) (w : World) (hI : Inv6 W g2 g4 g5 y1 w) (hw : hs ≤ w.heap.size) :
    wpAnyLast Try.prog .any (opsOf Try.f16 6) Q (frame_Parse.S6 g4 g5) [] 9 #[true, false, true, false, true, false, true, false, true, false, true, false, false, false, false] ⟨(T6 a0 a2 a3 a4 a5 (.func (.func 26) #[] #[.pointer (some ⟨g5, 0, none⟩)] : Value) a11 a12 a13 a15 a16 a17 a18 undef (.func (.func 26) #[] #[.pointer (some ⟨g5, 0, none⟩)] : Value) undef (.func (.func 26) #[] #[.pointer (some ⟨g5, 0, none⟩)] : Value) undef (.func (.func 24) #[] #[.pointer (some ⟨g4, 0, none⟩)] : Value) undef (.func (.func 26) #[] #[.pointer (some ⟨g5, 0, none⟩)] : Value) undef (.func (.func 24) #[] #[.pointer (some ⟨g4, 0, none⟩)] : Value) undef (.func (.func 26) #[] #[.pointer (some ⟨g5, 0, none⟩)] : Value) undef undef), []⟩ w := by
  refine with_tabW frame_Parse.tab6 frame_Parse.bits6 (fun HT_ HW_ => ?_)
  obtain ⟨oi, o1, o2, o3, o4⟩ : ∃ oi, (opsOf Try.f16 6)[13]? = some oi ∧ oi.op = .alloc 25 ∧ oi.dst = some 7 ∧ oi.guard = none := ⟨_, rfl, rfl, rfl, rfl⟩
  refine two_ (i := 1) (j := 13) (Ni := some 20) (Nj := some 7) #[true, true, true, false, true, false, true, false, true, false, true, false, false, false, false] #[true, false, true, false, true, false, true, false, true, false, true, false, false, true, false] rfl o1 rfl o3 (two_of HT_.out (by kernel_rfl)) (by decide) (by decide) (fun K hK => ?_) (fun K hK => ?_)
  rotate_left
  · skip
    refine value_ (w1 := w.alloc (.cells #[.int .i64 0, .int .i64 0, .int .u64 0, .int .i64 0, .int .u64 0, .int .i64 0, .int .i64 0, .int .i64 0, .slice none 0 0] 25 (0, 0))) (v := .pointer (some ⟨w.heap.size, 0, none⟩)) (by simp [Region.wanted, o4]) o3 (by simp only [execOp, o2]; go_simp) ?_
    have hI' := hI.alloc (.cells #[.int .i64 0, .int .i64 0, .int .u64 0, .int .i64 0, .int .u64 0, .int .i64 0, .int .i64 0, .int .i64 0, .slice none 0 0] 25 (0, 0))
    refine hK.out _ _ hI'.held (fun _ => ?_)
    obtain ⟨g7, hg7⟩ : ∃ g7, g7 = w.heap.size := ⟨_, rfl⟩
    rw [← hg7]
    refine norm_ (a' := ⟨(T6 a0 a2 a3 a4 a5 (.func (.func 26) #[] #[.pointer (some ⟨g5, 0, none⟩)] : Value) a11 a12 a13 a15 a16 a17 a18 (.pointer (some ⟨g7, 0, none⟩)) (.func (.func 26) #[] #[.pointer (some ⟨g5, 0, none⟩)] : Value) undef (.func (.func 26) #[] #[.pointer (some ⟨g5, 0, none⟩)] : Value) undef (.func (.func 24) #[] #[.pointer (some ⟨g4, 0, none⟩)] : Value) undef (.func (.func 26) #[] #[.pointer (some ⟨g5, 0, none⟩)] : Value) undef (.func (.func 24) #[] #[.pointer (some ⟨g4, 0, none⟩)] : Value) undef (.func (.func 26) #[] #[.pointer (some ⟨g5, 0, none⟩)] : Value) undef undef), []⟩) (by rfl) ?_
    have hb := hI.1.size
    exact parse6_psi0 hQ hE hg4 h24 h54 h1 h2 h3 h4 h5 h6 _ g7 hI' (by omega) (by omega) (by omega) (by omega) (by rw [hg7]; exact heap_alloc_new _ _)
  obtain ⟨q1, q2, q3, rfl⟩ := h1
  obtain ⟨HB, H2, H5, A, c, HC, Hc, H4⟩ := id hI
  · refine call_ 26 #[.pointer (some ⟨g5, 0, none⟩)] (by rfl) rfl (by kernel_rfl) ?_
    refine (frame_small k g4 g5 A c y1 n1 m1 e1 W w HC Hc HB hg4 H4 H5 q1 q2 q3).mono ?_
    rintro e w' ⟨rfl, hp⟩
    refine ⟨_, rfl, ?_⟩
    have hI' := hI.next h24 h54 hp
    refine hK.out _ _ hI'.held (fun _ => ?_)
    refine norm_ (a' := ⟨(T6 a0 a2 a3 a4 a5 (.func (.func 26) #[] #[.pointer (some ⟨g5, 0, none⟩)] : Value) a11 a12 a13 a15 a16 a17 a18 undef (.func (.func 26) #[] #[.pointer (some ⟨g5, 0, none⟩)] : Value) (.int .i64 (smallF n1)) (.func (.func 26) #[] #[.pointer (some ⟨g5, 0, none⟩)] : Value) undef (.func (.func 24) #[] #[.pointer (some ⟨g4, 0, none⟩)] : Value) undef (.func (.func 26) #[] #[.pointer (some ⟨g5, 0, none⟩)] : Value) undef (.func (.func 24) #[] #[.pointer (some ⟨g4, 0, none⟩)] : Value) undef (.func (.func 26) #[] #[.pointer (some ⟨g5, 0, none⟩)] : Value) undef undef), []⟩) (by rfl) ?_
    exact parse6_phi1 hQ hE hg4 h24 h54 h2 h3 h4 h5 h6 hl2 hl4 hl5 w' hI' (Nat.le_trans hw (hp.size))
set_option maxHeartbeats 1000000 in
set_option maxRecDepth 100000 in
theorem parse6_all {hs : Nat} (hQ : ∀ c (a : Act) w (N : Option Tmp) v, Q (.panic c) (a.put N v) w → Q (.panic c) a w) (hE : ∀ w' g7, Inv6 W g2 g4 g5 y7 w' → W.heap.size ≤ g7 → g7 ≠ g2 → g7 ≠ g4 → g7 ≠ g5 → w'.heap[g7]? = some (.cells #[.int .i64 (smallF n1), .int .i64 (smallF n2), .int .u64 n3, .int .i64 (smallF n4), .int .u64 n5, .int .i64 (smallF n6), .int .i64 0, .int .i64 0, .slice none 0 0] 25 (0, 0)) → Q .normal ⟨(T6 a0 a2 a3 a4 (.pointer (some ⟨g5, 0, none⟩) : Value) (.func (.func 26) #[] #[.pointer (some ⟨g5, 0, none⟩)] : Value) a11 a12 a13 a15 a16 a17 a18 (.pointer (some ⟨g7, 0, none⟩)) (.func (.func 26) #[] #[.pointer (some ⟨g5, 0, none⟩)] : Value) (.int .i64 (smallF n1)) (.func (.func 26) #[] #[.pointer (some ⟨g5, 0, none⟩)] : Value) (.int .i64 (smallF n2)) (.func (.func 24) #[] #[.pointer (some ⟨g4, 0, none⟩)] : Value) (.int .u64 n3) (.func (.func 26) #[] #[.pointer (some ⟨g5, 0, none⟩)] : Value) (.int .i64 (smallF n4)) (.func (.func 24) #[] #[.pointer (some ⟨g4, 0, none⟩)] : Value) (.int .u64 n5) (.func (.func 26) #[] #[.pointer (some ⟨g5, 0, none⟩)] : Value) (.int .i64 (smallF n6)) (.agg #[.int .i64 (smallF n1), .int .i64 (smallF n2), .int .u64 n3, .int .i64 (smallF n4), .int .u64 n5, .int .i64 (smallF n6), .int .i64 0, .int .i64 0, .slice none 0 0])), []⟩ w') (hg4 : W.heap.size ≤ g4) (h24 : g2 ≠ g4) (h54 : g5 ≠ g4) (h1 : varint_Take.f k y1 = some (n1, m1, e1) ∧ 0 ≤ m1 ∧ m1 ≤ (y1.length : Int) ∧ y2 = y1.drop m1.toNat) (h2 : varint_Take.f k y2 = some (n2, m2, e2) ∧ 0 ≤ m2 ∧ m2 ≤ (y2.length : Int) ∧ y3 = y2.drop m2.toNat) (h3 : varint_Take.f k y3 = some (n3, m3, e3) ∧ 0 ≤ m3 ∧ m3 ≤ (y3.length : Int) ∧ y4 = y3.drop m3.toNat) (h4 : varint_Take.f k y4 = some (n4, m4, e4) ∧ 0 ≤ m4 ∧ m4 ≤ (y4.length : Int) ∧ y5 = y4.drop m4.toNat) (h5 : varint_Take.f k y5 = some (n5, m5, e5) ∧ 0 ≤ m5 ∧ m5 ≤ (y5.length : Int) ∧ y6 = y5.drop m5.toNat) (h6 : varint_Take.f k y6 = some (n6, m6, e6) ∧ 0 ≤ m6 ∧ m6 ≤ (y6.length : Int) ∧ y7 = y6.drop m6.toNat) (hl2 : g2 < hs) (hl4 : g4 < hs) (hl5 : g5 < hs) (w : World) (hI : Inv6 W g2 g4 g5 y1 w) (hw : hs ≤ w.heap.size) :
    wpAnyLast Try.prog .any (opsOf Try.f16 6) Q (frame_Parse.S6 g4 g5) [] 15 #[false, false, false, false, false, false, false, false, false, false, false, false, false, false, false] ⟨(T6 a0 a2 a3 a4 (.pointer (some ⟨g5, 0, none⟩) : Value) (.func (.func 26) #[] #[.pointer (some ⟨g5, 0, none⟩)] : Value) a11 a12 a13 a15 a16 a17 a18 undef undef undef undef undef undef undef undef undef undef undef undef undef undef), []⟩ w := by
  refine with_tabW frame_Parse.tab6 frame_Parse.bits6 (fun HT_ HW_ => ?_)
  refine pure_ (i := 0) (N := some 19) (v := (.func (.func 26) #[] #[.pointer (some ⟨g5, 0, none⟩)] : Value)) (a' := ⟨(T6 a0 a2 a3 a4 (.pointer (some ⟨g5, 0, none⟩) : Value) (.func (.func 26) #[] #[.pointer (some ⟨g5, 0, none⟩)] : Value) a11 a12 a13 a15 a16 a17 a18 undef (.func (.func 26) #[] #[.pointer (some ⟨g5, 0, none⟩)] : Value) undef undef undef undef undef undef undef undef undef undef undef undef), []⟩) #[true, false, false, false, false, false, false, false, false, false, false, false, false, false, false] rfl rfl (any_of HT_.out (by kernel_rfl)) (fun c a w h => hQ c a w _ _ h) (Or.inl ⟨by rfl, fun w' => by kernel_rfl⟩) (by rfl) ?_
  refine pure_ (i := 2) (N := some 21) (v := (.func (.func 26) #[] #[.pointer (some ⟨g5, 0, none⟩)] : Value)) (a' := ⟨(T6 a0 a2 a3 a4 (.pointer (some ⟨g5, 0, none⟩) : Value) (.func (.func 26) #[] #[.pointer (some ⟨g5, 0, none⟩)] : Value) a11 a12 a13 a15 a16 a17 a18 undef (.func (.func 26) #[] #[.pointer (some ⟨g5, 0, none⟩)] : Value) undef (.func (.func 26) #[] #[.pointer (some ⟨g5, 0, none⟩)] : Value) undef undef undef undef undef undef undef undef undef undef), []⟩) #[true, false, true, false, false, false, false, false, false, false, false, false, false, false, false] rfl rfl (any_of HT_.out (by kernel_rfl)) (fun c a w h => hQ c a w _ _ h) (Or.inl ⟨by rfl, fun w' => by kernel_rfl⟩) (by rfl) ?_
  have hx4 : Act.eval ⟨(T6 a0 a2 a3 a4 (.pointer (some ⟨g5, 0, none⟩) : Value) (.func (.func 26) #[] #[.pointer (some ⟨g5, 0, none⟩)] : Value) a11 a12 a13 a15 a16 a17 a18 undef (.func (.func 26) #[] #[.pointer (some ⟨g5, 0, none⟩)] : Value) undef (.func (.func 26) #[] #[.pointer (some ⟨g5, 0, none⟩)] : Value) undef undef undef undef undef undef undef undef undef undef), []⟩ (.tmp 5) = .pointer (some ⟨g5, 0, none⟩) := rfl
  obtain ⟨oi4, o14, o24, o34, o44⟩ : ∃ oi, (opsOf Try.f16 6)[4]? = some oi ∧ oi.op = .load 45 (.tmp 5) ∧ oi.dst = some 23 ∧ oi.guard = none := ⟨_, rfl, rfl, rfl, rfl⟩
  refine take_ (i := 4) (N := some 23) (v := (.func (.func 24) #[] #[.pointer (some ⟨g4, 0, none⟩)] : Value)) (a' := ⟨(T6 a0 a2 a3 a4 (.pointer (some ⟨g5, 0, none⟩) : Value) (.func (.func 26) #[] #[.pointer (some ⟨g5, 0, none⟩)] : Value) a11 a12 a13 a15 a16 a17 a18 undef (.func (.func 26) #[] #[.pointer (some ⟨g5, 0, none⟩)] : Value) undef (.func (.func 26) #[] #[.pointer (some ⟨g5, 0, none⟩)] : Value) undef (.func (.func 24) #[] #[.pointer (some ⟨g4, 0, none⟩)] : Value) undef undef undef undef undef undef undef undef), []⟩) #[true, false, true, false, true, false, false, false, false, false, false, false, false, false, false] o14 o34 (take_ofW HT_.out HW_.out (by kernel_rfl)) (fun c a w h => hQ c a w _ _ h) (Or.inl ⟨by simp [Region.wanted, o44], ?_⟩) hI.held (by rfl) ?_
  · intro w' s0
    have s1 : w'.cell? ⟨g5, 0, none⟩ = some (.func (.func 24) #[] #[.pointer (some ⟨g4, 0, none⟩)] : Value) := s0
    clear s0
    simp only [execOp, o24, hx4]
    go_simp
  refine pure_ (i := 6) (N := some 25) (v := (.func (.func 26) #[] #[.pointer (some ⟨g5, 0, none⟩)] : Value)) (a' := ⟨(T6 a0 a2 a3 a4 (.pointer (some ⟨g5, 0, none⟩) : Value) (.func (.func 26) #[] #[.pointer (some ⟨g5, 0, none⟩)] : Value) a11 a12 a13 a15 a16 a17 a18 undef (.func (.func 26) #[] #[.pointer (some ⟨g5, 0, none⟩)] : Value) undef (.func (.func 26) #[] #[.pointer (some ⟨g5, 0, none⟩)] : Value) undef (.func (.func 24) #[] #[.pointer (some ⟨g4, 0, none⟩)] : Value) undef (.func (.func 26) #[] #[.pointer (some ⟨g5, 0, none⟩)] : Value) undef undef undef undef undef undef), []⟩) #[true, false, true, false, true, false, true, false, false, false, false, false, false, false, false] rfl rfl (any_of HT_.out (by kernel_rfl)) (fun c a w h => hQ c a w _ _ h) (Or.inl ⟨by rfl, fun w' => by kernel_rfl⟩) (by rfl) ?_
  have hx8 : Act.eval ⟨(T6 a0 a2 a3 a4 (.pointer (some ⟨g5, 0, none⟩) : Value) (.func (.func 26) #[] #[.pointer (some ⟨g5, 0, none⟩)] : Value) a11 a12 a13 a15 a16 a17 a18 undef (.func (.func 26) #[] #[.pointer (some ⟨g5, 0, none⟩)] : Value) undef (.func (.func 26) #[] #[.pointer (some ⟨g5, 0, none⟩)] : Value) undef (.func (.func 24) #[] #[.pointer (some ⟨g4, 0, none⟩)] : Value) undef (.func (.func 26) #[] #[.pointer (some ⟨g5, 0, none⟩)] : Value) undef undef undef undef undef undef), []⟩ (.tmp 5) = .pointer (some ⟨g5, 0, none⟩) := rfl
  obtain ⟨oi8, o18, o28, o38, o48⟩ : ∃ oi, (opsOf Try.f16 6)[8]? = some oi ∧ oi.op = .load 45 (.tmp 5) ∧ oi.dst = some 27 ∧ oi.guard = none := ⟨_, rfl, rfl, rfl, rfl⟩
  refine take_ (i := 8) (N := some 27) (v := (.func (.func 24) #[] #[.pointer (some ⟨g4, 0, none⟩)] : Value)) (a' := ⟨(T6 a0 a2 a3 a4 (.pointer (some ⟨g5, 0, none⟩) : Value) (.func (.func 26) #[] #[.pointer (some ⟨g5, 0, none⟩)] : Value) a11 a12 a13 a15 a16 a17 a18 undef (.func (.func 26) #[] #[.pointer (some ⟨g5, 0, none⟩)] : Value) undef (.func (.func 26) #[] #[.pointer (some ⟨g5, 0, none⟩)] : Value) undef (.func (.func 24) #[] #[.pointer (some ⟨g4, 0, none⟩)] : Value) undef (.func (.func 26) #[] #[.pointer (some ⟨g5, 0, none⟩)] : Value) undef (.func (.func 24) #[] #[.pointer (some ⟨g4, 0, none⟩)] : Value) undef undef undef undef), []⟩) #[true, false, true, false, true, false, true, false, true, false, false, false, false, false, false] o18 o38 (take_ofW HT_.out HW_.out (by kernel_rfl)) (fun c a w h => hQ c a w _ _ h) (Or.inl ⟨by simp [Region.wanted, o48], ?_⟩) hI.held (by rfl) ?_
  · intro w' s0
    have s1 : w'.cell? ⟨g5, 0, none⟩ = some (.func (.func 24) #[] #[.pointer (some ⟨g4, 0, none⟩)] : Value) := s0
    clear s0
    simp only [execOp, o28, hx8]
    go_simp
  refine pure_ (i := 10) (N := some 29) (v := (.func (.func 26) #[] #[.pointer (some ⟨g5, 0, none⟩)] : Value)) (a' := ⟨(T6 a0 a2 a3 a4 (.pointer (some ⟨g5, 0, none⟩) : Value) (.func (.func 26) #[] #[.pointer (some ⟨g5, 0, none⟩)] : Value) a11 a12 a13 a15 a16 a17 a18 undef (.func (.func 26) #[] #[.pointer (some ⟨g5, 0, none⟩)] : Value) undef (.func (.func 26) #[] #[.pointer (some ⟨g5, 0, none⟩)] : Value) undef (.func (.func 24) #[] #[.pointer (some ⟨g4, 0, none⟩)] : Value) undef (.func (.func 26) #[] #[.pointer (some ⟨g5, 0, none⟩)] : Value) undef (.func (.func 24) #[] #[.pointer (some ⟨g4, 0, none⟩)] : Value) undef (.func (.func 26) #[] #[.pointer (some ⟨g5, 0, none⟩)] : Value) undef undef), []⟩) #[true, false, true, false, true, false, true, false, true, false, true, false, false, false, false] rfl rfl (any_of HT_.out (by kernel_rfl)) (fun c a w h => hQ c a w _ _ h) (Or.inl ⟨by rfl, fun w' => by kernel_rfl⟩) (by rfl) ?_
  exact parse6_phi0 hQ hE hg4 h24 h54 h1 h2 h3 h4 h5 h6 hl2 hl4 hl5 w hI hw
end
def ParsePost (ok : Bool) (f0 f1 f2 f3 f4 f5 f6 f7 : Int) (p : List Int) (w : World) (e : Ending) (w' : World) : Prop := match ok with
  | true => ∃ v9_ : Value, e = .returned (.tuple #[.agg #[.int .i64 f0, .int .i64 f1, .int .u64 f2, .int .i64 f3, .int .u64 f4, .int .i64 f5, .int .i64 f6, .int .i64 f7, v9_], .int .i64 0]) ∧ Kd.R (Kd.int .u8) 5 w' w.heap.size (fun _ => True) v9_ p ∧ Below w.heap.size w w'
  | false => ∃ v9_ : Value, e = .returned (.tuple #[.agg #[.int .i64 0, .int .i64 0, .int .u64 0, .int .i64 0, .int .u64 0, .int .i64 0, .int .i64 0, .int .i64 0, v9_], .int .i64 2]) ∧ Kd.R (Kd.int .u8) 5 w' w.heap.size (fun _ => True) v9_ ([] : List Int) ∧ Below w.heap.size w w'
def roomF (n : Int) (len : Nat) : Int := mn n (IntKind.u64.wrap (mx (wrap64 ((len : Int) - 4)) 0))
/-- The same, and the frame's variable. -/
def Inv7 (W : World) (g2 g4 g5 g7 : Nat) (cs : Array Value) (y : List Int) (w : World) : Prop := Inv6 W g2 g4 g5 y w ∧ (W.heap.size ≤ g4 ∧ g2 ≠ g4 ∧ g5 ≠ g4) ∧ (W.heap.size ≤ g7 ∧ g7 ≠ g2 ∧ g7 ≠ g4 ∧ g7 ≠ g5) ∧ w.heap[g7]? = some (.cells cs 25 (0, 0))
section
variable {k : Nat} {W : World} {g2 g4 g5 g7 : Nat} {cs : Array Value} {y y' : List Int} {w : World} {n m e : Int}
theorem Inv7.next (h : Inv7 W g2 g4 g5 g7 cs y w) {w' : World} (hp : NextPost y' g4 W w w') : Inv7 W g2 g4 g5 g7 cs y' w' := by
  obtain ⟨h1, ⟨a1, a2, a3⟩, ⟨b1, b2, b3, b4⟩, h4⟩ := h
  have h5 := h1.next a2 a3 hp
  obtain ⟨_, _, _, _, _, P4, _⟩ := hp
  exact ⟨h5, ⟨a1, a2, a3⟩, ⟨b1, b2, b3, b4⟩, P4.blk h4 b3 (by simp)⟩
theorem Inv7.call_next (h : Inv7 W g2 g4 g5 g7 cs y w) (hk : varint_Take.f k y = some (n, m, e) ∧ 0 ≤ m ∧ m ≤ (y.length : Int) ∧ y' = y.drop m.toNat) :
    Calls Try.prog 24 #[.pointer (some ⟨g4, 0, none⟩)] w fun en w' => en = .returned (.int .u64 n) ∧ Inv7 W g2 g4 g5 g7 cs y' w' := by
  obtain ⟨q1, q2, q3, rfl⟩ := hk
  obtain ⟨HB, H2, H5, A, c, HC, Hc, H4⟩ := h.1
  exact (frame_next k g4 A c y n m e W w HC Hc HB h.2.1.1 H4 q1 q2 q3).mono fun en w' ⟨he, hp⟩ => ⟨he, h.next hp⟩
theorem Inv7.call_small (h : Inv7 W g2 g4 g5 g7 cs y w) (hk : varint_Take.f k y = some (n, m, e) ∧ 0 ≤ m ∧ m ≤ (y.length : Int) ∧ y' = y.drop m.toNat) :
    Calls Try.prog 26 #[.pointer (some ⟨g5, 0, none⟩)] w fun en w' => en = .returned (.int .i64 (smallF n)) ∧ Inv7 W g2 g4 g5 g7 cs y' w' := by
  obtain ⟨q1, q2, q3, rfl⟩ := hk
  obtain ⟨HB, H2, H5, A, c, HC, Hc, H4⟩ := h.1
  exact (frame_small k g4 g5 A c y n m e W w HC Hc HB h.2.1.1 H4 H5 q1 q2 q3).mono fun en w' ⟨he, hp⟩ => ⟨he, h.next hp⟩
theorem Inv7.set_ (h : Inv7 W g2 g4 g5 g7 cs y w) (j : Nat) (u : Value) {cs' : Array Value} (hc : cs.setIfInBounds j u = cs') : Inv7 W g2 g4 g5 g7 cs' y (w.setCell ⟨g7, j, none⟩ u) := by
  obtain ⟨h1, ⟨a1, a2, a3⟩, ⟨b1, b2, b3, b4⟩, h4⟩ := h
  subst hc
  exact ⟨h1.set_ b1 b2.symm b3.symm b4.symm j u, ⟨a1, a2, a3⟩, ⟨b1, b2, b3, b4⟩, blk_set h4 j u⟩
theorem Inv7.below (h : Inv7 W g2 g4 g5 g7 cs y w) {w' : World} (hb : Below w.heap.size w w') : Inv7 W g2 g4 g5 g7 cs y w' := by
  obtain ⟨⟨H1, H2, H3, A, c, H4, H5, H6⟩, ha, hb7, h4⟩ := h
  exact ⟨⟨H1.trans (hb.mono H1.size), blk_below H2 hb, blk_below H3 hb, A, c, H4, H5, blk_below H6 hb⟩, ha, hb7, blk_below h4 hb⟩
end
set_option maxHeartbeats 4000000 in
set_option maxRecDepth 100000 in
theorem parse_main (k : Nat) (A0 : Option Addr) (c0 : Nat) (l0 : List Int) (w : World) (hr0 : Kd.C (Kd.int .u8) w A0 l0.length l0) (hc0 : l0.length ≤ c0) (hl : ¬ (l0.length : Int) < 5)
    {n1 n2 n3 n4 n5 n6 n7 n8 n9 m1 m2 m3 m4 m5 m6 m7 m8 m9 e1 e2 e3 e4 e5 e6 e7 e8 e9 eb : Int} {y1 y2 y3 y4 y5 y6 y7 y8 y9 y10 p b : List Int} {q : Bool} (hy : y1 = l0.drop 1)
    (h1 : varint_Take.f k y1 = some (n1, m1, e1) ∧ 0 ≤ m1 ∧ m1 ≤ (y1.length : Int) ∧ y2 = y1.drop m1.toNat) (h2 : varint_Take.f k y2 = some (n2, m2, e2) ∧ 0 ≤ m2 ∧ m2 ≤ (y2.length : Int) ∧ y3 = y2.drop m2.toNat) (h3 : varint_Take.f k y3 = some (n3, m3, e3) ∧ 0 ≤ m3 ∧ m3 ≤ (y3.length : Int) ∧ y4 = y3.drop m3.toNat) (h4 : varint_Take.f k y4 = some (n4, m4, e4) ∧ 0 ≤ m4 ∧ m4 ≤ (y4.length : Int) ∧ y5 = y4.drop m4.toNat) (h5 : varint_Take.f k y5 = some (n5, m5, e5) ∧ 0 ≤ m5 ∧ m5 ≤ (y5.length : Int) ∧ y6 = y5.drop m5.toNat) (h6 : varint_Take.f k y6 = some (n6, m6, e6) ∧ 0 ≤ m6 ∧ m6 ≤ (y6.length : Int) ∧ y7 = y6.drop m6.toNat) (h7 : varint_Take.f k y7 = some (n7, m7, e7) ∧ 0 ≤ m7 ∧ m7 ≤ (y7.length : Int) ∧ y8 = y7.drop m7.toNat) (h8 : varint_Take.f k y8 = some (n8, m8, e8) ∧ 0 ≤ m8 ∧ m8 ≤ (y8.length : Int) ∧ y9 = y8.drop m8.toNat) (h9 : varint_Take.f k y9 = some (n9, m9, e9) ∧ 0 ≤ m9 ∧ m9 ≤ (y9.length : Int) ∧ y10 = y9.drop m9.toNat) (hr1 : 0 ≤ roomF n9 y10.length) (hr2 : roomF n9 y10.length ≤ (y10.length : Int)) (hp : slices_Clone_byte_byte.f (y10.take (roomF n9 y10.length).toNat) = some p)
    (hb : frame_Build.f k (smallF n1) (smallF n2) n3 (smallF n4) n5 (smallF n6) (timeF n7) (smallF n8) p = some (b, eb)) (hq : bytes_Equal.f b l0 = some q) :
    Calls Try.prog 16 #[.slice A0 l0.length c0] w (ParsePost (eb == 0 && q) (smallF n1) (smallF n2) n3 (smallF n4) n5 (smallF n6) (timeF n7) (smallF n8) p w) := by
  have hu25 := Try.underlying25
  have HR := Aside0.mk hr0
  have HC := Aside0.mk hc0
  have t1 : decide ((l0.length : Int) < 5) = false := decide_eq_false hl
  obtain ⟨i0, hi0, _, hsz, _⟩ := info_parts info5
  have hcut := cut_from (P := Try.prog) 23 5 .i64 Try.underlying23 hi0 1 hsz A0 l0.length c0 1 (by omega) (by omega)
  have HINF := Aside0.mk hi0
  have hCd := Kd.C_drop (m := 1) hr0 (by omega) hc0
  rw [show (Kd.int IntKind.u8).sz = 1 from rfl] at hCd
  have hl1 : (l0.drop 1).length = l0.length - 1 := List.length_drop
  have hl2 : y1.length ≤ c0 - 1 := by rw [hy]; omega
  rw [show (1 : Int).toNat = 1 from rfl, ← hl1] at hcut
  obtain ⟨A1, hA1⟩ : ∃ A', A' = (if c0 = 1 then A0 else A0.map (·.add (1 * 1))) := ⟨_, rfl⟩
  rw [← hA1, ← hy] at hcut hCd
  have HI : Aside0 (Inv6 w w.heap.size (w.heap.size + 1) (w.heap.size + 1 + 1) y1 (((w.alloc (.cells #[.int .i64 0, .int .i64 0, .int .u64 0, .int .i64 0, .int .u64 0, .int .i64 0, .int .i64 0, .int .i64 0, .slice none 0 0] 25 (0, 0))).alloc (.cells #[.slice A1 y1.length (c0 - 1)] 23)).alloc (.cells #[.func (.func 24) #[] #[.pointer (some ⟨w.heap.size + 1, 0, none⟩)]] 45)).drew) := ⟨by
    have s1 : (w.alloc (.cells #[.int .i64 0, .int .i64 0, .int .u64 0, .int .i64 0, .int .u64 0, .int .i64 0, .int .i64 0, .int .i64 0, .slice none 0 0] 25 (0, 0))).heap.size = w.heap.size + 1 := by simp
    have s2 : ((w.alloc (.cells #[.int .i64 0, .int .i64 0, .int .u64 0, .int .i64 0, .int .u64 0, .int .i64 0, .int .i64 0, .int .i64 0, .slice none 0 0] 25 (0, 0))).alloc (.cells #[.slice A1 y1.length (c0 - 1)] 23)).heap.size = w.heap.size + 1 + 1 := by simp
    refine ⟨below_drew1 (below_alloc (below_alloc (below_alloc (Below.refl _ _) _) _) _), blk_drew (blk_alloc (blk_alloc (heap_alloc_new _ _) _) _), blk_drew (by rw [← s2]; exact heap_alloc_new _ _), A1, c0 - 1, hCd, hl2, blk_drew (blk_alloc (by rw [← s1]; exact heap_alloc_new _ _) _)⟩⟩
  have H1 := Aside0.mk h1
  have H2 := Aside0.mk h2
  have H3 := Aside0.mk h3
  have H4 := Aside0.mk h4
  have H5 := Aside0.mk h5
  have H6 := Aside0.mk h6
  have H7 := Aside0.mk h7
  have H8 := Aside0.mk h8
  have H9 := Aside0.mk h9
  have HR1 := Aside0.mk hr1
  have HR2 := Aside0.mk hr2
  have HP := Aside0.mk hp
  have HBD := Aside0.mk hb
  have HQ := Aside0.mk hq
  clear h1 h2 h3 h4 h5 h6 h7 h8 h9 hr1 hr2 hp hb hq
  clear hr0 hc0 hi0 hsz hCd hl1 hl2 hA1 hl hy
  go_enter Try.func16, Try.ntmps16
  go_wp2_with fail
  refine start_ (n := 15) (S := frame_Parse.S6 (w.heap.size + 1) (w.heap.size + 1 + 1)) (ds := []) #[false, false, false, false, false, false, false, false, false, false, false, false, false, false, false] (by kernel_rfl) rfl rfl HI.out.held (fun _ => ?_)
  refine parse6_all (hs := w.heap.size + 1 + 1 + 1) (k := k) (W := w) (fun _ _ _ N _ h => by cases N <;> exact h) ?_ (by omega) (by omega) (by omega) H1.out H2.out H3.out H4.out H5.out H6.out (by omega) (by omega) (by omega) _ HI.out (by simp)
  clear HI
  intro w6 g7 hI hg i2 i4 i5 hz
  have hJ : Inv7 w w.heap.size (w.heap.size + 1) (w.heap.size + 1 + 1) g7 _ y7 w6 := ⟨hI, ⟨by omega, by omega, by omega⟩, ⟨hg, i2, i4, i5⟩, hz⟩
  have HI := Aside0.mk hJ
  have c1 := blk_cell hI.2.2.1 0
  unfold T6
  clear hI hz hJ hg i2 i4 i5
  go_wp2_with fail
  refine (HI.out.call_next H7.out).mono ?_
  rintro e w7 ⟨rfl, hI⟩
  clear HI c1
  have HI := Aside0.mk hI
  have c1 := blk_cell hI.1.2.2.1 0
  clear hI
  go_wp2_with fail
  refine (HI.out.call_small H8.out).mono ?_
  rintro e w8 ⟨rfl, hI⟩
  clear HI c1
  have HI := Aside0.mk hI
  have c1 := blk_cell hI.1.2.2.1 0
  have d6 := blk_cell hI.2.2.2 6
  have d7 := blk_cell hI.2.2.2 7
  have f6 := blk_frozen hI.2.2.2 6
  have f7 := blk_frozen hI.2.2.2 7
  have HJ := Aside0.mk ((hI.set_ 6 (.int .i64 (timeF n7)) (cs' := #[.int .i64 (smallF n1), .int .i64 (smallF n2), .int .u64 n3, .int .i64 (smallF n4), .int .u64 n5, .int .i64 (smallF n6), .int .i64 (timeF n7), .int .i64 0, .slice none 0 0]) rfl).set_ 7 (.int .i64 (smallF n8)) (cs' := #[.int .i64 (smallF n1), .int .i64 (smallF n2), .int .u64 n3, .int .i64 (smallF n4), .int .u64 n5, .int .i64 (smallF n6), .int .i64 (timeF n7), .int .i64 (smallF n8), .slice none 0 0]) rfl)
  have c2 := blk_cell HJ.out.1.2.2.1 0
  unfold timeF at c2
  clear hI HI
  go_wp2_with fail
  refine (HJ.out.call_next H9.out).mono ?_
  rintro e w9 ⟨rfl, hI⟩
  clear HJ c1 c2 d6 d7 f6 f7
  have HI := Aside0.mk hI
  obtain ⟨_, _, _, A4, c4, HC4, Hc4, H44⟩ := hI.1
  have c4x := blk_cell H44 0
  have d8 := blk_cell hI.2.2.2 8
  have f8 := blk_frozen hI.2.2.2 8
  have HC4' := Aside0.mk HC4
  have Hc4' := Aside0.mk Hc4
  have hcut9 := cut_to (P := Try.prog) 23 5 .u64 Try.underlying23 HINF.out A4 y10.length c4 (roomF n9 y10.length) HR1.out HR2.out Hc4
  have hz : (y10.take (roomF n9 y10.length).toNat).length = (roomF n9 y10.length).toNat := by rw [List.length_take]; have := HR2.out; have := HR1.out; omega
  have hCt := Kd.C_take (m := (roomF n9 y10.length).toNat) HC4 (by have := HR2.out; have := HR1.out; omega)
  have hlt : (y10.take (roomF n9 y10.length).toNat).length ≤ c4 := by rw [List.length_take]; omega
  obtain ⟨z, hzz⟩ : ∃ z, z = y10.take (roomF n9 y10.length).toNat := ⟨_, rfl⟩
  rw [← hzz] at hz hCt hlt
  have HP' : Aside0 (slices_Clone_byte_byte.f z = some p) := ⟨by rw [hzz]; exact HP.out⟩
  rw [← hz] at hcut9
  unfold roomF at hcut9
  have HCT := Aside0.mk hCt
  have HLT := Aside0.mk hlt
  clear hI H44 HC4 Hc4 hz hCt hlt hzz HP HC4' Hc4'
  go_wp2_with fail
  refine (slices_Clone_byte_byte.calls A4 c4 z p w9 (Kd.C_below HCT.out HI.out.1.1) HLT.out HP'.out).mono ?_
  rintro e w10 ⟨v5, rfl, ho5, hb5⟩
  obtain ⟨A5, c5, rfl⟩ := Kd.R_slice ho5
  have hI := HI.out.below hb5
  have HO5 := Aside0.mk (Kd.R_lower ho5 HI.out.1.1.size)
  clear HI c4x d8 f8 hcut9 hb5 ho5 HCT HLT HP'
  have d0 := blk_cell hI.2.2.2 0
  have d1 := blk_cell hI.2.2.2 1
  have d2 := blk_cell hI.2.2.2 2
  have d3 := blk_cell hI.2.2.2 3
  have d4 := blk_cell hI.2.2.2 4
  have d5 := blk_cell hI.2.2.2 5
  have d6 := blk_cell hI.2.2.2 6
  have d7 := blk_cell hI.2.2.2 7
  have d8 := blk_cell hI.2.2.2 8
  have f8 := blk_frozen hI.2.2.2 8
  have HJ := Aside0.mk (hI.set_ 8 (.slice A5 p.length c5) (cs' := #[.int .i64 (smallF n1), .int .i64 (smallF n2), .int .u64 n3, .int .i64 (smallF n4), .int .u64 n5, .int .i64 (smallF n6), .int .i64 (timeF n7), .int .i64 (smallF n8), .slice A5 p.length c5]) rfl)
  have HO5' : Aside0 (Kd.R (Kd.int .u8) 5 (w10.setCell ⟨g7, 8, none⟩ (.slice A5 p.length c5)) w.heap.size (fun k_ => True) (.slice A5 p.length c5) p) := ⟨Kd.R_mono (Kd.R_set HO5.out hI.2.2.2 (by decide) 8 _) (fun _ _ => trivial)⟩
  clear hI
  go_wp2_with fail
  refine (frame_Build.calls k (smallF n1) (smallF n2) n3 (smallF n4) n5 (smallF n6) (timeF n7) (smallF n8) A5 c5 p b eb _ (Kd.R_reads' HO5'.out).2.2 (Kd.R_reads' HO5'.out).2.1 HBD.out).mono ?_
  rintro e w11 ⟨v6, rfl, ho6, hb6⟩
  obtain ⟨A6, c6, rfl⟩ := Kd.R_slice ho6
  have hI := HJ.out.below hb6
  have HO6 := Aside0.mk ho6
  have HO7 := Aside0.mk (Kd.R_below HO5'.out hb6)
  have HI := Aside0.mk hI
  clear HJ HO5 HO5' hb6 ho6 d0 d1 d2 d3 d4 d5 d6 d7 d8 f8 HBD
  by_cases he : eb = 0
  · subst he
    clear hI
    go_wp2_with fail
    refine (bytes_Equal.calls A6 c6 b A0 c0 l0 q _ (Kd.R_reads' HO6.out).2.2 (Kd.R_reads' HO6.out).2.1 (Kd.C_below HR.out HI.out.1.1) HC.out HQ.out).mono ?_
    rintro e w12 ⟨rfl, ⟨nd, rfl⟩⟩
    have HJ := HI
    have HO8 := HO7
    clear HI HO6 HO7
    cases q with
    | true =>
      have d0 := blk_cell HJ.out.2.2.2 0
      have d1 := blk_cell HJ.out.2.2.2 1
      have d2 := blk_cell HJ.out.2.2.2 2
      have d3 := blk_cell HJ.out.2.2.2 3
      have d4 := blk_cell HJ.out.2.2.2 4
      have d5 := blk_cell HJ.out.2.2.2 5
      have d6 := blk_cell HJ.out.2.2.2 6
      have d7 := blk_cell HJ.out.2.2.2 7
      have d8 := blk_cell HJ.out.2.2.2 8
      have r0 := blk_cell HJ.out.1.2.1 0
      have z0 := blk_frozen HJ.out.1.2.1 0
      have r1 := blk_cell HJ.out.1.2.1 1
      have z1 := blk_frozen HJ.out.1.2.1 1
      have r2 := blk_cell HJ.out.1.2.1 2
      have z2 := blk_frozen HJ.out.1.2.1 2
      have r3 := blk_cell HJ.out.1.2.1 3
      have z3 := blk_frozen HJ.out.1.2.1 3
      have r4 := blk_cell HJ.out.1.2.1 4
      have z4 := blk_frozen HJ.out.1.2.1 4
      have r5 := blk_cell HJ.out.1.2.1 5
      have z5 := blk_frozen HJ.out.1.2.1 5
      have r6 := blk_cell HJ.out.1.2.1 6
      have z6 := blk_frozen HJ.out.1.2.1 6
      have r7 := blk_cell HJ.out.1.2.1 7
      have z7 := blk_frozen HJ.out.1.2.1 7
      have r8 := blk_cell HJ.out.1.2.1 8
      have z8 := blk_frozen HJ.out.1.2.1 8
      go_wp2_with fail
      refine bodyPost_ret (results_ct rfl _ _ w.heap.size 25 #[.int .i64 (smallF n1), .int .i64 (smallF n2), .int .u64 n3, .int .i64 (smallF n4), .int .u64 n5, .int .i64 (smallF n6), .int .i64 (timeF n7), .int .i64 (smallF n8), .slice A5 p.length c5] (0, 0) _ rfl (blk_drewN (blk_put (cs := #[.int .i64 (smallF n1), .int .i64 (smallF n2), .int .u64 n3, .int .i64 (smallF n4), .int .u64 n5, .int .i64 (smallF n6), .int .i64 (timeF n7), .int .i64 (smallF n8), .slice none 0 0]) (blk_put (cs := #[.int .i64 (smallF n1), .int .i64 (smallF n2), .int .u64 n3, .int .i64 (smallF n4), .int .u64 n5, .int .i64 (smallF n6), .int .i64 (timeF n7), .int .i64 0, .slice none 0 0]) (blk_put (cs := #[.int .i64 (smallF n1), .int .i64 (smallF n2), .int .u64 n3, .int .i64 (smallF n4), .int .u64 n5, .int .i64 (smallF n6), .int .i64 0, .int .i64 0, .slice none 0 0]) (blk_put (cs := #[.int .i64 (smallF n1), .int .i64 (smallF n2), .int .u64 n3, .int .i64 (smallF n4), .int .u64 n5, .int .i64 0, .int .i64 0, .int .i64 0, .slice none 0 0]) (blk_put (cs := #[.int .i64 (smallF n1), .int .i64 (smallF n2), .int .u64 n3, .int .i64 (smallF n4), .int .u64 0, .int .i64 0, .int .i64 0, .int .i64 0, .slice none 0 0]) (blk_put (cs := #[.int .i64 (smallF n1), .int .i64 (smallF n2), .int .u64 n3, .int .i64 0, .int .u64 0, .int .i64 0, .int .i64 0, .int .i64 0, .slice none 0 0]) (blk_put (cs := #[.int .i64 (smallF n1), .int .i64 (smallF n2), .int .u64 0, .int .i64 0, .int .u64 0, .int .i64 0, .int .i64 0, .int .i64 0, .slice none 0 0]) (blk_put (cs := #[.int .i64 (smallF n1), .int .i64 0, .int .u64 0, .int .i64 0, .int .u64 0, .int .i64 0, .int .i64 0, .int .i64 0, .slice none 0 0]) (blk_put (cs := #[.int .i64 0, .int .i64 0, .int .u64 0, .int .i64 0, .int .u64 0, .int .i64 0, .int .i64 0, .int .i64 0, .slice none 0 0]) HJ.out.1.2.1 0 _ rfl) 1 _ rfl) 2 _ rfl) 3 _ rfl) 4 _ rfl) 5 _ rfl) 6 _ rfl) 7 _ rfl) 8 _ rfl) nd) Try.underlying25 rfl (by kernel_rfl)) rfl ?_
      refine ⟨_, rfl, Kd.R_mono (Kd.R_drewN ((Kd.R_set (Kd.R_set (Kd.R_set (Kd.R_set (Kd.R_set (Kd.R_set (Kd.R_set (Kd.R_set (Kd.R_set HO8.out HJ.out.1.2.1 (by decide) 0 _) (blk_put (cs := #[.int .i64 0, .int .i64 0, .int .u64 0, .int .i64 0, .int .u64 0, .int .i64 0, .int .i64 0, .int .i64 0, .slice none 0 0]) HJ.out.1.2.1 0 _ rfl) (by decide) 1 _) (blk_put (cs := #[.int .i64 (smallF n1), .int .i64 0, .int .u64 0, .int .i64 0, .int .u64 0, .int .i64 0, .int .i64 0, .int .i64 0, .slice none 0 0]) (blk_put (cs := #[.int .i64 0, .int .i64 0, .int .u64 0, .int .i64 0, .int .u64 0, .int .i64 0, .int .i64 0, .int .i64 0, .slice none 0 0]) HJ.out.1.2.1 0 _ rfl) 1 _ rfl) (by decide) 2 _) (blk_put (cs := #[.int .i64 (smallF n1), .int .i64 (smallF n2), .int .u64 0, .int .i64 0, .int .u64 0, .int .i64 0, .int .i64 0, .int .i64 0, .slice none 0 0]) (blk_put (cs := #[.int .i64 (smallF n1), .int .i64 0, .int .u64 0, .int .i64 0, .int .u64 0, .int .i64 0, .int .i64 0, .int .i64 0, .slice none 0 0]) (blk_put (cs := #[.int .i64 0, .int .i64 0, .int .u64 0, .int .i64 0, .int .u64 0, .int .i64 0, .int .i64 0, .int .i64 0, .slice none 0 0]) HJ.out.1.2.1 0 _ rfl) 1 _ rfl) 2 _ rfl) (by decide) 3 _) (blk_put (cs := #[.int .i64 (smallF n1), .int .i64 (smallF n2), .int .u64 n3, .int .i64 0, .int .u64 0, .int .i64 0, .int .i64 0, .int .i64 0, .slice none 0 0]) (blk_put (cs := #[.int .i64 (smallF n1), .int .i64 (smallF n2), .int .u64 0, .int .i64 0, .int .u64 0, .int .i64 0, .int .i64 0, .int .i64 0, .slice none 0 0]) (blk_put (cs := #[.int .i64 (smallF n1), .int .i64 0, .int .u64 0, .int .i64 0, .int .u64 0, .int .i64 0, .int .i64 0, .int .i64 0, .slice none 0 0]) (blk_put (cs := #[.int .i64 0, .int .i64 0, .int .u64 0, .int .i64 0, .int .u64 0, .int .i64 0, .int .i64 0, .int .i64 0, .slice none 0 0]) HJ.out.1.2.1 0 _ rfl) 1 _ rfl) 2 _ rfl) 3 _ rfl) (by decide) 4 _) (blk_put (cs := #[.int .i64 (smallF n1), .int .i64 (smallF n2), .int .u64 n3, .int .i64 (smallF n4), .int .u64 0, .int .i64 0, .int .i64 0, .int .i64 0, .slice none 0 0]) (blk_put (cs := #[.int .i64 (smallF n1), .int .i64 (smallF n2), .int .u64 n3, .int .i64 0, .int .u64 0, .int .i64 0, .int .i64 0, .int .i64 0, .slice none 0 0]) (blk_put (cs := #[.int .i64 (smallF n1), .int .i64 (smallF n2), .int .u64 0, .int .i64 0, .int .u64 0, .int .i64 0, .int .i64 0, .int .i64 0, .slice none 0 0]) (blk_put (cs := #[.int .i64 (smallF n1), .int .i64 0, .int .u64 0, .int .i64 0, .int .u64 0, .int .i64 0, .int .i64 0, .int .i64 0, .slice none 0 0]) (blk_put (cs := #[.int .i64 0, .int .i64 0, .int .u64 0, .int .i64 0, .int .u64 0, .int .i64 0, .int .i64 0, .int .i64 0, .slice none 0 0]) HJ.out.1.2.1 0 _ rfl) 1 _ rfl) 2 _ rfl) 3 _ rfl) 4 _ rfl) (by decide) 5 _) (blk_put (cs := #[.int .i64 (smallF n1), .int .i64 (smallF n2), .int .u64 n3, .int .i64 (smallF n4), .int .u64 n5, .int .i64 0, .int .i64 0, .int .i64 0, .slice none 0 0]) (blk_put (cs := #[.int .i64 (smallF n1), .int .i64 (smallF n2), .int .u64 n3, .int .i64 (smallF n4), .int .u64 0, .int .i64 0, .int .i64 0, .int .i64 0, .slice none 0 0]) (blk_put (cs := #[.int .i64 (smallF n1), .int .i64 (smallF n2), .int .u64 n3, .int .i64 0, .int .u64 0, .int .i64 0, .int .i64 0, .int .i64 0, .slice none 0 0]) (blk_put (cs := #[.int .i64 (smallF n1), .int .i64 (smallF n2), .int .u64 0, .int .i64 0, .int .u64 0, .int .i64 0, .int .i64 0, .int .i64 0, .slice none 0 0]) (blk_put (cs := #[.int .i64 (smallF n1), .int .i64 0, .int .u64 0, .int .i64 0, .int .u64 0, .int .i64 0, .int .i64 0, .int .i64 0, .slice none 0 0]) (blk_put (cs := #[.int .i64 0, .int .i64 0, .int .u64 0, .int .i64 0, .int .u64 0, .int .i64 0, .int .i64 0, .int .i64 0, .slice none 0 0]) HJ.out.1.2.1 0 _ rfl) 1 _ rfl) 2 _ rfl) 3 _ rfl) 4 _ rfl) 5 _ rfl) (by decide) 6 _) (blk_put (cs := #[.int .i64 (smallF n1), .int .i64 (smallF n2), .int .u64 n3, .int .i64 (smallF n4), .int .u64 n5, .int .i64 (smallF n6), .int .i64 0, .int .i64 0, .slice none 0 0]) (blk_put (cs := #[.int .i64 (smallF n1), .int .i64 (smallF n2), .int .u64 n3, .int .i64 (smallF n4), .int .u64 n5, .int .i64 0, .int .i64 0, .int .i64 0, .slice none 0 0]) (blk_put (cs := #[.int .i64 (smallF n1), .int .i64 (smallF n2), .int .u64 n3, .int .i64 (smallF n4), .int .u64 0, .int .i64 0, .int .i64 0, .int .i64 0, .slice none 0 0]) (blk_put (cs := #[.int .i64 (smallF n1), .int .i64 (smallF n2), .int .u64 n3, .int .i64 0, .int .u64 0, .int .i64 0, .int .i64 0, .int .i64 0, .slice none 0 0]) (blk_put (cs := #[.int .i64 (smallF n1), .int .i64 (smallF n2), .int .u64 0, .int .i64 0, .int .u64 0, .int .i64 0, .int .i64 0, .int .i64 0, .slice none 0 0]) (blk_put (cs := #[.int .i64 (smallF n1), .int .i64 0, .int .u64 0, .int .i64 0, .int .u64 0, .int .i64 0, .int .i64 0, .int .i64 0, .slice none 0 0]) (blk_put (cs := #[.int .i64 0, .int .i64 0, .int .u64 0, .int .i64 0, .int .u64 0, .int .i64 0, .int .i64 0, .int .i64 0, .slice none 0 0]) HJ.out.1.2.1 0 _ rfl) 1 _ rfl) 2 _ rfl) 3 _ rfl) 4 _ rfl) 5 _ rfl) 6 _ rfl) (by decide) 7 _) (blk_put (cs := #[.int .i64 (smallF n1), .int .i64 (smallF n2), .int .u64 n3, .int .i64 (smallF n4), .int .u64 n5, .int .i64 (smallF n6), .int .i64 (timeF n7), .int .i64 0, .slice none 0 0]) (blk_put (cs := #[.int .i64 (smallF n1), .int .i64 (smallF n2), .int .u64 n3, .int .i64 (smallF n4), .int .u64 n5, .int .i64 (smallF n6), .int .i64 0, .int .i64 0, .slice none 0 0]) (blk_put (cs := #[.int .i64 (smallF n1), .int .i64 (smallF n2), .int .u64 n3, .int .i64 (smallF n4), .int .u64 n5, .int .i64 0, .int .i64 0, .int .i64 0, .slice none 0 0]) (blk_put (cs := #[.int .i64 (smallF n1), .int .i64 (smallF n2), .int .u64 n3, .int .i64 (smallF n4), .int .u64 0, .int .i64 0, .int .i64 0, .int .i64 0, .slice none 0 0]) (blk_put (cs := #[.int .i64 (smallF n1), .int .i64 (smallF n2), .int .u64 n3, .int .i64 0, .int .u64 0, .int .i64 0, .int .i64 0, .int .i64 0, .slice none 0 0]) (blk_put (cs := #[.int .i64 (smallF n1), .int .i64 (smallF n2), .int .u64 0, .int .i64 0, .int .u64 0, .int .i64 0, .int .i64 0, .int .i64 0, .slice none 0 0]) (blk_put (cs := #[.int .i64 (smallF n1), .int .i64 0, .int .u64 0, .int .i64 0, .int .u64 0, .int .i64 0, .int .i64 0, .int .i64 0, .slice none 0 0]) (blk_put (cs := #[.int .i64 0, .int .i64 0, .int .u64 0, .int .i64 0, .int .u64 0, .int .i64 0, .int .i64 0, .int .i64 0, .slice none 0 0]) HJ.out.1.2.1 0 _ rfl) 1 _ rfl) 2 _ rfl) 3 _ rfl) 4 _ rfl) 5 _ rfl) 6 _ rfl) 7 _ rfl) (by decide) 8 _)) nd) (fun _ _ => trivial), pw_below_drewN (Below.setCell (Below.setCell (Below.setCell (Below.setCell (Below.setCell (Below.setCell (Below.setCell (Below.setCell (Below.setCell HJ.out.1.1 (Nat.le_refl _) _) (Nat.le_refl _) _) (Nat.le_refl _) _) (Nat.le_refl _) _) (Nat.le_refl _) _) (Nat.le_refl _) _) (Nat.le_refl _) _) (Nat.le_refl _) _) (Nat.le_refl _) _) nd⟩
    | false =>
      have r0 := blk_cell HJ.out.1.2.1 0
      have z0 := blk_frozen HJ.out.1.2.1 0
      have r1 := blk_cell HJ.out.1.2.1 1
      have z1 := blk_frozen HJ.out.1.2.1 1
      have r2 := blk_cell HJ.out.1.2.1 2
      have z2 := blk_frozen HJ.out.1.2.1 2
      have r3 := blk_cell HJ.out.1.2.1 3
      have z3 := blk_frozen HJ.out.1.2.1 3
      have r4 := blk_cell HJ.out.1.2.1 4
      have z4 := blk_frozen HJ.out.1.2.1 4
      have r5 := blk_cell HJ.out.1.2.1 5
      have z5 := blk_frozen HJ.out.1.2.1 5
      have r6 := blk_cell HJ.out.1.2.1 6
      have z6 := blk_frozen HJ.out.1.2.1 6
      have r7 := blk_cell HJ.out.1.2.1 7
      have z7 := blk_frozen HJ.out.1.2.1 7
      have r8 := blk_cell HJ.out.1.2.1 8
      have z8 := blk_frozen HJ.out.1.2.1 8
      go_wp2_with fail
      refine bodyPost_ret (results_ct rfl _ _ w.heap.size 25 #[.int .i64 0, .int .i64 0, .int .u64 0, .int .i64 0, .int .u64 0, .int .i64 0, .int .i64 0, .int .i64 0, .slice none 0 0] (0, 0) _ rfl (blk_drewN (blk_put (cs := #[.int .i64 0, .int .i64 0, .int .u64 0, .int .i64 0, .int .u64 0, .int .i64 0, .int .i64 0, .int .i64 0, .slice none 0 0]) (blk_put (cs := #[.int .i64 0, .int .i64 0, .int .u64 0, .int .i64 0, .int .u64 0, .int .i64 0, .int .i64 0, .int .i64 0, .slice none 0 0]) (blk_put (cs := #[.int .i64 0, .int .i64 0, .int .u64 0, .int .i64 0, .int .u64 0, .int .i64 0, .int .i64 0, .int .i64 0, .slice none 0 0]) (blk_put (cs := #[.int .i64 0, .int .i64 0, .int .u64 0, .int .i64 0, .int .u64 0, .int .i64 0, .int .i64 0, .int .i64 0, .slice none 0 0]) (blk_put (cs := #[.int .i64 0, .int .i64 0, .int .u64 0, .int .i64 0, .int .u64 0, .int .i64 0, .int .i64 0, .int .i64 0, .slice none 0 0]) (blk_put (cs := #[.int .i64 0, .int .i64 0, .int .u64 0, .int .i64 0, .int .u64 0, .int .i64 0, .int .i64 0, .int .i64 0, .slice none 0 0]) (blk_put (cs := #[.int .i64 0, .int .i64 0, .int .u64 0, .int .i64 0, .int .u64 0, .int .i64 0, .int .i64 0, .int .i64 0, .slice none 0 0]) (blk_put (cs := #[.int .i64 0, .int .i64 0, .int .u64 0, .int .i64 0, .int .u64 0, .int .i64 0, .int .i64 0, .int .i64 0, .slice none 0 0]) (blk_put (cs := #[.int .i64 0, .int .i64 0, .int .u64 0, .int .i64 0, .int .u64 0, .int .i64 0, .int .i64 0, .int .i64 0, .slice none 0 0]) HJ.out.1.2.1 0 _ rfl) 1 _ rfl) 2 _ rfl) 3 _ rfl) 4 _ rfl) 5 _ rfl) 6 _ rfl) 7 _ rfl) 8 _ rfl) nd) Try.underlying25 rfl (by kernel_rfl)) rfl ?_
      refine ⟨_, rfl, Kd.R_nil _ _ _ _ _, pw_below_drewN (Below.setCell (Below.setCell (Below.setCell (Below.setCell (Below.setCell (Below.setCell (Below.setCell (Below.setCell (Below.setCell HJ.out.1.1 (Nat.le_refl _) _) (Nat.le_refl _) _) (Nat.le_refl _) _) (Nat.le_refl _) _) (Nat.le_refl _) _) (Nat.le_refl _) _) (Nat.le_refl _) _) (Nat.le_refl _) _) (Nat.le_refl _) _) nd⟩
  · have t2 : (eb != 0) = true := bne_iff_ne.mpr he
    have t3 : (eb == 0) = false := beq_eq_false_iff_ne.mpr he
    have HJ := HI
    clear hI HI he HO6 HO7
    have r0 := blk_cell HJ.out.1.2.1 0
    have z0 := blk_frozen HJ.out.1.2.1 0
    have r1 := blk_cell HJ.out.1.2.1 1
    have z1 := blk_frozen HJ.out.1.2.1 1
    have r2 := blk_cell HJ.out.1.2.1 2
    have z2 := blk_frozen HJ.out.1.2.1 2
    have r3 := blk_cell HJ.out.1.2.1 3
    have z3 := blk_frozen HJ.out.1.2.1 3
    have r4 := blk_cell HJ.out.1.2.1 4
    have z4 := blk_frozen HJ.out.1.2.1 4
    have r5 := blk_cell HJ.out.1.2.1 5
    have z5 := blk_frozen HJ.out.1.2.1 5
    have r6 := blk_cell HJ.out.1.2.1 6
    have z6 := blk_frozen HJ.out.1.2.1 6
    have r7 := blk_cell HJ.out.1.2.1 7
    have z7 := blk_frozen HJ.out.1.2.1 7
    have r8 := blk_cell HJ.out.1.2.1 8
    have z8 := blk_frozen HJ.out.1.2.1 8
    go_wp2_with fail
    rw [t3]
    refine bodyPost_ret (results_ct rfl _ _ w.heap.size 25 #[.int .i64 0, .int .i64 0, .int .u64 0, .int .i64 0, .int .u64 0, .int .i64 0, .int .i64 0, .int .i64 0, .slice none 0 0] (0, 0) _ rfl (blk_put (cs := #[.int .i64 0, .int .i64 0, .int .u64 0, .int .i64 0, .int .u64 0, .int .i64 0, .int .i64 0, .int .i64 0, .slice none 0 0]) (blk_put (cs := #[.int .i64 0, .int .i64 0, .int .u64 0, .int .i64 0, .int .u64 0, .int .i64 0, .int .i64 0, .int .i64 0, .slice none 0 0]) (blk_put (cs := #[.int .i64 0, .int .i64 0, .int .u64 0, .int .i64 0, .int .u64 0, .int .i64 0, .int .i64 0, .int .i64 0, .slice none 0 0]) (blk_put (cs := #[.int .i64 0, .int .i64 0, .int .u64 0, .int .i64 0, .int .u64 0, .int .i64 0, .int .i64 0, .int .i64 0, .slice none 0 0]) (blk_put (cs := #[.int .i64 0, .int .i64 0, .int .u64 0, .int .i64 0, .int .u64 0, .int .i64 0, .int .i64 0, .int .i64 0, .slice none 0 0]) (blk_put (cs := #[.int .i64 0, .int .i64 0, .int .u64 0, .int .i64 0, .int .u64 0, .int .i64 0, .int .i64 0, .int .i64 0, .slice none 0 0]) (blk_put (cs := #[.int .i64 0, .int .i64 0, .int .u64 0, .int .i64 0, .int .u64 0, .int .i64 0, .int .i64 0, .int .i64 0, .slice none 0 0]) (blk_put (cs := #[.int .i64 0, .int .i64 0, .int .u64 0, .int .i64 0, .int .u64 0, .int .i64 0, .int .i64 0, .int .i64 0, .slice none 0 0]) (blk_put (cs := #[.int .i64 0, .int .i64 0, .int .u64 0, .int .i64 0, .int .u64 0, .int .i64 0, .int .i64 0, .int .i64 0, .slice none 0 0]) HJ.out.1.2.1 0 _ rfl) 1 _ rfl) 2 _ rfl) 3 _ rfl) 4 _ rfl) 5 _ rfl) 6 _ rfl) 7 _ rfl) 8 _ rfl) Try.underlying25 rfl (by kernel_rfl)) rfl ?_
    refine ⟨_, rfl, Kd.R_nil _ _ _ _ _, (Below.setCell (Below.setCell (Below.setCell (Below.setCell (Below.setCell (Below.setCell (Below.setCell (Below.setCell (Below.setCell HJ.out.1.1 (Nat.le_refl _) _) (Nat.le_refl _) _) (Nat.le_refl _) _) (Nat.le_refl _) _) (Nat.le_refl _) _) (Nat.le_refl _) _) (Nat.le_refl _) _) (Nat.le_refl _) _) (Nat.le_refl _) _)⟩
/-- The varint that comes next, and what stands behind it. -/
def nextF (k : Nat) (l : List Int) : Option (Int × List Int) := (varint_Take.f k l).bind fun t => if 0 ≤ t.2.1 then (if t.2.1 ≤ (l.length : Int) then some (t.1, l.drop t.2.1.toNat) else none) else none
def frame_Parse.f (k : Nat) (l0 : List Int) : Option (Int × Int × Int × Int × Int × Int × Int × Int × List Int × Int) :=
  if (l0.length : Int) < 5 then some (0, 0, 0, 0, 0, 0, 0, 0, ([] : List Int), 2) else
  (nextF k (l0.drop 1)).bind fun t1 => (nextF k t1.2).bind fun t2 => (nextF k t2.2).bind fun t3 => (nextF k t3.2).bind fun t4 => (nextF k t4.2).bind fun t5 => (nextF k t5.2).bind fun t6 => (nextF k t6.2).bind fun t7 => (nextF k t7.2).bind fun t8 => (nextF k t8.2).bind fun t9 =>
  if 0 ≤ roomF t9.1 t9.2.length ∧ roomF t9.1 t9.2.length ≤ (t9.2.length : Int) then
  (slices_Clone_byte_byte.f (t9.2.take (roomF t9.1 t9.2.length).toNat)).bind fun p =>
  (frame_Build.f k (smallF t1.1) (smallF t2.1) t3.1 (smallF t4.1) t5.1 (smallF t6.1) (timeF t7.1) (smallF t8.1) p).bind fun b =>
  (bytes_Equal.f b.1 l0).bind fun q => if (b.2 == 0 && q) = true then some (smallF t1.1, smallF t2.1, t3.1, smallF t4.1, t5.1, smallF t6.1, timeF t7.1, smallF t8.1, p, 0) else some (0, 0, 0, 0, 0, 0, 0, 0, ([] : List Int), 2)
  else none
theorem nextF.mono (a : List Int) (k : Nat) : LeO (nextF k a) (nextF (k + 1) a) := by
  unfold nextF
  exact LeO.bind (varint_Take.mono _ _) (fun _ => LeO.refl _)
theorem frame_Parse.mono : ∀ a0 k, LeO (frame_Parse.f k a0) (frame_Parse.f (k + 1) a0) := by
  intro a0 k
  unfold frame_Parse.f
  refine LeO.ite (LeO.refl _) ?_
  iterate 9 refine LeO.bind (nextF.mono _ _) (fun _ => ?_)
  refine LeO.ite (LeO.bind (LeO.refl _) (fun _ => ?_)) (LeO.refl _)
  exact LeO.bind (frame_Build.mono _ _ _ _ _ _ _ _ _ _) (fun _ => LeO.refl _)
theorem nextF_some {k : Nat} {l : List Int} {t : Int × List Int} (h : nextF k l = some t) : ∃ m e, varint_Take.f k l = some (t.1, m, e) ∧ 0 ≤ m ∧ m ≤ (l.length : Int) ∧ t.2 = l.drop m.toNat := by
  unfold nextF at h
  obtain ⟨⟨n, m, e⟩, h1, h2⟩ := Option.bind_eq_some_iff.mp h
  split at h2
  · split at h2
    · rename_i h3 h4
      cases h2
      exact ⟨m, e, h1, h3, h4, rfl⟩
    · cases h2
  · cases h2
set_option maxHeartbeats 1000000 in
set_option maxRecDepth 100000 in
theorem parse_short (A0 : Option Addr) (c0 : Nat) (l0 : List Int) (w : World) (hl : (l0.length : Int) < 5) :
    Calls Try.prog 16 #[.slice A0 l0.length c0] w (ParsePost false 0 0 0 0 0 0 0 0 [] w) := by
  have hu25 := Try.underlying25
  have t1 : decide ((l0.length : Int) < 5) = true := decide_eq_true hl
  clear hl
  go_enter Try.func16, Try.ntmps16
  go_wp2_with fail
  refine bodyPost_ret (results_ct rfl _ _ w.heap.size 25 #[.int .i64 0, .int .i64 0, .int .u64 0, .int .i64 0, .int .u64 0, .int .i64 0, .int .i64 0, .int .i64 0, .slice none 0 0] (0, 0) _ rfl (heap_alloc_new _ _) Try.underlying25 rfl (by kernel_rfl)) rfl ?_
  exact ⟨_, rfl, Kd.R_nil _ _ _ _ _, below_alloc (Below.refl _ _) _⟩
theorem frame_Parse.calls (k : Nat) (A0 : Option Addr) (c0 : Nat) (l0 : List Int) (r1 : Int) (r2 : Int) (r3 : Int) (r4 : Int) (r5 : Int) (r6 : Int) (r7 : Int) (r8 : Int) (r9 : List Int) (r10 : Int) (w : World) (hr0 : Kd.C (Kd.int .u8) w A0 l0.length l0) (hc0 : l0.length ≤ c0) (h : frame_Parse.f k l0 = some (r1, r2, r3, r4, r5, r6, r7, r8, r9, r10)) :
    Calls Try.prog 16 #[.slice A0 l0.length c0] w fun e w' => ∃ v9_ : Value, e = .returned (.tuple #[.agg #[.int .i64 r1, .int .i64 r2, .int .u64 r3, .int .i64 r4, .int .u64 r5, .int .i64 r6, .int .i64 r7, .int .i64 r8, v9_], .int .i64 r10]) ∧ Kd.R (Kd.int .u8) 5 w' w.heap.size (fun _ => True) v9_ r9 ∧ Below w.heap.size w w' := by
  unfold frame_Parse.f at h
  by_cases hl : (l0.length : Int) < 5
  · rw [if_pos hl] at h
    have h' := Option.some.inj h
    simp only [Prod.mk.injEq] at h'
    obtain ⟨rfl, rfl, rfl, rfl, rfl, rfl, rfl, rfl, rfl, rfl⟩ := h'
    exact (parse_short A0 c0 l0 w hl).mono fun e w' hp => hp
  rw [if_neg hl] at h
  obtain ⟨t1, h1, h⟩ := Option.bind_eq_some_iff.mp h
  obtain ⟨t2, h2, h⟩ := Option.bind_eq_some_iff.mp h
  obtain ⟨t3, h3, h⟩ := Option.bind_eq_some_iff.mp h
  obtain ⟨t4, h4, h⟩ := Option.bind_eq_some_iff.mp h
  obtain ⟨t5, h5, h⟩ := Option.bind_eq_some_iff.mp h
  obtain ⟨t6, h6, h⟩ := Option.bind_eq_some_iff.mp h
  obtain ⟨t7, h7, h⟩ := Option.bind_eq_some_iff.mp h
  obtain ⟨t8, h8, h⟩ := Option.bind_eq_some_iff.mp h
  obtain ⟨t9, h9, h⟩ := Option.bind_eq_some_iff.mp h
  obtain ⟨m1, e1, g1⟩ := nextF_some h1
  obtain ⟨m2, e2, g2⟩ := nextF_some h2
  obtain ⟨m3, e3, g3⟩ := nextF_some h3
  obtain ⟨m4, e4, g4⟩ := nextF_some h4
  obtain ⟨m5, e5, g5⟩ := nextF_some h5
  obtain ⟨m6, e6, g6⟩ := nextF_some h6
  obtain ⟨m7, e7, g7⟩ := nextF_some h7
  obtain ⟨m8, e8, g8⟩ := nextF_some h8
  obtain ⟨m9, e9, g9⟩ := nextF_some h9
  by_cases hr : 0 ≤ roomF t9.1 t9.2.length ∧ roomF t9.1 t9.2.length ≤ (t9.2.length : Int)
  · rw [if_pos hr] at h
    obtain ⟨p, hp, h⟩ := Option.bind_eq_some_iff.mp h
    obtain ⟨⟨b, eb⟩, hb, h⟩ := Option.bind_eq_some_iff.mp h
    obtain ⟨q, hq, h⟩ := Option.bind_eq_some_iff.mp h
    have hm := parse_main k A0 c0 l0 w hr0 hc0 hl rfl g1 g2 g3 g4 g5 g6 g7 g8 g9 hr.1 hr.2 hp hb hq
    by_cases ok : (eb == 0 && q) = true
    · rw [if_pos ok] at h
      have h' := Option.some.inj h
      simp only [Prod.mk.injEq] at h'
      obtain ⟨rfl, rfl, rfl, rfl, rfl, rfl, rfl, rfl, rfl, rfl⟩ := h'
      rw [ok] at hm
      exact hm.mono fun e w' hp => hp
    · rw [if_neg ok] at h
      have h' := Option.some.inj h
      simp only [Prod.mk.injEq] at h'
      obtain ⟨rfl, rfl, rfl, rfl, rfl, rfl, rfl, rfl, rfl, rfl⟩ := h'
      rw [Bool.eq_false_iff.mpr ok] at hm
      exact hm.mono fun e w' hp => hp
  · rw [if_neg hr] at h
    cases h
end

end Go.Proofs.Ythhkdabajikckaa.X
