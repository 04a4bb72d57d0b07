/- Words for the printed proofs that the kit's words lack: make with a capacity of its own gives a row of zeros, the type's own conditions aside. -/
import Derived.Lib.SlBytesConst
import Derived.WalkSpells
import Derived.Test.YtbhfecciegfdjaaDoorWWords
import Derived.Test.YtbhfecciegfdjaaDoorWMore
namespace Go.Proofs.YtbhfecciegfdjaaDoor.MyWords
open Go Go.RowKit Go.Proofs.YtbhfecciegfdjaaDoorW.PrintWords Go.Proofs.YtbhfecciegfdjaaDoorW.PrintMore Go.Proofs.YtbhfecciegfdjaaDoorW.PrintWords.Kd
/-- A block that was there is none that came behind it. -/
theorem far_ne {w : World} {p : Addr} {v : Value} {g : Nat} (h : w.cell? p = some v) (hg : w.heap.size ≤ g) : p.block ≠ g := Nat.ne_of_lt (Nat.lt_of_lt_of_le (World.block_lt_of_cell? _ _ h) hg)
/-- What a store leaves alone is there, and what it hits, too. -/
theorem put_isSome (w : World) (a b : Addr) (v : Value) : ((w.setCell a v).cell? b).isSome = (w.cell? b).isSome := by
  by_cases h : a = b
  · subst h
    cases hc : w.cell? a with
    | some u => rw [World.cell?_setCell_same w a v hc]; rfl
    | none =>
      have : (w.setCell a v).cell? a = none := by
        unfold World.cell? at hc ⊢
        simp only [World.setCell, Array.getElem?_modify, if_true]
        cases hh : w.heap[a.block]? with
        | none => rfl
        | some x =>
          rw [hh] at hc
          cases x with
          | cells c e f =>
            simp only [Option.map_some]
            cases hs : a.spot.isSome with
            | true => simp
            | false =>
              simp only [hs] at hc
              simp at hc
              simp
              omega
          | _ => rfl
      rw [this]
  · rw [World.cell?_setCell_other w a b v h]
theorem drewN_put (w : World) (n : Nat) (a : Addr) (v : Value) : (w.drewN n).setCell a v = (w.setCell a v).drewN n := rfl
section
variable {P : Program} {ops : Array Oper} {rest : List Oper} {o : Oper} {a : Act} {Q : Exit → Act → World → Prop} {α : Type}
/-- make([]T, n, c): n elements, each z0, whose cells are the type's zero's. -/
theorem R_makecap (d : Kd α) {w0 W : World} (base e : Nat) (hgd : o.guard = none) {N : Tmp} (_hd : o.dst = some N) (t : TypeId) (x y : Operand) (ho : o.op = .makeSlice t x y) (n c : Int) (hx : a.eval x = .int .i64 n) (hy : a.eval y = .int .i64 c)
    (ht : P.underlying t = some (.slice e)) (z : Value) (bytes : Nat) (hinfo : (P.info? e).map (fun i => (i.zero, i.size, i.bytes)) = some (some z, d.sz, bytes)) (hz : z.cells.size = d.sz) (hs0 : 0 < d.sz) (hb0 : 0 < bytes)
    (z0 : α) {ok okp : Nat → Prop} (hzero : d.M W base okp z0 z.cells.toList) (hok : ∀ k, okp k → ok k) (hfresh : ok W.heap.size) (h0 : 0 ≤ n) (hnc : n ≤ c) (hl : c.toNat * bytes ≤ 281474976710656) (HB : Below base w0 W) (hbase : base ≤ W.heap.size)
    (h : ∀ v1 w1, d.R e w1 base ok v1 (List.replicate n.toNat z0) → Below base w0 w1 → W.grownBy w1 none → (∃ b, v1.ownBlock = some b ∧ W.heap.size ≤ b) → wpList P ops Q rest (a.put o.dst v1) w1) : wpList P ops Q (o :: rest) a W := by
  obtain ⟨m, rfl⟩ := Int.eq_ofNat_of_zero_le h0
  obtain ⟨q, rfl⟩ := Int.eq_ofNat_of_zero_le (Int.le_trans h0 hnc)
  simp only [Int.toNat_natCast] at hl h
  obtain ⟨i0, hi, hzz⟩ := Option.map_eq_some_iff.1 hinfo
  simp only [Prod.mk.injEq] at hzz
  obtain ⟨hz0, hz1, hz2⟩ := hzz
  have hm : q ≤ 281474976710656 := Nat.le_trans (Nat.le_mul_of_pos_right _ hb0) hl
  have hr := run_make (P := P) W t e i0 z ht hi hz0 .i64 .i64 (m : Int) (q : Int) (by omega) hnc
    (by
      have h3 : ((i0.bytes * q : Nat) : Int) ≤ 281474976710656 := by rw [hz2, Nat.mul_comm]; omega
      rwa [Int.natCast_mul] at h3) (by omega)
  simp only [Int.toNat_natCast] at hr
  rw [hz1] at hr
  have hR : d.R e (W.alloc (.cells (madeCells z.cells (q * d.sz)) e)) base ok (.slice (some ⟨W.heap.size, 0, none⟩) q q) (List.replicate q z0) := by
    refine ⟨fun k hk => ?_, (madeCells z.cells (q * d.sz)).toList, ?_, ?_⟩
    · have : W.heap.size = k := by simpa [Value.ownBlock] using hk
      subst this
      exact hfresh
    · have h2 := World.ownsRow_lit (base := base) (e := e) (size := d.sz) W (madeCells z.cells (q * d.sz)) q hbase (by simp only [maxLen]; omega) (by simp [size_madeCells])
      simpa using h2
    · refine (reps_made hz hs0 hzero q).imp_ (fun p c hp => d.M_mono (fun k hk => ⟨hok k hk.1, fun he => ?_⟩) (M_below (d.M_bound hp) (below_alloc (Below.refl _ _) _)))
      have h3 : k = W.heap.size := by simpa [Value.ownBlock] using he
      have := hk.2.2.1
      omega
  have hR2 := R_take (m := m) hR (by simp; omega)
  rw [List.take_replicate, Nat.min_eq_left (by omega)] at hR2
  exact event_run hgd (by simp [execOp, ho, hx, hy, hr]) (h _ _ hR2 (HB.alloc hbase _) (World.grownBy_alloc W _ none) ⟨W.heap.size, by simp [Value.ownBlock], Nat.le_refl _⟩)
end
end Go.Proofs.YtbhfecciegfdjaaDoor.MyWords
