/- Words for the printed proofs that the kit's words lack: make with a capacity of its own gives a row of zeros, the type's own conditions aside. -/
import Derived.Lib.SlBytesConst
import Derived.WalkSpells
import Derived.Test.YtknbhbppofphpaaGreatDoorWM
namespace Go.Proofs.YtknbhbppofphpaaGreatDoor.MyWords
open Go Go.RowKit Go.Proofs.YtknbhbppofphpaaGreatDoorW.PrintWords Go.Proofs.YtknbhbppofphpaaGreatDoorW.PrintMore Go.Proofs.YtknbhbppofphpaaGreatDoorW.PrintWords.Kd
/-- A block that was there is none that came behind it. -/
theorem far_ne {w : World} {p : Addr} {v : Value} {g : Nat} (h : w.cell? p = some v) (hg : w.heap.size ≤ g) : p.block ≠ g := Nat.ne_of_lt (Nat.lt_of_lt_of_le (World.block_lt_of_cell? _ _ h) hg)
/-- What a store leaves alone is there, and what it hits, too. -/
theorem put_isSome (w : World) (a b : Addr) (v : Value) : ((w.setCell a v).cell? b).isSome = (w.cell? b).isSome := by
  by_cases h : a = b
  · subst h
    cases hc : w.cell? a with
    | some u => rw [World.cell?_setCell_same w a v hc]; rfl
    | none =>
      have : (w.setCell a v).cell? a = none := by
        unfold World.cell? at hc ⊢
        simp only [World.setCell, Array.getElem?_modify, if_true]
        cases hh : w.heap[a.block]? with
        | none => rfl
        | some x =>
          rw [hh] at hc
          cases x with
          | cells c e f =>
            simp only [Option.map_some]
            cases hs : a.spot.isSome with
            | true => simp
            | false =>
              simp only [hs] at hc
              simp at hc
              simp
              omega
          | _ => rfl
      rw [this]
  · rw [World.cell?_setCell_other w a b v h]
theorem drewN_put (w : World) (n : Nat) (a : Addr) (v : Value) : (w.drewN n).setCell a v = (w.setCell a v).drewN n := rfl
section
variable {P : Program} {ops : Array Oper} {rest : List Oper} {o : Oper} {a : Act} {Q : Exit → Act → World → Prop} {α : Type}
end
end Go.Proofs.YtknbhbppofphpaaGreatDoor.MyWords
