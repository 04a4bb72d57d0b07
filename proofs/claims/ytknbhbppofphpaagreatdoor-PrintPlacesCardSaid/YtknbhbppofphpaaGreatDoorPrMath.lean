/- The text of declarations, plainly. -/
import Derived.Test.YtknbhbppofphpaaGreatDoorPrLine
import Derived.Test.YtknbhbppofphpaaGreatDoorTree
set_option linter.unusedVariables false
set_option linter.unusedSimpArgs false
namespace Go.Proofs.YtknbhbppofphpaaGreatDoor.X
open Go.RowKit Go.Shelf Go.Proofs.YtknbhbppofphpaaGreatDoorW.PrintWords Go.Proofs.YtknbhbppofphpaaGreatDoorW.PrintLast Go.Proofs.YtknbhbppofphpaaGreatDoorW.PrintMore
def itoaB (n : Int) : ByteArray := ⟨(Lib.itoa n).toArray⟩
def kindW (a : Int) : ByteArray := if a = 1 then ⟨#[109, 101, 115, 115, 97, 103, 101]⟩ else if a = 2 then ⟨#[101, 110, 117, 109]⟩ else ⟨#[115, 101, 114, 118, 105, 99, 101]⟩
def repW (b : Bool) : ByteArray := if b then ⟨#[114, 101, 112, 101, 97, 116, 101, 100, 32]⟩ else ⟨#[]⟩
def headLs (a : Int) (b : ByteArray) : List ByteArray := [kindW a, ⟨#[32]⟩, b, ⟨#[32, 123]⟩]
def fieldLs (f : PF) : List ByteArray := [repW f.f0, f.f1, ⟨#[32]⟩, f.f2, ⟨#[32, 61, 32]⟩, itoaB f.f3, ⟨#[59]⟩]
def valueLs (v : PV) : List ByteArray := [v.f0, ⟨#[32, 61, 32]⟩, itoaB v.f1, ⟨#[59]⟩]
def methodLs (m : PM) : List ByteArray := [⟨#[114, 112, 99, 32]⟩, m.f0, ⟨#[40]⟩, m.f1, ⟨#[41, 32, 114, 101, 116, 117, 114, 110, 115, 32, 40]⟩, m.f2, ⟨#[41, 59]⟩]
def fieldsB (fs : List PF) (t : Nat) : ByteArray := catB (fs.map fun f => lineB t (fieldLs f))
def valuesB (vs : List PV) (t : Nat) : ByteArray := catB (vs.map fun v => lineB t (valueLs v))
def methodsB (ms : List PM) (t : Nat) : ByteArray := catB (ms.map fun m => lineB t (methodLs m))
/-- What printer.decl writes of each, one behind the other. -/
def declL : List PD → Nat → ByteArray
  | [], _ => ⟨#[]⟩
  | ⟨a, b, _, fs, vs, ms, ds⟩ :: l, t => lineB t (headLs a b) ++ (fieldsB fs (t + 1) ++ (valuesB vs (t + 1) ++ (methodsB ms (t + 1) ++ (declL ds (t + 1) ++ (lineB t [⟨#[125]⟩] ++ declL l t)))))
theorem declL_one (d : PD) (t : Nat) : declL [d] t = lineB t (headLs d.f0 d.f1) ++ (fieldsB d.f3 (t + 1) ++ (valuesB d.f4 (t + 1) ++ (methodsB d.f5 (t + 1) ++ (declL d.f6 (t + 1) ++ lineB t [⟨#[125]⟩])))) := by
  obtain ⟨a, b, c, fs, vs, ms, ds⟩ := d
  rw [declL, declL, app_nil]
theorem declL_app : ∀ (l m : List PD) (t : Nat), declL (l ++ m) t = declL l t ++ declL m t
  | [], m, t => by rw [declL, nil_app]; rfl
  | ⟨a, b, c, fs, vs, ms, ds⟩ :: l, m, t => by
    rw [List.cons_append, declL, declL, declL_app l m t]
    simp only [ByteArray.append_assoc]
/-- The whole file: a blank line between two. -/
def fileB : List PD → ByteArray
  | [] => ⟨#[]⟩
  | d :: l => declL [d] 0 ++ catB (l.map fun x => ⟨#[10]⟩ ++ declL [x] 0)
end Go.Proofs.YtknbhbppofphpaaGreatDoor.X
