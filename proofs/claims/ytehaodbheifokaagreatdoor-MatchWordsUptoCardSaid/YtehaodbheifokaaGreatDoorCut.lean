/- strings.Cut, off the shelf. -/
import Derived.Test.YtehaodbheifokaaGreatDoorFieldIn
namespace Go.Proofs.YtehaodbheifokaaGreatDoor.P
open Go Go.RowKit Go.Proofs.YtehaodbheifokaaGreatDoorW.PrintWords Go.Proofs.YtehaodbheifokaaGreatDoorW.PrintLast
set_option linter.unusedVariables false
set_option linter.unusedSimpArgs false

def strings_Cut.f (s sep : ByteArray) : Option (ByteArray × ByteArray × Bool) :=
  if s.size < 4294967281 then some (⟨(Lib.cut s.data.toList sep.data.toList).1.toArray⟩, ⟨(Lib.cut s.data.toList sep.data.toList).2.1.toArray⟩, (Lib.cut s.data.toList sep.data.toList).2.2) else none
theorem strings_Cut.calls (s sep : ByteArray) (r1 r2 : ByteArray) (r3 : Bool) (w : World) (h : strings_Cut.f s sep = some (r1, r2, r3)) (hx : FieldIn w := by exact FieldIn.go (by assumption) (by assumption)) :
    Calls Tryz.prog 138 #[.string s, .string sep] w fun e w' => e = .returned (.tuple #[.string r1, .string r2, .bool r3]) ∧ Drawn0 w w' := by
  unfold strings_Cut.f at h
  by_cases hs : s.size < 4294967281
  case neg => rw [if_neg hs] at h; cases h
  rw [if_pos hs] at h
  cases h
  obtain ⟨m, hm⟩ := hx.max
  refine (Tryz.strings_Cut s sep m w hs hm).mono ?_
  rintro e w' ⟨rfl, n, rfl⟩
  exact ⟨rfl, n, rfl⟩
end Go.Proofs.YtehaodbheifokaaGreatDoor.P
