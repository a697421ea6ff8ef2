/- bits.Len64, from the shelf, in the printer's own form. -/
import Derived.Test.YtnmidkjmflnolaaShelf
import Derived.Test.YtnmidkjmflnolaaWords
import Derived.Test.YtnmidkjmflnolaaWNEv
namespace Go.Proofs.Ytnmidkjmflnolaa.P
open Go.RowKit Go.Proofs.YtnmidkjmflnolaaW.PrintWords Go.Proofs.YtnmidkjmflnolaaW.PrintLast Go.Proofs.YtnmidkjmflnolaaW.PrintMore
def bits_Len64.f (a0 : Int) : Option Int := if 0 ≤ a0 ∧ a0 ≤ 18446744073709551615 then some (Lib.bitLen a0.toNat : Int) else none
theorem bits_Len64.calls (a0 : Int) (r : Int) (w : World) (h : bits_Len64.f a0 = some r) :
    Calls Try.prog 88 #[.int .u64 a0] w fun e w' => e = .returned (.int .i64 r) ∧ Drawn0 w w' := by
  unfold bits_Len64.f at h
  split at h
  · next hb =>
    cases h
    exact (Try.bits_Len64 a0 w hb.1 hb.2).mono fun _ _ ⟨h1, h2⟩ => ⟨h1, h2 ▸ Drawn0.refl _⟩
  · cases h
def bits_Len32.f (a0 : Int) : Option Int := if 0 ≤ a0 ∧ a0 ≤ 4294967295 then some (Lib.bitLen a0.toNat : Int) else none
theorem bits_Len32.calls (a0 : Int) (r : Int) (w : World) (h : bits_Len32.f a0 = some r) :
    Calls Try.prog 97 #[.int .u32 a0] w fun e w' => e = .returned (.int .i64 r) ∧ Drawn0 w w' := by
  unfold bits_Len32.f at h
  split at h
  · next hb =>
    cases h
    exact (Try.bits_Len32 a0 w hb.1 hb.2).mono fun _ _ ⟨h1, h2⟩ => ⟨h1, h2 ▸ Drawn0.refl _⟩
  · cases h
end Go.Proofs.Ytnmidkjmflnolaa.P
