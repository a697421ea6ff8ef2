/- The plain law of RowsetWalks. -/
import Derived.Test.YtiaaicmkpjlplaaDoorWalks
import Derived.Test.YtiaaicmkpjlplaaDoorPureList
import Derived.Test.YtiaaicmkpjlplaaDoorPureAlive
import Derived.Test.YtiaaicmkpjlplaaDoorRead
namespace Go.Proofs.YtiaaicmkpjlplaaDoor.Pure
open Go Go.RowKit Go.Proofs.YtiaaicmkpjlplaaDoorW.PrintWords Go.Proofs.YtiaaicmkpjlplaaDoorW.PrintLast Go.Proofs.YtiaaicmkpjlplaaDoorW.PrintMore Go.Proofs.YtiaaicmkpjlplaaDoor.P
set_option linter.unusedVariables false

theorem RowsetWalks : ∀ (x0_0 : Int) (x0_1 : List Int) (x1 : Int), ((Lit.int .i64 x0_0).wf = true) → (∀ x ∈ x0_1, (fun n => (Lit.int .u64 n).wf = true) x) → ((Lit.int .i64 x1).wf = true) → ((1) + (Read.sumBulk (fun _ => 1) x0_1 + 1) + 1) + (1) ≤ 1048576 → ∃ k, dragnetlaw09_RowsetWalks.f k x0_0 x0_1 x1 = some true := by
  intro N Ws most _ wf _ hsum
  rw [Read.sum_one] at hsum
  have ok := wf_okws wf
  have hl : Ws.length ≤ 100000000 := by omega
  obtain ⟨k0, h0⟩ := alive09
  obtain ⟨k1, h1⟩ := list_ev N Ws ok hl
  dsimp only at h0 h1
  refine ⟨k0 + k1, ?_⟩
  unfold dragnetlaw09_RowsetWalks.f
  rw [h0 _ (by omega), h1 _ (by omega)]
  simp only
  rw [if_pos ⟨okB_iff.2 ok, hl, by rw [toldB_eq ok hl]; rfl, tl_len N Ws ok⟩]
end Go.Proofs.YtiaaicmkpjlplaaDoor.Pure
