/- The fixed fact of chapter 9 holds. -/
import Derived.Test.YtiaaicmkpjlplaaPureOf
import Derived.Test.YtiaaicmkpjlplaaP2
namespace Go.Proofs.Ytiaaicmkpjlplaa.Pure
open Go Go.RowKit Go.Proofs.YtiaaicmkpjlplaaW.PrintWords Go.Proofs.YtiaaicmkpjlplaaW.PrintLast Go.Proofs.YtiaaicmkpjlplaaW.PrintMore Go.Proofs.Ytiaaicmkpjlplaa.P
theorem alive09 : Ev (fun k => dragnetlaw09_alive.f k) true := Ev.of (fun k => dragnetlaw09_alive.mono k) (show dragnetlaw09_alive.f 10 = some true by decide +kernel)
end Go.Proofs.Ytiaaicmkpjlplaa.Pure
