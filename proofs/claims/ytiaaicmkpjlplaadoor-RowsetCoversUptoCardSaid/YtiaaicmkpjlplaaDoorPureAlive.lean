/- The fixed fact of chapter 9 holds. -/
import Derived.Test.YtiaaicmkpjlplaaDoorPureOf
import Derived.Test.YtiaaicmkpjlplaaDoorP2
namespace Go.Proofs.YtiaaicmkpjlplaaDoor.Pure
open Go Go.RowKit Go.Proofs.YtiaaicmkpjlplaaDoorW.PrintWords Go.Proofs.YtiaaicmkpjlplaaDoorW.PrintLast Go.Proofs.YtiaaicmkpjlplaaDoorW.PrintMore Go.Proofs.YtiaaicmkpjlplaaDoor.P
theorem alive09 : Ev (fun k => dragnetlaw09_alive.f k) true := Ev.of (fun k => dragnetlaw09_alive.mono k) (show dragnetlaw09_alive.f 10 = some true by decide +kernel)
end Go.Proofs.YtiaaicmkpjlplaaDoor.Pure
