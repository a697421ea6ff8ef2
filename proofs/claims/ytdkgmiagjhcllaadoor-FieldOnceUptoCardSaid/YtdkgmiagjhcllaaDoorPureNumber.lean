/- Numbers: what the program and the document read, and write. -/
import Derived.Test.YtdkgmiagjhcllaaDoorPureDec
import Derived.Test.YtdkgmiagjhcllaaDoorPureEv
import Derived.Test.YtdkgmiagjhcllaaDoorNumber
namespace Go.Proofs.YtdkgmiagjhcllaaDoor.Pure
open Go Go.RowKit Go.Proofs.YtdkgmiagjhcllaaDoorW.PrintWords Go.Proofs.YtdkgmiagjhcllaaDoorW.PrintLast Go.Proofs.YtdkgmiagjhcllaaDoor.P
set_option linter.unusedVariables false
set_option linter.unusedSimpArgs false

theorem u64_in {x : Int} (h0 : 0 ≤ x) (h1 : x ≤ 18446744073709551615) : IntKind.u64.wrap x = x := by
  simp [IntKind.wrap, IntKind.bits, IntKind.signed]
  omega
theorem text_eq {s t : ByteArray} (h : s.data.toList = t.data.toList) : s = t := ByteArray.ext (Array.toList_inj.1 h)
theorem bt_list (s : ByteArray) (i : Nat) (h : i < s.size) : bt s (i : Int) = ((s.data.toList[i]'(by rw [Lib.size_eq] at h; exact h)).toNat : Int) := by
  unfold bt
  rw [dif_pos (by simpa using h)]
  have := Lib.data_getElem? s i h
  simp only [Int.toNat_natCast]
  rw [List.getElem?_eq_getElem (by rw [← Lib.size_eq]; exact h)] at this
  exact congrArg (fun b : UInt8 => ((b.toNat : Nat) : Int)) (Option.some.inj this).symm
/-- The program's reading is the document's. -/
theorem number_f (t : ByteArray) (ht : t.size ≤ 281474976710656) : field_Number.f t = some (refNum t.data.toList) := by
  unfold field_Number.f
  rw [if_pos ht]
  obtain ⟨x, b, hr⟩ : ∃ x b, refNum t.data.toList = (x, b) := ⟨_, _, rfl⟩
  cases b with
  | true =>
    obtain ⟨e, h0, h1⟩ := refNum_yes hr
    rw [hr, e, atoi_itoa x h0 h1]
    dsimp only
    unfold strconv_Itoa.f
    rw [if_pos ⟨h0, h1⟩, Option.bind_some, if_pos]
    exact text_eq e.symm
  | false =>
    have hx : x = 0 := by
      unfold refNum at hr
      repeat' split at hr
      all_goals exact refMag_no hr
    subst hx
    rw [hr]
    cases ha : Lib.atoiAll t.data.toList with
    | ok v =>
      obtain ⟨h0, h1⟩ := Lib.atoiAll_bounds ha
      dsimp only
      unfold strconv_Itoa.f
      rw [if_pos ⟨h0, h1⟩, Option.bind_some, if_neg]
      intro e
      rw [← e] at hr
      have := refNum_itoa v h0 h1
      rw [show ((⟨(Lib.itoa v).toArray⟩ : ByteArray)).data.toList = Lib.itoa v from rfl, this] at hr
      injection hr with _ h2
      cases h2
    | range => rfl
    | _ => rfl
end Go.Proofs.YtdkgmiagjhcllaaDoor.Pure
