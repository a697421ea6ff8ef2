/- field.Number: a text that an int is told by. -/
import Derived.Test.YtdkgmiagjhcllaaDoorFieldIn
import Derived.WalkKit
namespace Go.Proofs.YtdkgmiagjhcllaaDoor.P
open Go Go.RowKit Go.Proofs.YtdkgmiagjhcllaaDoorW.PrintWords Go.Proofs.YtdkgmiagjhcllaaDoorW.PrintLast
set_option linter.unusedVariables false
set_option linter.unusedSimpArgs false

def field_Number.f (t : ByteArray) : Option (Int × Bool) :=
  if t.size ≤ 281474976710656 then
    match Lib.atoiAll t.data.toList with
    | .ok v => (strconv_Itoa.f v).bind fun s => some (if s = t then (v, true) else (0, false))
    | _ => some (0, false)
  else none
set_option maxRecDepth 100000 in
set_option maxHeartbeats 2000000 in
theorem number_ok (t s : ByteArray) (v : Int) (w : World) (hsz : t.size ≤ 281474976710656) (h : Lib.atoiAll t.data.toList = .ok v) (hs : strconv_Itoa.f v = some s) (hx : FieldIn w) :
    Calls Tryd.prog 17 #[.string t] w fun e w' => e = .returned (.tuple #[.int .i64 (if s = t then v else 0), .bool (decide (s = t))]) ∧ Below w.heap.size w w' := by
  by_cases hst : s = t
  · subst hst
    rw [if_pos rfl, decide_eq_true rfl]
    go_enter Tryd.func17, Tryd.ntmps17
    go_wp2_with (first
      | (go_at_call 31; refine (Tryd.strconv_Atoi_ok s (by omega) v h _).mono ?_; rintro e w1 ⟨rfl, hw1⟩; have hb1 : Below w.heap.size w w1 := (by rcases hw1 with rfl | ⟨q, rfl⟩; exact Below.refl _ _; exact Lib.bytesWorld_below _ _ _))
      | (go_at_call 32; refine (strconv_Itoa.calls v s _ hs (hx.below hb1)).mono ?_; rintro e w2 ⟨rfl, hb2⟩))
    go_ret2
    exact ⟨rfl, hb1.trans (hb2.mono hb1.size)⟩
  · have hne : (s.toList == t.toList) = false := beq_eq_false_iff_ne.mpr (fun e => hst (by
      rw [Lib.toList_data, Lib.toList_data] at e
      exact ByteArray.ext (Array.toList_inj.1 e)))
    rw [if_neg hst, decide_eq_false hst]
    clear hst
    go_enter Tryd.func17, Tryd.ntmps17
    go_wp2_with (first
      | (go_at_call 31; refine (Tryd.strconv_Atoi_ok t (by omega) v h _).mono ?_; rintro e w1 ⟨rfl, hw1⟩; have hb1 : Below w.heap.size w w1 := (by rcases hw1 with rfl | ⟨q, rfl⟩; exact Below.refl _ _; exact Lib.bytesWorld_below _ _ _))
      | (go_at_call 32; refine (strconv_Itoa.calls v s _ hs (hx.below hb1)).mono ?_; rintro e w2 ⟨rfl, hb2⟩))
    go_ret2
    exact ⟨rfl, hb1.trans (hb2.mono hb1.size)⟩
set_option maxRecDepth 100000 in
set_option maxHeartbeats 2000000 in
theorem number_bad (t : ByteArray) (u : Int) (w : World) (te : Nat) (hA : Calls Tryd.prog 31 #[.string t] w fun e w' => (∃ pe, e = .returned (.tuple #[.int .i64 u, .iface te pe])) ∧ Below w.heap.size w w') :
    Calls Tryd.prog 17 #[.string t] w fun e w' => e = .returned (.tuple #[.int .i64 0, .bool false]) ∧ Below w.heap.size w w' := by
  go_enter Tryd.func17, Tryd.ntmps17
  go_wp2_with (go_at_call 31; refine hA.mono ?_; rintro e w1 ⟨⟨pe, rfl⟩, hb1⟩)
  go_ret2
  exact ⟨rfl, hb1⟩
theorem field_Number.calls (t : ByteArray) (r1 : Int) (r2 : Bool) (w : World) (h : field_Number.f t = some (r1, r2)) (hx : FieldIn w := by exact FieldIn.go (by assumption) (by assumption)) :
    Calls Tryd.prog 17 #[.string t] w fun e w' => e = .returned (.tuple #[.int .i64 r1, .bool r2]) ∧ Below w.heap.size w w' := by
  unfold field_Number.f at h
  by_cases hsz : t.size ≤ 281474976710656
  case neg => rw [if_neg hsz] at h; cases h
  rw [if_pos hsz] at h
  cases ha : Lib.atoiAll t.data.toList with
  | ok v =>
    rw [ha] at h
    simp only at h
    obtain ⟨s, hs, h2⟩ := Option.bind_eq_some_iff.1 h
    have := number_ok t s v w hsz ha hs hx
    by_cases hst : s = t
    · rw [if_pos hst] at h2
      cases h2
      rwa [if_pos hst, decide_eq_true hst] at this
    · rw [if_neg hst] at h2
      cases h2
      rwa [if_neg hst, decide_eq_false hst] at this
  | range =>
    rw [ha] at h
    cases h
    obtain ⟨te, pe, he⟩ := hx.rng
    exact number_bad t _ w _ ((Tryd.strconv_Atoi_range t hsz ha (.iface te pe) w he (.inr ⟨te, pe, rfl⟩)).mono fun e w' ⟨N, he, _, _, hb⟩ => ⟨⟨_, he⟩, hb⟩)
  | _ =>
    rw [ha] at h
    cases h
    obtain ⟨te, pe, he⟩ := hx.syn
    exact number_bad t 0 w _ ((Tryd.strconv_Atoi_syntax t hsz ha (.iface te pe) w he (.inr ⟨te, pe, rfl⟩)).mono fun e w' ⟨N, he, _, _, hb⟩ => ⟨⟨_, he⟩, hb⟩)
end Go.Proofs.YtdkgmiagjhcllaaDoor.P
