-- Written by a program of this session (wip/tools/tp.py: the kit's printer, turned to take functions that were proved by hand). Lean checks it.
import Derived.Test.YtnmidkjmflnolaaP0
namespace Go.Proofs.Ytnmidkjmflnolaa.P
open Go.RowKit Go.Proofs.YtnmidkjmflnolaaW.PrintWords Go.Proofs.YtnmidkjmflnolaaW.PrintLast Go.Proofs.YtnmidkjmflnolaaW.PrintMore
attribute [local go_sem] max2_int min2_int max_two min_two max_three min_three max_four min_four   -- for this text's walks alone
set_option linter.unusedVariables false
set_option linter.unusedSimpArgs false

-- LEVEL 0
/-! ### dragnetref01_Same: function 18 -/
def dragnetref01_Same.f (l0 : List Int) (l1 : List Int) : Option (Bool) := some ((strOfNums l0).toList == (strOfNums l1).toList)
set_option maxHeartbeats 8000000 in
set_option maxRecDepth 100000 in
theorem dragnetref01_Same.calls (A0 : Option Addr) (c0 : Nat) (l0 : List Int) (A1 : Option Addr) (c1 : Nat) (l1 : List Int) (r : Bool) (w : World) (hr0 : Kd.C (Kd.int .u8) w A0 l0.length l0) (hc0 : l0.length ≤ c0) (hr1 : Kd.C (Kd.int .u8) w A1 l1.length l1) (hc1 : l1.length ≤ c1) (h : dragnetref01_Same.f l0 l1 = some r) :
  Calls Try.prog 18 #[.slice A0 l0.length c0, .slice A1 l1.length c1] w fun e w' => e = .returned (.bool r) ∧ Drawn0 w w' := by
 have HR0 := Aside0.mk hr0
 have HC0 := Aside0.mk hc0
 clear hr0 hc0
 have HR1 := Aside0.mk hr1
 have HC1 := Aside0.mk hc1
 clear hr1 hc1
 have H : (some ((strOfNums l0).toList == (strOfNums l1).toList)) = some r := h
 clear h
 obtain rfl := Option.some.inj H
 have hcv3 := Kd.C_string (P := Try.prog) (A := A0) (c := c0) Try.underlying23 Try.underlying5 Try.underlying9 HR0.out
 have hcv4 := fun (i_ : Nat) => Kd.C_string (P := Try.prog) (A := A0) (c := c0) Try.underlying23 Try.underlying5 Try.underlying9 (Kd.C_drewN HR0.out i_)
 have hcv5 := fun (i_ j_ : Nat) => Kd.C_string (P := Try.prog) (A := A0) (c := c0) Try.underlying23 Try.underlying5 Try.underlying9 (Kd.C_drewN (Kd.C_drewN HR0.out i_) j_)
 have hcv6 := Kd.C_string (P := Try.prog) (A := A0) (c := c0) Try.underlying23 Try.underlying5 Try.underlying9 HR0.out
 (try simp only [List.length_take, List.length_drop, Int.toNat_natCast] at hcv6)
 have hcv7 := fun (i_ : Nat) => Kd.C_string (P := Try.prog) (A := A0) (c := c0) Try.underlying23 Try.underlying5 Try.underlying9 (Kd.C_drewN HR0.out i_)
 (try simp only [List.length_take, List.length_drop, Int.toNat_natCast] at hcv7)
 have hcv8 := fun (i_ j_ : Nat) => Kd.C_string (P := Try.prog) (A := A0) (c := c0) Try.underlying23 Try.underlying5 Try.underlying9 (Kd.C_drewN (Kd.C_drewN HR0.out i_) j_)
 (try simp only [List.length_take, List.length_drop, Int.toNat_natCast] at hcv8)
 have hcv9 := Kd.C_string (P := Try.prog) (A := A1) (c := c1) Try.underlying23 Try.underlying5 Try.underlying9 HR1.out
 have hcv10 := fun (i_ : Nat) => Kd.C_string (P := Try.prog) (A := A1) (c := c1) Try.underlying23 Try.underlying5 Try.underlying9 (Kd.C_drewN HR1.out i_)
 have hcv11 := fun (i_ j_ : Nat) => Kd.C_string (P := Try.prog) (A := A1) (c := c1) Try.underlying23 Try.underlying5 Try.underlying9 (Kd.C_drewN (Kd.C_drewN HR1.out i_) j_)
 have hcv12 := Kd.C_string (P := Try.prog) (A := A1) (c := c1) Try.underlying23 Try.underlying5 Try.underlying9 HR1.out
 (try simp only [List.length_take, List.length_drop, Int.toNat_natCast] at hcv12)
 have hcv13 := fun (i_ : Nat) => Kd.C_string (P := Try.prog) (A := A1) (c := c1) Try.underlying23 Try.underlying5 Try.underlying9 (Kd.C_drewN HR1.out i_)
 (try simp only [List.length_take, List.length_drop, Int.toNat_natCast] at hcv13)
 have hcv14 := fun (i_ j_ : Nat) => Kd.C_string (P := Try.prog) (A := A1) (c := c1) Try.underlying23 Try.underlying5 Try.underlying9 (Kd.C_drewN (Kd.C_drewN HR1.out i_) j_)
 (try simp only [List.length_take, List.length_drop, Int.toNat_natCast] at hcv14)
 go_enter Try.func18, Try.ntmps18
 go_wp2
 go_ret
 exact ⟨by first | rfl | (simp; done) | (simp [*]; done), by repeat (first | exact Drawn0.refl _ | apply Drawn0.step)⟩

-- LEVEL 0
-- NOT PRINTED: function 89 (sym_piece_89)

-- LEVEL 0
-- NOT PRINTED: function 115 (sym_piece_115)

-- LEVEL 0
-- NOT PRINTED: function 90 (sym_piece_90)

-- LEVEL 0
-- NOT PRINTED: function 117 (slices_xorshift_Next)

-- LEVEL 0
-- NOT PRINTED: function 124 (sym_piece_124)

-- LEVEL 0
-- NOT PRINTED: function 119 (sym_piece_119)

-- LEVEL 0
-- NOT PRINTED: function 118 (sym_piece_118)

-- LEVEL 0
-- NOT PRINTED: function 92 (sym_piece_92)

-- LEVEL 0
-- NOT PRINTED: function 93 (sym_piece_93)

-- LEVEL 0
-- NOT PRINTED: function 94 (sym_piece_94)

-- LEVEL 0
-- NOT PRINTED: function 95 (sym_piece_95)

-- LEVEL 0
-- NOT PRINTED: function 96 (sym_piece_96)

end Go.Proofs.Ytnmidkjmflnolaa.P
