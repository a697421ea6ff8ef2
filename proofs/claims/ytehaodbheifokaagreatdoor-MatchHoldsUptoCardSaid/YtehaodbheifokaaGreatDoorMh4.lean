/- Texts of this claim joined by a program of this session (wip/tools/pack.py), without what is not used: P4, PureKeyRef, RefRight20, P3, Form19, NodeB20. Words and contracts that the kit's printer wrote for this seat stand among them. -/
import Derived.Test.YtehaodbheifokaaGreatDoorMh3
import Derived.Deep.Light
import Derived.Deep.DeepCutAuto
import Derived.Deep.CutBlock
set_option maxHeartbeats 8000000
set_option maxRecDepth 100000
set_option linter.unusedVariables false
set_option linter.unusedSimpArgs false
section
namespace Go.Proofs.YtehaodbheifokaaGreatDoor.P
open Go.RowKit Go.Proofs.YtehaodbheifokaaGreatDoorW.PrintWords Go.Proofs.YtehaodbheifokaaGreatDoorW.PrintLast Go.Proofs.YtehaodbheifokaaGreatDoorW.PrintMore
attribute [local go_sem] max2_int min2_int max_two min_two max_three min_three max_four min_four   -- for this text's walks alone
def dragnetref08_IsKey.l0 : Nat → ByteArray → Int → Option (Bool)
 | 0, _, _ => none
 | k + 1, x0, x3 => if x3 < (x0.size : Int) then (if 0 ≤ x3 then (if (bt x0 x3) ≥ 97 then (if (bt x0 x3) ≤ 122 then (dragnetref08_IsKey.l0 k x0 (wrap64 (x3 + 1))) else (if (bt x0 x3) ≥ 65 then (if (bt x0 x3) ≤ 90 then (dragnetref08_IsKey.l0 k x0 (wrap64 (x3 + 1))) else (if (bt x0 x3) ≥ 48 then (if (bt x0 x3) ≤ 57 then (dragnetref08_IsKey.l0 k x0 (wrap64 (x3 + 1))) else (if (bt x0 x3) = 95 then (dragnetref08_IsKey.l0 k x0 (wrap64 (x3 + 1))) else (if (bt x0 x3) = 46 then (dragnetref08_IsKey.l0 k x0 (wrap64 (x3 + 1))) else (if ((bt x0 x3) = 45) then (dragnetref08_IsKey.l0 k x0 (wrap64 (x3 + 1))) else (some false))))) else (if (bt x0 x3) = 95 then (dragnetref08_IsKey.l0 k x0 (wrap64 (x3 + 1))) else (if (bt x0 x3) = 46 then (dragnetref08_IsKey.l0 k x0 (wrap64 (x3 + 1))) else (if ((bt x0 x3) = 45) then (dragnetref08_IsKey.l0 k x0 (wrap64 (x3 + 1))) else (some false)))))) else (if (bt x0 x3) ≥ 48 then (if (bt x0 x3) ≤ 57 then (dragnetref08_IsKey.l0 k x0 (wrap64 (x3 + 1))) else (if (bt x0 x3) = 95 then (dragnetref08_IsKey.l0 k x0 (wrap64 (x3 + 1))) else (if (bt x0 x3) = 46 then (dragnetref08_IsKey.l0 k x0 (wrap64 (x3 + 1))) else (if ((bt x0 x3) = 45) then (dragnetref08_IsKey.l0 k x0 (wrap64 (x3 + 1))) else (some false))))) else (if (bt x0 x3) = 95 then (dragnetref08_IsKey.l0 k x0 (wrap64 (x3 + 1))) else (if (bt x0 x3) = 46 then (dragnetref08_IsKey.l0 k x0 (wrap64 (x3 + 1))) else (if ((bt x0 x3) = 45) then (dragnetref08_IsKey.l0 k x0 (wrap64 (x3 + 1))) else (some false))))))) else (if (bt x0 x3) ≥ 65 then (if (bt x0 x3) ≤ 90 then (dragnetref08_IsKey.l0 k x0 (wrap64 (x3 + 1))) else (if (bt x0 x3) ≥ 48 then (if (bt x0 x3) ≤ 57 then (dragnetref08_IsKey.l0 k x0 (wrap64 (x3 + 1))) else (if (bt x0 x3) = 95 then (dragnetref08_IsKey.l0 k x0 (wrap64 (x3 + 1))) else (if (bt x0 x3) = 46 then (dragnetref08_IsKey.l0 k x0 (wrap64 (x3 + 1))) else (if ((bt x0 x3) = 45) then (dragnetref08_IsKey.l0 k x0 (wrap64 (x3 + 1))) else (some false))))) else (if (bt x0 x3) = 95 then (dragnetref08_IsKey.l0 k x0 (wrap64 (x3 + 1))) else (if (bt x0 x3) = 46 then (dragnetref08_IsKey.l0 k x0 (wrap64 (x3 + 1))) else (if ((bt x0 x3) = 45) then (dragnetref08_IsKey.l0 k x0 (wrap64 (x3 + 1))) else (some false)))))) else (if (bt x0 x3) ≥ 48 then (if (bt x0 x3) ≤ 57 then (dragnetref08_IsKey.l0 k x0 (wrap64 (x3 + 1))) else (if (bt x0 x3) = 95 then (dragnetref08_IsKey.l0 k x0 (wrap64 (x3 + 1))) else (if (bt x0 x3) = 46 then (dragnetref08_IsKey.l0 k x0 (wrap64 (x3 + 1))) else (if ((bt x0 x3) = 45) then (dragnetref08_IsKey.l0 k x0 (wrap64 (x3 + 1))) else (some false))))) else (if (bt x0 x3) = 95 then (dragnetref08_IsKey.l0 k x0 (wrap64 (x3 + 1))) else (if (bt x0 x3) = 46 then (dragnetref08_IsKey.l0 k x0 (wrap64 (x3 + 1))) else (if ((bt x0 x3) = 45) then (dragnetref08_IsKey.l0 k x0 (wrap64 (x3 + 1))) else (some false))))))) else (none)) else (if (x0.size : Int) ≥ 1 then (some (decide ((x0.size : Int) ≤ 32))) else (some false))
def dragnetref08_IsKey.f (k : Nat) (a0 : ByteArray) : Option (Bool) := dragnetref08_IsKey.l0 k a0 0
theorem dragnetref08_IsKey.calls (k : Nat) (a0 : ByteArray) (r : Bool) (w : World) (h : dragnetref08_IsKey.f k a0 = some r) :
  Calls Tryz.prog 41 #[.string a0] w fun e w' => e = .returned (.bool r) ∧ Drawn0 w w' := by
 have H : (dragnetref08_IsKey.l0 k a0 0) = some r := h
 clear h
 have H' := Aside0.mk H
 clear H
 go_enter Tryz.func41, Tryz.ntmps41
 go_wp2
 go_loopg [3] k (fun kq v3 w' => ∃ (x3_1 : Int), v3 = .int .i64 x3_1 ∧ Aside0 (dragnetref08_IsKey.l0 kq a0 x3_1 = some r) ∧ Aside0 (kq ≤ k) ∧ Drawn0 w w')
 case atStart => exact ⟨(0), rs_, H', ⟨Nat.le_refl _⟩, dr_⟩
 case round =>
  clear H'
  obtain ⟨x3_1, rfl, HA, HK1, ⟨m1, rfl⟩⟩ := hrel
  cases gk with
  | zero => exact absurd HA.out (by simp [dragnetref08_IsKey.l0])
  | succ k1 =>
   have H := HA.out
   clear HA
   simp only [dragnetref08_IsKey.l0] at H
   by_cases c2 : x3_1 < (a0.size : Int)
   ·rw [if_pos c2] at H
    have c2b0 : decide (x3_1 < (a0.size : Int)) = true := decide_eq_true c2
    clear c2
    by_cases c3 : 0 ≤ x3_1
    ·rw [if_pos c3] at H
     have c3b0 : decide (0 ≤ x3_1) = true := decide_eq_true c3
     clear c3
     by_cases c5 : (bt a0 x3_1) ≥ 97
     ·rw [if_pos c5] at H
      have c5b0 : decide (97 ≤ (bt a0 x3_1)) = true := decide_eq_true c5
      clear c5
      by_cases c6 : (bt a0 x3_1) ≤ 122
      ·rw [if_pos c6] at H
       have c6b0 : decide ((bt a0 x3_1) ≤ 122) = true := decide_eq_true c6
       clear c6
       have H' := Aside0.mk H
       clear H
       have p4 : 0 ≤ (x3_1 : Int) := of_decide_eq_true as_
       have q4 : x3_1 < (a0.size : Int) := of_decide_eq_true as_
       have hx4 := bt_at a0 x3_1
       replace p4 := eq_true p4
       replace q4 := eq_true q4
       go_wp2
       go_roundg k1
       case measure => have := HK1.out; omega
       case rel => exact ⟨(wrap64 (x3_1 + 1)), rs_, H', ⟨by have := HK1.out; omega⟩, dr_⟩
      ·rw [if_neg c6] at H
       have c6b0 : decide ((bt a0 x3_1) ≤ 122) = false := decide_eq_false c6
       clear c6
       by_cases c7 : (bt a0 x3_1) ≥ 65
       ·rw [if_pos c7] at H
        have c7b0 : decide (65 ≤ (bt a0 x3_1)) = true := decide_eq_true c7
        clear c7
        by_cases c8 : (bt a0 x3_1) ≤ 90
        ·rw [if_pos c8] at H
         have c8b0 : decide ((bt a0 x3_1) ≤ 90) = true := decide_eq_true c8
         clear c8
         have H' := Aside0.mk H
         clear H
         have p4 : 0 ≤ (x3_1 : Int) := of_decide_eq_true as_
         have q4 : x3_1 < (a0.size : Int) := of_decide_eq_true as_
         have hx4 := bt_at a0 x3_1
         replace p4 := eq_true p4
         replace q4 := eq_true q4
         go_wp2
         go_roundg k1
         case measure => have := HK1.out; omega
         case rel => exact ⟨(wrap64 (x3_1 + 1)), rs_, H', ⟨by have := HK1.out; omega⟩, dr_⟩
        ·rw [if_neg c8] at H
         have c8b0 : decide ((bt a0 x3_1) ≤ 90) = false := decide_eq_false c8
         clear c8
         by_cases c9 : (bt a0 x3_1) ≥ 48
         ·rw [if_pos c9] at H
          have c9b0 : decide (48 ≤ (bt a0 x3_1)) = true := decide_eq_true c9
          clear c9
          by_cases c10 : (bt a0 x3_1) ≤ 57
          ·rw [if_pos c10] at H
           have c10b0 : decide ((bt a0 x3_1) ≤ 57) = true := decide_eq_true c10
           clear c10
           have H' := Aside0.mk H
           clear H
           have p4 : 0 ≤ (x3_1 : Int) := of_decide_eq_true as_
           have q4 : x3_1 < (a0.size : Int) := of_decide_eq_true as_
           have hx4 := bt_at a0 x3_1
           replace p4 := eq_true p4
           replace q4 := eq_true q4
           go_wp2
           go_roundg k1
           case measure => have := HK1.out; omega
           case rel => exact ⟨(wrap64 (x3_1 + 1)), rs_, H', ⟨by have := HK1.out; omega⟩, dr_⟩
          ·rw [if_neg c10] at H
           have c10b0 : decide ((bt a0 x3_1) ≤ 57) = false := decide_eq_false c10
           clear c10
           by_cases c11 : (bt a0 x3_1) = 95
           ·rw [if_pos c11] at H
            have c11b0 : ((bt a0 x3_1) == 95) = true := beq_iff_eq.mpr c11
            have c11b1 : ((bt a0 x3_1) != 95) = false := bne_eq_false_iff_eq.mpr c11
            clear c11
            have H' := Aside0.mk H
            clear H
            have p4 : 0 ≤ (x3_1 : Int) := of_decide_eq_true as_
            have q4 : x3_1 < (a0.size : Int) := of_decide_eq_true as_
            have hx4 := bt_at a0 x3_1
            replace p4 := eq_true p4
            replace q4 := eq_true q4
            go_wp2
            go_roundg k1
            case measure => have := HK1.out; omega
            case rel => exact ⟨(wrap64 (x3_1 + 1)), rs_, H', ⟨by have := HK1.out; omega⟩, dr_⟩
           ·rw [if_neg c11] at H
            have c11b0 : ((bt a0 x3_1) == 95) = false := beq_eq_false_iff_ne.mpr c11
            have c11b1 : ((bt a0 x3_1) != 95) = true := bne_iff_ne.mpr c11
            by_cases c12 : (bt a0 x3_1) = 46
            ·rw [if_pos c12] at H
             have c12b0 : ((bt a0 x3_1) == 46) = true := beq_iff_eq.mpr c12
             have c12b1 : ((bt a0 x3_1) != 46) = false := bne_eq_false_iff_eq.mpr c12
             clear c12
             have H' := Aside0.mk H
             clear H
             have p4 : 0 ≤ (x3_1 : Int) := of_decide_eq_true as_
             have q4 : x3_1 < (a0.size : Int) := of_decide_eq_true as_
             have hx4 := bt_at a0 x3_1
             replace p4 := eq_true p4
             replace q4 := eq_true q4
             go_wp2
             go_roundg k1
             case measure => have := HK1.out; omega
             case rel => exact ⟨(wrap64 (x3_1 + 1)), rs_, H', ⟨by have := HK1.out; omega⟩, dr_⟩
            ·rw [if_neg c12] at H
             have c12b0 : ((bt a0 x3_1) == 46) = false := beq_eq_false_iff_ne.mpr c12
             have c12b1 : ((bt a0 x3_1) != 46) = true := bne_iff_ne.mpr c12
             by_cases c13 : ((bt a0 x3_1) = 45)
             ·rw [if_pos c13] at H
              have c13b0 : ((bt a0 x3_1) == 45) = true := beq_iff_eq.mpr c13
              have c13b1 : ((bt a0 x3_1) != 45) = false := bne_eq_false_iff_eq.mpr c13
              clear c13
              have H' := Aside0.mk H
              clear H
              have p4 : 0 ≤ (x3_1 : Int) := of_decide_eq_true as_
              have q4 : x3_1 < (a0.size : Int) := of_decide_eq_true as_
              have hx4 := bt_at a0 x3_1
              replace p4 := eq_true p4
              replace q4 := eq_true q4
              go_wp2
              go_roundg k1
              case measure => have := HK1.out; omega
              case rel => exact ⟨(wrap64 (x3_1 + 1)), rs_, H', ⟨by have := HK1.out; omega⟩, dr_⟩
             ·rw [if_neg c13] at H
              have c13b0 : ((bt a0 x3_1) == 45) = false := beq_eq_false_iff_ne.mpr c13
              have c13b1 : ((bt a0 x3_1) != 45) = true := bne_iff_ne.mpr c13
              obtain rfl := Option.some.inj H
              have p4 : 0 ≤ (x3_1 : Int) := of_decide_eq_true as_
              have q4 : x3_1 < (a0.size : Int) := of_decide_eq_true as_
              have hx4 := bt_at a0 x3_1
              replace p4 := eq_true p4
              replace q4 := eq_true q4
              go_wp2
              go_ret
              exact ⟨by first | rfl | (simp; done) | (simp [*]; done), dr_⟩
         ·rw [if_neg c9] at H
          have c9b0 : decide (48 ≤ (bt a0 x3_1)) = false := decide_eq_false c9
          clear c9
          by_cases c14 : (bt a0 x3_1) = 95
          ·rw [if_pos c14] at H
           have c14b0 : ((bt a0 x3_1) == 95) = true := beq_iff_eq.mpr c14
           have c14b1 : ((bt a0 x3_1) != 95) = false := bne_eq_false_iff_eq.mpr c14
           clear c14
           have H' := Aside0.mk H
           clear H
           have p4 : 0 ≤ (x3_1 : Int) := of_decide_eq_true as_
           have q4 : x3_1 < (a0.size : Int) := of_decide_eq_true as_
           have hx4 := bt_at a0 x3_1
           replace p4 := eq_true p4
           replace q4 := eq_true q4
           go_wp2
           go_roundg k1
           case measure => have := HK1.out; omega
           case rel => exact ⟨(wrap64 (x3_1 + 1)), rs_, H', ⟨by have := HK1.out; omega⟩, dr_⟩
          ·rw [if_neg c14] at H
           have c14b0 : ((bt a0 x3_1) == 95) = false := beq_eq_false_iff_ne.mpr c14
           have c14b1 : ((bt a0 x3_1) != 95) = true := bne_iff_ne.mpr c14
           by_cases c15 : (bt a0 x3_1) = 46
           ·rw [if_pos c15] at H
            have c15b0 : ((bt a0 x3_1) == 46) = true := beq_iff_eq.mpr c15
            have c15b1 : ((bt a0 x3_1) != 46) = false := bne_eq_false_iff_eq.mpr c15
            clear c15
            have H' := Aside0.mk H
            clear H
            have p4 : 0 ≤ (x3_1 : Int) := of_decide_eq_true as_
            have q4 : x3_1 < (a0.size : Int) := of_decide_eq_true as_
            have hx4 := bt_at a0 x3_1
            replace p4 := eq_true p4
            replace q4 := eq_true q4
            go_wp2
            go_roundg k1
            case measure => have := HK1.out; omega
            case rel => exact ⟨(wrap64 (x3_1 + 1)), rs_, H', ⟨by have := HK1.out; omega⟩, dr_⟩
           ·rw [if_neg c15] at H
            have c15b0 : ((bt a0 x3_1) == 46) = false := beq_eq_false_iff_ne.mpr c15
            have c15b1 : ((bt a0 x3_1) != 46) = true := bne_iff_ne.mpr c15
            by_cases c16 : ((bt a0 x3_1) = 45)
            ·rw [if_pos c16] at H
             have c16b0 : ((bt a0 x3_1) == 45) = true := beq_iff_eq.mpr c16
             have c16b1 : ((bt a0 x3_1) != 45) = false := bne_eq_false_iff_eq.mpr c16
             clear c16
             have H' := Aside0.mk H
             clear H
             have p4 : 0 ≤ (x3_1 : Int) := of_decide_eq_true as_
             have q4 : x3_1 < (a0.size : Int) := of_decide_eq_true as_
             have hx4 := bt_at a0 x3_1
             replace p4 := eq_true p4
             replace q4 := eq_true q4
             go_wp2
             go_roundg k1
             case measure => have := HK1.out; omega
             case rel => exact ⟨(wrap64 (x3_1 + 1)), rs_, H', ⟨by have := HK1.out; omega⟩, dr_⟩
            ·rw [if_neg c16] at H
             have c16b0 : ((bt a0 x3_1) == 45) = false := beq_eq_false_iff_ne.mpr c16
             have c16b1 : ((bt a0 x3_1) != 45) = true := bne_iff_ne.mpr c16
             obtain rfl := Option.some.inj H
             have p4 : 0 ≤ (x3_1 : Int) := of_decide_eq_true as_
             have q4 : x3_1 < (a0.size : Int) := of_decide_eq_true as_
             have hx4 := bt_at a0 x3_1
             replace p4 := eq_true p4
             replace q4 := eq_true q4
             go_wp2
             go_ret
             exact ⟨by first | rfl | (simp; done) | (simp [*]; done), dr_⟩
       ·rw [if_neg c7] at H
        have c7b0 : decide (65 ≤ (bt a0 x3_1)) = false := decide_eq_false c7
        clear c7
        by_cases c17 : (bt a0 x3_1) ≥ 48
        ·rw [if_pos c17] at H
         have c17b0 : decide (48 ≤ (bt a0 x3_1)) = true := decide_eq_true c17
         clear c17
         by_cases c18 : (bt a0 x3_1) ≤ 57
         ·rw [if_pos c18] at H
          have c18b0 : decide ((bt a0 x3_1) ≤ 57) = true := decide_eq_true c18
          clear c18
          have H' := Aside0.mk H
          clear H
          have p4 : 0 ≤ (x3_1 : Int) := of_decide_eq_true as_
          have q4 : x3_1 < (a0.size : Int) := of_decide_eq_true as_
          have hx4 := bt_at a0 x3_1
          replace p4 := eq_true p4
          replace q4 := eq_true q4
          go_wp2
          go_roundg k1
          case measure => have := HK1.out; omega
          case rel => exact ⟨(wrap64 (x3_1 + 1)), rs_, H', ⟨by have := HK1.out; omega⟩, dr_⟩
         ·rw [if_neg c18] at H
          have c18b0 : decide ((bt a0 x3_1) ≤ 57) = false := decide_eq_false c18
          clear c18
          by_cases c19 : (bt a0 x3_1) = 95
          ·rw [if_pos c19] at H
           have c19b0 : ((bt a0 x3_1) == 95) = true := beq_iff_eq.mpr c19
           have c19b1 : ((bt a0 x3_1) != 95) = false := bne_eq_false_iff_eq.mpr c19
           clear c19
           have H' := Aside0.mk H
           clear H
           have p4 : 0 ≤ (x3_1 : Int) := of_decide_eq_true as_
           have q4 : x3_1 < (a0.size : Int) := of_decide_eq_true as_
           have hx4 := bt_at a0 x3_1
           replace p4 := eq_true p4
           replace q4 := eq_true q4
           go_wp2
           go_roundg k1
           case measure => have := HK1.out; omega
           case rel => exact ⟨(wrap64 (x3_1 + 1)), rs_, H', ⟨by have := HK1.out; omega⟩, dr_⟩
          ·rw [if_neg c19] at H
           have c19b0 : ((bt a0 x3_1) == 95) = false := beq_eq_false_iff_ne.mpr c19
           have c19b1 : ((bt a0 x3_1) != 95) = true := bne_iff_ne.mpr c19
           by_cases c20 : (bt a0 x3_1) = 46
           ·rw [if_pos c20] at H
            have c20b0 : ((bt a0 x3_1) == 46) = true := beq_iff_eq.mpr c20
            have c20b1 : ((bt a0 x3_1) != 46) = false := bne_eq_false_iff_eq.mpr c20
            clear c20
            have H' := Aside0.mk H
            clear H
            have p4 : 0 ≤ (x3_1 : Int) := of_decide_eq_true as_
            have q4 : x3_1 < (a0.size : Int) := of_decide_eq_true as_
            have hx4 := bt_at a0 x3_1
            replace p4 := eq_true p4
            replace q4 := eq_true q4
            go_wp2
            go_roundg k1
            case measure => have := HK1.out; omega
            case rel => exact ⟨(wrap64 (x3_1 + 1)), rs_, H', ⟨by have := HK1.out; omega⟩, dr_⟩
           ·rw [if_neg c20] at H
            have c20b0 : ((bt a0 x3_1) == 46) = false := beq_eq_false_iff_ne.mpr c20
            have c20b1 : ((bt a0 x3_1) != 46) = true := bne_iff_ne.mpr c20
            by_cases c21 : ((bt a0 x3_1) = 45)
            ·rw [if_pos c21] at H
             have c21b0 : ((bt a0 x3_1) == 45) = true := beq_iff_eq.mpr c21
             have c21b1 : ((bt a0 x3_1) != 45) = false := bne_eq_false_iff_eq.mpr c21
             clear c21
             have H' := Aside0.mk H
             clear H
             have p4 : 0 ≤ (x3_1 : Int) := of_decide_eq_true as_
             have q4 : x3_1 < (a0.size : Int) := of_decide_eq_true as_
             have hx4 := bt_at a0 x3_1
             replace p4 := eq_true p4
             replace q4 := eq_true q4
             go_wp2
             go_roundg k1
             case measure => have := HK1.out; omega
             case rel => exact ⟨(wrap64 (x3_1 + 1)), rs_, H', ⟨by have := HK1.out; omega⟩, dr_⟩
            ·rw [if_neg c21] at H
             have c21b0 : ((bt a0 x3_1) == 45) = false := beq_eq_false_iff_ne.mpr c21
             have c21b1 : ((bt a0 x3_1) != 45) = true := bne_iff_ne.mpr c21
             obtain rfl := Option.some.inj H
             have p4 : 0 ≤ (x3_1 : Int) := of_decide_eq_true as_
             have q4 : x3_1 < (a0.size : Int) := of_decide_eq_true as_
             have hx4 := bt_at a0 x3_1
             replace p4 := eq_true p4
             replace q4 := eq_true q4
             go_wp2
             go_ret
             exact ⟨by first | rfl | (simp; done) | (simp [*]; done), dr_⟩
        ·rw [if_neg c17] at H
         have c17b0 : decide (48 ≤ (bt a0 x3_1)) = false := decide_eq_false c17
         clear c17
         by_cases c22 : (bt a0 x3_1) = 95
         ·rw [if_pos c22] at H
          have c22b0 : ((bt a0 x3_1) == 95) = true := beq_iff_eq.mpr c22
          have c22b1 : ((bt a0 x3_1) != 95) = false := bne_eq_false_iff_eq.mpr c22
          clear c22
          have H' := Aside0.mk H
          clear H
          have p4 : 0 ≤ (x3_1 : Int) := of_decide_eq_true as_
          have q4 : x3_1 < (a0.size : Int) := of_decide_eq_true as_
          have hx4 := bt_at a0 x3_1
          replace p4 := eq_true p4
          replace q4 := eq_true q4
          go_wp2
          go_roundg k1
          case measure => have := HK1.out; omega
          case rel => exact ⟨(wrap64 (x3_1 + 1)), rs_, H', ⟨by have := HK1.out; omega⟩, dr_⟩
         ·rw [if_neg c22] at H
          have c22b0 : ((bt a0 x3_1) == 95) = false := beq_eq_false_iff_ne.mpr c22
          have c22b1 : ((bt a0 x3_1) != 95) = true := bne_iff_ne.mpr c22
          by_cases c23 : (bt a0 x3_1) = 46
          ·rw [if_pos c23] at H
           have c23b0 : ((bt a0 x3_1) == 46) = true := beq_iff_eq.mpr c23
           have c23b1 : ((bt a0 x3_1) != 46) = false := bne_eq_false_iff_eq.mpr c23
           clear c23
           have H' := Aside0.mk H
           clear H
           have p4 : 0 ≤ (x3_1 : Int) := of_decide_eq_true as_
           have q4 : x3_1 < (a0.size : Int) := of_decide_eq_true as_
           have hx4 := bt_at a0 x3_1
           replace p4 := eq_true p4
           replace q4 := eq_true q4
           go_wp2
           go_roundg k1
           case measure => have := HK1.out; omega
           case rel => exact ⟨(wrap64 (x3_1 + 1)), rs_, H', ⟨by have := HK1.out; omega⟩, dr_⟩
          ·rw [if_neg c23] at H
           have c23b0 : ((bt a0 x3_1) == 46) = false := beq_eq_false_iff_ne.mpr c23
           have c23b1 : ((bt a0 x3_1) != 46) = true := bne_iff_ne.mpr c23
           by_cases c24 : ((bt a0 x3_1) = 45)
           ·rw [if_pos c24] at H
            have c24b0 : ((bt a0 x3_1) == 45) = true := beq_iff_eq.mpr c24
            have c24b1 : ((bt a0 x3_1) != 45) = false := bne_eq_false_iff_eq.mpr c24
            clear c24
            have H' := Aside0.mk H
            clear H
            have p4 : 0 ≤ (x3_1 : Int) := of_decide_eq_true as_
            have q4 : x3_1 < (a0.size : Int) := of_decide_eq_true as_
            have hx4 := bt_at a0 x3_1
            replace p4 := eq_true p4
            replace q4 := eq_true q4
            go_wp2
            go_roundg k1
            case measure => have := HK1.out; omega
            case rel => exact ⟨(wrap64 (x3_1 + 1)), rs_, H', ⟨by have := HK1.out; omega⟩, dr_⟩
           ·rw [if_neg c24] at H
            have c24b0 : ((bt a0 x3_1) == 45) = false := beq_eq_false_iff_ne.mpr c24
            have c24b1 : ((bt a0 x3_1) != 45) = true := bne_iff_ne.mpr c24
            obtain rfl := Option.some.inj H
            have p4 : 0 ≤ (x3_1 : Int) := of_decide_eq_true as_
            have q4 : x3_1 < (a0.size : Int) := of_decide_eq_true as_
            have hx4 := bt_at a0 x3_1
            replace p4 := eq_true p4
            replace q4 := eq_true q4
            go_wp2
            go_ret
            exact ⟨by first | rfl | (simp; done) | (simp [*]; done), dr_⟩
     ·rw [if_neg c5] at H
      have c5b0 : decide (97 ≤ (bt a0 x3_1)) = false := decide_eq_false c5
      clear c5
      by_cases c25 : (bt a0 x3_1) ≥ 65
      ·rw [if_pos c25] at H
       have c25b0 : decide (65 ≤ (bt a0 x3_1)) = true := decide_eq_true c25
       clear c25
       by_cases c26 : (bt a0 x3_1) ≤ 90
       ·rw [if_pos c26] at H
        have c26b0 : decide ((bt a0 x3_1) ≤ 90) = true := decide_eq_true c26
        clear c26
        have H' := Aside0.mk H
        clear H
        have p4 : 0 ≤ (x3_1 : Int) := of_decide_eq_true as_
        have q4 : x3_1 < (a0.size : Int) := of_decide_eq_true as_
        have hx4 := bt_at a0 x3_1
        replace p4 := eq_true p4
        replace q4 := eq_true q4
        go_wp2
        go_roundg k1
        case measure => have := HK1.out; omega
        case rel => exact ⟨(wrap64 (x3_1 + 1)), rs_, H', ⟨by have := HK1.out; omega⟩, dr_⟩
       ·rw [if_neg c26] at H
        have c26b0 : decide ((bt a0 x3_1) ≤ 90) = false := decide_eq_false c26
        clear c26
        by_cases c27 : (bt a0 x3_1) ≥ 48
        ·rw [if_pos c27] at H
         have c27b0 : decide (48 ≤ (bt a0 x3_1)) = true := decide_eq_true c27
         clear c27
         by_cases c28 : (bt a0 x3_1) ≤ 57
         ·rw [if_pos c28] at H
          have c28b0 : decide ((bt a0 x3_1) ≤ 57) = true := decide_eq_true c28
          clear c28
          have H' := Aside0.mk H
          clear H
          have p4 : 0 ≤ (x3_1 : Int) := of_decide_eq_true as_
          have q4 : x3_1 < (a0.size : Int) := of_decide_eq_true as_
          have hx4 := bt_at a0 x3_1
          replace p4 := eq_true p4
          replace q4 := eq_true q4
          go_wp2
          go_roundg k1
          case measure => have := HK1.out; omega
          case rel => exact ⟨(wrap64 (x3_1 + 1)), rs_, H', ⟨by have := HK1.out; omega⟩, dr_⟩
         ·rw [if_neg c28] at H
          have c28b0 : decide ((bt a0 x3_1) ≤ 57) = false := decide_eq_false c28
          clear c28
          by_cases c29 : (bt a0 x3_1) = 95
          ·rw [if_pos c29] at H
           have c29b0 : ((bt a0 x3_1) == 95) = true := beq_iff_eq.mpr c29
           have c29b1 : ((bt a0 x3_1) != 95) = false := bne_eq_false_iff_eq.mpr c29
           clear c29
           have H' := Aside0.mk H
           clear H
           have p4 : 0 ≤ (x3_1 : Int) := of_decide_eq_true as_
           have q4 : x3_1 < (a0.size : Int) := of_decide_eq_true as_
           have hx4 := bt_at a0 x3_1
           replace p4 := eq_true p4
           replace q4 := eq_true q4
           go_wp2
           go_roundg k1
           case measure => have := HK1.out; omega
           case rel => exact ⟨(wrap64 (x3_1 + 1)), rs_, H', ⟨by have := HK1.out; omega⟩, dr_⟩
          ·rw [if_neg c29] at H
           have c29b0 : ((bt a0 x3_1) == 95) = false := beq_eq_false_iff_ne.mpr c29
           have c29b1 : ((bt a0 x3_1) != 95) = true := bne_iff_ne.mpr c29
           by_cases c30 : (bt a0 x3_1) = 46
           ·rw [if_pos c30] at H
            have c30b0 : ((bt a0 x3_1) == 46) = true := beq_iff_eq.mpr c30
            have c30b1 : ((bt a0 x3_1) != 46) = false := bne_eq_false_iff_eq.mpr c30
            clear c30
            have H' := Aside0.mk H
            clear H
            have p4 : 0 ≤ (x3_1 : Int) := of_decide_eq_true as_
            have q4 : x3_1 < (a0.size : Int) := of_decide_eq_true as_
            have hx4 := bt_at a0 x3_1
            replace p4 := eq_true p4
            replace q4 := eq_true q4
            go_wp2
            go_roundg k1
            case measure => have := HK1.out; omega
            case rel => exact ⟨(wrap64 (x3_1 + 1)), rs_, H', ⟨by have := HK1.out; omega⟩, dr_⟩
           ·rw [if_neg c30] at H
            have c30b0 : ((bt a0 x3_1) == 46) = false := beq_eq_false_iff_ne.mpr c30
            have c30b1 : ((bt a0 x3_1) != 46) = true := bne_iff_ne.mpr c30
            by_cases c31 : ((bt a0 x3_1) = 45)
            ·rw [if_pos c31] at H
             have c31b0 : ((bt a0 x3_1) == 45) = true := beq_iff_eq.mpr c31
             have c31b1 : ((bt a0 x3_1) != 45) = false := bne_eq_false_iff_eq.mpr c31
             clear c31
             have H' := Aside0.mk H
             clear H
             have p4 : 0 ≤ (x3_1 : Int) := of_decide_eq_true as_
             have q4 : x3_1 < (a0.size : Int) := of_decide_eq_true as_
             have hx4 := bt_at a0 x3_1
             replace p4 := eq_true p4
             replace q4 := eq_true q4
             go_wp2
             go_roundg k1
             case measure => have := HK1.out; omega
             case rel => exact ⟨(wrap64 (x3_1 + 1)), rs_, H', ⟨by have := HK1.out; omega⟩, dr_⟩
            ·rw [if_neg c31] at H
             have c31b0 : ((bt a0 x3_1) == 45) = false := beq_eq_false_iff_ne.mpr c31
             have c31b1 : ((bt a0 x3_1) != 45) = true := bne_iff_ne.mpr c31
             obtain rfl := Option.some.inj H
             have p4 : 0 ≤ (x3_1 : Int) := of_decide_eq_true as_
             have q4 : x3_1 < (a0.size : Int) := of_decide_eq_true as_
             have hx4 := bt_at a0 x3_1
             replace p4 := eq_true p4
             replace q4 := eq_true q4
             go_wp2
             go_ret
             exact ⟨by first | rfl | (simp; done) | (simp [*]; done), dr_⟩
        ·rw [if_neg c27] at H
         have c27b0 : decide (48 ≤ (bt a0 x3_1)) = false := decide_eq_false c27
         clear c27
         by_cases c32 : (bt a0 x3_1) = 95
         ·rw [if_pos c32] at H
          have c32b0 : ((bt a0 x3_1) == 95) = true := beq_iff_eq.mpr c32
          have c32b1 : ((bt a0 x3_1) != 95) = false := bne_eq_false_iff_eq.mpr c32
          clear c32
          have H' := Aside0.mk H
          clear H
          have p4 : 0 ≤ (x3_1 : Int) := of_decide_eq_true as_
          have q4 : x3_1 < (a0.size : Int) := of_decide_eq_true as_
          have hx4 := bt_at a0 x3_1
          replace p4 := eq_true p4
          replace q4 := eq_true q4
          go_wp2
          go_roundg k1
          case measure => have := HK1.out; omega
          case rel => exact ⟨(wrap64 (x3_1 + 1)), rs_, H', ⟨by have := HK1.out; omega⟩, dr_⟩
         ·rw [if_neg c32] at H
          have c32b0 : ((bt a0 x3_1) == 95) = false := beq_eq_false_iff_ne.mpr c32
          have c32b1 : ((bt a0 x3_1) != 95) = true := bne_iff_ne.mpr c32
          by_cases c33 : (bt a0 x3_1) = 46
          ·rw [if_pos c33] at H
           have c33b0 : ((bt a0 x3_1) == 46) = true := beq_iff_eq.mpr c33
           have c33b1 : ((bt a0 x3_1) != 46) = false := bne_eq_false_iff_eq.mpr c33
           clear c33
           have H' := Aside0.mk H
           clear H
           have p4 : 0 ≤ (x3_1 : Int) := of_decide_eq_true as_
           have q4 : x3_1 < (a0.size : Int) := of_decide_eq_true as_
           have hx4 := bt_at a0 x3_1
           replace p4 := eq_true p4
           replace q4 := eq_true q4
           go_wp2
           go_roundg k1
           case measure => have := HK1.out; omega
           case rel => exact ⟨(wrap64 (x3_1 + 1)), rs_, H', ⟨by have := HK1.out; omega⟩, dr_⟩
          ·rw [if_neg c33] at H
           have c33b0 : ((bt a0 x3_1) == 46) = false := beq_eq_false_iff_ne.mpr c33
           have c33b1 : ((bt a0 x3_1) != 46) = true := bne_iff_ne.mpr c33
           by_cases c34 : ((bt a0 x3_1) = 45)
           ·rw [if_pos c34] at H
            have c34b0 : ((bt a0 x3_1) == 45) = true := beq_iff_eq.mpr c34
            have c34b1 : ((bt a0 x3_1) != 45) = false := bne_eq_false_iff_eq.mpr c34
            clear c34
            have H' := Aside0.mk H
            clear H
            have p4 : 0 ≤ (x3_1 : Int) := of_decide_eq_true as_
            have q4 : x3_1 < (a0.size : Int) := of_decide_eq_true as_
            have hx4 := bt_at a0 x3_1
            replace p4 := eq_true p4
            replace q4 := eq_true q4
            go_wp2
            go_roundg k1
            case measure => have := HK1.out; omega
            case rel => exact ⟨(wrap64 (x3_1 + 1)), rs_, H', ⟨by have := HK1.out; omega⟩, dr_⟩
           ·rw [if_neg c34] at H
            have c34b0 : ((bt a0 x3_1) == 45) = false := beq_eq_false_iff_ne.mpr c34
            have c34b1 : ((bt a0 x3_1) != 45) = true := bne_iff_ne.mpr c34
            obtain rfl := Option.some.inj H
            have p4 : 0 ≤ (x3_1 : Int) := of_decide_eq_true as_
            have q4 : x3_1 < (a0.size : Int) := of_decide_eq_true as_
            have hx4 := bt_at a0 x3_1
            replace p4 := eq_true p4
            replace q4 := eq_true q4
            go_wp2
            go_ret
            exact ⟨by first | rfl | (simp; done) | (simp [*]; done), dr_⟩
      ·rw [if_neg c25] at H
       have c25b0 : decide (65 ≤ (bt a0 x3_1)) = false := decide_eq_false c25
       clear c25
       by_cases c35 : (bt a0 x3_1) ≥ 48
       ·rw [if_pos c35] at H
        have c35b0 : decide (48 ≤ (bt a0 x3_1)) = true := decide_eq_true c35
        clear c35
        by_cases c36 : (bt a0 x3_1) ≤ 57
        ·rw [if_pos c36] at H
         have c36b0 : decide ((bt a0 x3_1) ≤ 57) = true := decide_eq_true c36
         clear c36
         have H' := Aside0.mk H
         clear H
         have p4 : 0 ≤ (x3_1 : Int) := of_decide_eq_true as_
         have q4 : x3_1 < (a0.size : Int) := of_decide_eq_true as_
         have hx4 := bt_at a0 x3_1
         replace p4 := eq_true p4
         replace q4 := eq_true q4
         go_wp2
         go_roundg k1
         case measure => have := HK1.out; omega
         case rel => exact ⟨(wrap64 (x3_1 + 1)), rs_, H', ⟨by have := HK1.out; omega⟩, dr_⟩
        ·rw [if_neg c36] at H
         have c36b0 : decide ((bt a0 x3_1) ≤ 57) = false := decide_eq_false c36
         clear c36
         by_cases c37 : (bt a0 x3_1) = 95
         ·rw [if_pos c37] at H
          have c37b0 : ((bt a0 x3_1) == 95) = true := beq_iff_eq.mpr c37
          have c37b1 : ((bt a0 x3_1) != 95) = false := bne_eq_false_iff_eq.mpr c37
          clear c37
          have H' := Aside0.mk H
          clear H
          have p4 : 0 ≤ (x3_1 : Int) := of_decide_eq_true as_
          have q4 : x3_1 < (a0.size : Int) := of_decide_eq_true as_
          have hx4 := bt_at a0 x3_1
          replace p4 := eq_true p4
          replace q4 := eq_true q4
          go_wp2
          go_roundg k1
          case measure => have := HK1.out; omega
          case rel => exact ⟨(wrap64 (x3_1 + 1)), rs_, H', ⟨by have := HK1.out; omega⟩, dr_⟩
         ·rw [if_neg c37] at H
          have c37b0 : ((bt a0 x3_1) == 95) = false := beq_eq_false_iff_ne.mpr c37
          have c37b1 : ((bt a0 x3_1) != 95) = true := bne_iff_ne.mpr c37
          by_cases c38 : (bt a0 x3_1) = 46
          ·rw [if_pos c38] at H
           have c38b0 : ((bt a0 x3_1) == 46) = true := beq_iff_eq.mpr c38
           have c38b1 : ((bt a0 x3_1) != 46) = false := bne_eq_false_iff_eq.mpr c38
           clear c38
           have H' := Aside0.mk H
           clear H
           have p4 : 0 ≤ (x3_1 : Int) := of_decide_eq_true as_
           have q4 : x3_1 < (a0.size : Int) := of_decide_eq_true as_
           have hx4 := bt_at a0 x3_1
           replace p4 := eq_true p4
           replace q4 := eq_true q4
           go_wp2
           go_roundg k1
           case measure => have := HK1.out; omega
           case rel => exact ⟨(wrap64 (x3_1 + 1)), rs_, H', ⟨by have := HK1.out; omega⟩, dr_⟩
          ·rw [if_neg c38] at H
           have c38b0 : ((bt a0 x3_1) == 46) = false := beq_eq_false_iff_ne.mpr c38
           have c38b1 : ((bt a0 x3_1) != 46) = true := bne_iff_ne.mpr c38
           by_cases c39 : ((bt a0 x3_1) = 45)
           ·rw [if_pos c39] at H
            have c39b0 : ((bt a0 x3_1) == 45) = true := beq_iff_eq.mpr c39
            have c39b1 : ((bt a0 x3_1) != 45) = false := bne_eq_false_iff_eq.mpr c39
            clear c39
            have H' := Aside0.mk H
            clear H
            have p4 : 0 ≤ (x3_1 : Int) := of_decide_eq_true as_
            have q4 : x3_1 < (a0.size : Int) := of_decide_eq_true as_
            have hx4 := bt_at a0 x3_1
            replace p4 := eq_true p4
            replace q4 := eq_true q4
            go_wp2
            go_roundg k1
            case measure => have := HK1.out; omega
            case rel => exact ⟨(wrap64 (x3_1 + 1)), rs_, H', ⟨by have := HK1.out; omega⟩, dr_⟩
           ·rw [if_neg c39] at H
            have c39b0 : ((bt a0 x3_1) == 45) = false := beq_eq_false_iff_ne.mpr c39
            have c39b1 : ((bt a0 x3_1) != 45) = true := bne_iff_ne.mpr c39
            obtain rfl := Option.some.inj H
            have p4 : 0 ≤ (x3_1 : Int) := of_decide_eq_true as_
            have q4 : x3_1 < (a0.size : Int) := of_decide_eq_true as_
            have hx4 := bt_at a0 x3_1
            replace p4 := eq_true p4
            replace q4 := eq_true q4
            go_wp2
            go_ret
            exact ⟨by first | rfl | (simp; done) | (simp [*]; done), dr_⟩
       ·rw [if_neg c35] at H
        have c35b0 : decide (48 ≤ (bt a0 x3_1)) = false := decide_eq_false c35
        clear c35
        by_cases c40 : (bt a0 x3_1) = 95
        ·rw [if_pos c40] at H
         have c40b0 : ((bt a0 x3_1) == 95) = true := beq_iff_eq.mpr c40
         have c40b1 : ((bt a0 x3_1) != 95) = false := bne_eq_false_iff_eq.mpr c40
         clear c40
         have H' := Aside0.mk H
         clear H
         have p4 : 0 ≤ (x3_1 : Int) := of_decide_eq_true as_
         have q4 : x3_1 < (a0.size : Int) := of_decide_eq_true as_
         have hx4 := bt_at a0 x3_1
         replace p4 := eq_true p4
         replace q4 := eq_true q4
         go_wp2
         go_roundg k1
         case measure => have := HK1.out; omega
         case rel => exact ⟨(wrap64 (x3_1 + 1)), rs_, H', ⟨by have := HK1.out; omega⟩, dr_⟩
        ·rw [if_neg c40] at H
         have c40b0 : ((bt a0 x3_1) == 95) = false := beq_eq_false_iff_ne.mpr c40
         have c40b1 : ((bt a0 x3_1) != 95) = true := bne_iff_ne.mpr c40
         by_cases c41 : (bt a0 x3_1) = 46
         ·rw [if_pos c41] at H
          have c41b0 : ((bt a0 x3_1) == 46) = true := beq_iff_eq.mpr c41
          have c41b1 : ((bt a0 x3_1) != 46) = false := bne_eq_false_iff_eq.mpr c41
          clear c41
          have H' := Aside0.mk H
          clear H
          have p4 : 0 ≤ (x3_1 : Int) := of_decide_eq_true as_
          have q4 : x3_1 < (a0.size : Int) := of_decide_eq_true as_
          have hx4 := bt_at a0 x3_1
          replace p4 := eq_true p4
          replace q4 := eq_true q4
          go_wp2
          go_roundg k1
          case measure => have := HK1.out; omega
          case rel => exact ⟨(wrap64 (x3_1 + 1)), rs_, H', ⟨by have := HK1.out; omega⟩, dr_⟩
         ·rw [if_neg c41] at H
          have c41b0 : ((bt a0 x3_1) == 46) = false := beq_eq_false_iff_ne.mpr c41
          have c41b1 : ((bt a0 x3_1) != 46) = true := bne_iff_ne.mpr c41
          by_cases c42 : ((bt a0 x3_1) = 45)
          ·rw [if_pos c42] at H
           have c42b0 : ((bt a0 x3_1) == 45) = true := beq_iff_eq.mpr c42
           have c42b1 : ((bt a0 x3_1) != 45) = false := bne_eq_false_iff_eq.mpr c42
           clear c42
           have H' := Aside0.mk H
           clear H
           have p4 : 0 ≤ (x3_1 : Int) := of_decide_eq_true as_
           have q4 : x3_1 < (a0.size : Int) := of_decide_eq_true as_
           have hx4 := bt_at a0 x3_1
           replace p4 := eq_true p4
           replace q4 := eq_true q4
           go_wp2
           go_roundg k1
           case measure => have := HK1.out; omega
           case rel => exact ⟨(wrap64 (x3_1 + 1)), rs_, H', ⟨by have := HK1.out; omega⟩, dr_⟩
          ·rw [if_neg c42] at H
           have c42b0 : ((bt a0 x3_1) == 45) = false := beq_eq_false_iff_ne.mpr c42
           have c42b1 : ((bt a0 x3_1) != 45) = true := bne_iff_ne.mpr c42
           obtain rfl := Option.some.inj H
           have p4 : 0 ≤ (x3_1 : Int) := of_decide_eq_true as_
           have q4 : x3_1 < (a0.size : Int) := of_decide_eq_true as_
           have hx4 := bt_at a0 x3_1
           replace p4 := eq_true p4
           replace q4 := eq_true q4
           go_wp2
           go_ret
           exact ⟨by first | rfl | (simp; done) | (simp [*]; done), dr_⟩
    ·rw [if_neg c3] at H
     exact absurd H (by simp)
   ·rw [if_neg c2] at H
    have c2b0 : decide (x3_1 < (a0.size : Int)) = false := decide_eq_false c2
    clear c2
    by_cases c43 : (a0.size : Int) ≥ 1
    ·rw [if_pos c43] at H
     have c43b0 : decide (1 ≤ (a0.size : Int)) = true := decide_eq_true c43
     have c43b1 : decide (1 ≤ a0.size) = true := decide_eq_true (by omega)
     clear c43
     obtain rfl := Option.some.inj H
     go_wp2
     go_ret
     exact ⟨by first | rfl | (simp; done) | (simp [*]; done), dr_⟩
    ·rw [if_neg c43] at H
     have c43b0 : decide (1 ≤ (a0.size : Int)) = false := decide_eq_false c43
     have c43b1 : decide (1 ≤ a0.size) = false := decide_eq_false (by omega)
     clear c43
     obtain rfl := Option.some.inj H
     go_wp2
     go_ret
     exact ⟨by first | rfl | (simp; done) | (simp [*]; done), dr_⟩
def dragnetref20_begins.f (a0 : ByteArray) (a1 : ByteArray) : Option (Bool) := if (a0.size : Int) ≥ (a1.size : Int) then (if 0 ≤ (a1.size : Int) then (if (a1.size : Int) ≤ (a0.size : Int) then (some ((a0.extract 0 ((a1.size : Int) : Int).toNat).toList == a1.toList)) else (none)) else (none)) else (some false)
theorem dragnetref20_begins.calls (a0 : ByteArray) (a1 : ByteArray) (r : Bool) (w : World) (h : dragnetref20_begins.f a0 a1 = some r) :
  Calls Tryz.prog 70 #[.string a0, .string a1] w fun e w' => e = .returned (.bool r) ∧ Drawn0 w w' := by
 have H : (if (a0.size : Int) ≥ (a1.size : Int) then (if 0 ≤ (a1.size : Int) then (if (a1.size : Int) ≤ (a0.size : Int) then (some ((a0.extract 0 ((a1.size : Int) : Int).toNat).toList == a1.toList)) else (none)) else (none)) else (some false)) = some r := h
 clear h
 by_cases c3 : (a0.size : Int) ≥ (a1.size : Int)
 ·rw [if_pos c3] at H
  have c3b0 : decide ((a1.size : Int) ≤ (a0.size : Int)) = true := decide_eq_true c3
  have c3b1 : decide (a1.size ≤ a0.size) = true := decide_eq_true (Int.ofNat_le.mp c3)
  clear c3
  by_cases c4 : 0 ≤ (a1.size : Int)
  ·rw [if_pos c4] at H
   have c4b0 := eq_true c4
   have c4b1 : decide (0 ≤ (a1.size : Int)) = true := decide_eq_true c4
   clear c4
   by_cases c5 : (a1.size : Int) ≤ (a0.size : Int)
   ·rw [if_pos c5] at H
    have c5b0 := eq_true c5
    have c5b1 : decide ((a1.size : Int) ≤ (a0.size : Int)) = true := decide_eq_true c5
    clear c5
    obtain rfl := Option.some.inj H
    go_enter Tryz.func70, Tryz.ntmps70
    go_wp2
    go_ret
    exact ⟨by first | rfl | (simp; done) | (simp [*]; done), dr_⟩
   ·rw [if_neg c5] at H
    exact absurd H (by simp)
  ·rw [if_neg c4] at H
   exact absurd H (by simp)
 ·rw [if_neg c3] at H
  have c3b0 : decide ((a1.size : Int) ≤ (a0.size : Int)) = false := decide_eq_false c3
  have c3b1 : decide (a1.size ≤ a0.size) = false := decide_eq_false (fun h => c3 (Int.ofNat_le.mpr h))
  clear c3
  obtain rfl := Option.some.inj H
  go_enter Tryz.func70, Tryz.ntmps70
  go_wp2
  go_ret
  exact ⟨by first | rfl | (simp; done) | (simp [*]; done), dr_⟩
def dragnetref20_inside.l0 : Nat → ByteArray → ByteArray → Int → Option (Bool)
 | 0, _, _, _ => none
 | k + 1, x0, x1, x5 => if x5 ≤ (x0.size : Int) then (if 0 ≤ x5 then ((dragnetref20_begins.f (x0.extract (x5 : Int).toNat x0.size) x1).bind fun t187 => (if t187 = true then (some true) else (dragnetref20_inside.l0 k x0 x1 (wrap64 (x5 + 1))))) else (none)) else (some false)
def dragnetref20_inside.f (k : Nat) (a0 : ByteArray) (a1 : ByteArray) : Option (Bool) := dragnetref20_inside.l0 k a0 a1 0
theorem dragnetref20_inside.calls (k : Nat) (a0 : ByteArray) (a1 : ByteArray) (r : Bool) (w : World) (h : dragnetref20_inside.f k a0 a1 = some r) :
  Calls Tryz.prog 65 #[.string a0, .string a1] w fun e w' => e = .returned (.bool r) ∧ Drawn0 w w' := by
 have H : (dragnetref20_inside.l0 k a0 a1 0) = some r := h
 clear h
 have H' := Aside0.mk H
 clear H
 go_enter Tryz.func65, Tryz.ntmps65
 go_wp2
 go_loopg [5] k (fun kq v5 w' => ∃ (x5_1 : Int), v5 = .int .i64 x5_1 ∧ Aside0 (dragnetref20_inside.l0 kq a0 a1 x5_1 = some r) ∧ Aside0 (kq ≤ k) ∧ Drawn0 w w')
 case atStart => exact ⟨(0), rs_, H', ⟨Nat.le_refl _⟩, dr_⟩
 case round =>
  clear H'
  try clear p2
  obtain ⟨x5_1, rfl, HA, HK1, ⟨m1, rfl⟩⟩ := hrel
  cases gk with
  | zero => exact absurd HA.out (by simp [dragnetref20_inside.l0])
  | succ k1 =>
   have H := HA.out
   clear HA
   simp only [dragnetref20_inside.l0] at H
   by_cases c3 : x5_1 ≤ (a0.size : Int)
   ·rw [if_pos c3] at H
    have c3b0 : decide (x5_1 ≤ (a0.size : Int)) = true := decide_eq_true c3
    clear c3
    by_cases c4 : 0 ≤ x5_1
    ·rw [if_pos c4] at H
     have c4b0 := eq_true c4
     have c4b1 : decide (0 ≤ x5_1) = true := decide_eq_true c4
     clear c4
     have c5b0 := eq_true (of_decide_eq_true as_ : x5_1 ≤ (a0.size : Int))
     replace H := Option.bind_eq_some_iff.mp H
     obtain ⟨t187, A60, H⟩ := H
     replace H : (if t187 = true then (some true) else (dragnetref20_inside.l0 k1 a0 a1 (wrap64 (x5_1 + 1)))) = some r := H
     have A6 := Aside0.mk A60
     clear A60
     by_cases c7 : t187 = true
     ·subst c7
      have H1 : (some true) = some r := by rw [if_pos rfl] at H; exact H
      clear H
      have H := H1
      clear H1
      obtain rfl := Option.some.inj H
      go_wp2_with (first | ((with_reducible refine gate_callee (f := 70) rfl ?_); refine goesL_ (some 16) rfl rfl Tryz.func70 (by kernel_rfl) rfl #[.string (a0.extract (x5_1 : Int).toNat a0.size), .string a1] rfl mp_ ?_; (with_reducible refine (dragnetref20_begins.calls (a0.extract (x5_1 : Int).toNat a0.size) a1 true _ A6.out).mono ?_); rintro e w' ⟨rfl, ⟨nd, rfl⟩⟩; refine ⟨_, rfl, ?_⟩))
      go_ret
      exact ⟨by first | rfl | (simp; done) | (simp [*]; done), dr_⟩
     ·replace c7 := Bool.eq_false_iff.mpr c7
      subst c7
      have H1 : (dragnetref20_inside.l0 k1 a0 a1 (wrap64 (x5_1 + 1))) = some r := by rw [if_neg (show ¬ (false = true) by decide)] at H; exact H
      clear H
      have H := H1
      clear H1
      have H' := Aside0.mk H
      clear H
      go_wp2_with (first | ((with_reducible refine gate_callee (f := 70) rfl ?_); refine goesL_ (some 16) rfl rfl Tryz.func70 (by kernel_rfl) rfl #[.string (a0.extract (x5_1 : Int).toNat a0.size), .string a1] rfl mp_ ?_; (with_reducible refine (dragnetref20_begins.calls (a0.extract (x5_1 : Int).toNat a0.size) a1 false _ A6.out).mono ?_); rintro e w' ⟨rfl, ⟨nd, rfl⟩⟩; refine ⟨_, rfl, ?_⟩))
      go_roundg k1
      case measure => have := HK1.out; omega
      case rel => exact ⟨(wrap64 (x5_1 + 1)), rs_, H', ⟨by have := HK1.out; omega⟩, dr_⟩
    ·rw [if_neg c4] at H
     exact absurd H (by simp)
   ·rw [if_neg c3] at H
    have c3b0 : decide (x5_1 ≤ (a0.size : Int)) = false := decide_eq_false c3
    clear c3
    obtain rfl := Option.some.inj H
    go_wp2
    go_ret
    exact ⟨by first | rfl | (simp; done) | (simp [*]; done), dr_⟩
def dragnetref08_At.l0 : Nat → List (S110) → ByteArray → Int → Option (ByteArray × Int × Int × ByteArray × Bool)
 | 0, _, _, _ => none
 | k + 1, x0, x1, x6 => if x6 < (x0.length : Int) then (if 0 ≤ x6 then (if ((rd_T110 x0 x6).f0).toList = x1.toList then (some ((rd_T110 x0 x6).f0, (rd_T110 x0 x6).f1, (rd_T110 x0 x6).f2, (rd_T110 x0 x6).f3, true)) else (dragnetref08_At.l0 k x0 x1 (wrap64 (x6 + 1)))) else (none)) else (some ((⟨#[]⟩ : ByteArray), 0, 0, (⟨#[]⟩ : ByteArray), false))
def dragnetref08_At.f (k : Nat) (l0 : List (S110)) (a1 : ByteArray) : Option (ByteArray × Int × Int × ByteArray × Bool) := dragnetref08_At.l0 k l0 a1 0
theorem dragnetref08_At.calls (k : Nat) (A0 : Option Addr) (c0 : Nat) (l0 : List (S110)) (a1 : ByteArray) (r1 : ByteArray) (r2 : Int) (r3 : Int) (r4 : ByteArray) (r5 : Bool) (w : World) (hr0 : Kd.C k110 w A0 l0.length l0) (hc0 : l0.length ≤ c0) (h : dragnetref08_At.f k l0 a1 = some (r1, r2, r3, r4, r5)) :
  Calls Tryz.prog 92 #[.slice A0 l0.length c0, .string a1] w fun e w' => e = .returned (.tuple #[.agg #[.string r1, .int .i64 r2, .int .i64 r3, .string r4], .bool r5]) ∧ Below w.heap.size w w' := by
 have hu110 := Tryz.underlying110
 have HR0 := Aside0.mk hr0
 have HC0 := Aside0.mk hc0
 clear hr0 hc0
 have HB := Aside0.mk (Below.refl w.heap.size w)
 have H : (dragnetref08_At.l0 k l0 a1 0) = some (r1, r2, r3, r4, r5) := h
 clear h
 have H' := Aside0.mk H
 clear H
 go_enter Tryz.func92, Tryz.ntmps92
 go_wp2_with (first | ((with_reducible refine gate_dst (N := 4) rfl ?_); refine box_event ?hg (N := 4) ?hd (cs := #[.string (⟨#[]⟩ : ByteArray), .int .i64 0, .int .i64 0, .string (⟨#[]⟩ : ByteArray)]) (t := 110) ?hr ?_; (case hd => rfl); (case hg => rfl); (case hr => first | (go_simp; done) | (go_simp; rfl) | (go_simp; simp only [wAl, wAr, wSl, wSr, wW])); intro gb188 hg w3 hbox hb; have n0_ := bsA HB hb; have n1_ := Aside0.mk (hbox); have n2_ := szA HB hg; have n3_ := szA HB hg; clear HB; have HB := n0_; have BK188 := n1_; have GW188 := n2_; have GE188 := n3_; clear n0_ n1_ n2_ n3_; clear hb hbox hg))
 go_loopg [6] k (fun kq v6 w' => ∃ (x6_1 : Int) (x189000_1 : ByteArray) (x189001_1 : Int) (x189002_1 : Int) (x189003_1 : ByteArray), v6 = .int .i64 x6_1 ∧ Aside0 (dragnetref08_At.l0 kq l0 a1 x6_1 = some (r1, r2, r3, r4, r5)) ∧ Aside0 (kq ≤ k) ∧ Aside0 (w'.heap[gb188]? = some (.cells #[.string x189000_1, .int .i64 x189001_1, .int .i64 x189002_1, .string x189003_1] 110 (0, 0))) ∧ Aside0 (Below w.heap.size w w'))
 case atStart => exact ⟨(0), ((⟨#[]⟩ : ByteArray)), (0), (0), ((⟨#[]⟩ : ByteArray)), rs_, H', ⟨Nat.le_refl _⟩, ⟨bU_ BK188.out⟩, ⟨by repeat (first | (with_reducible first | exact HB.out | apply below_alloc | apply pw_below_drewN | apply below_drew1 | refine below_set ?_ GE188.out) | exact HB.out)⟩⟩
 case round =>
  clear H'
  try clear p2
  obtain ⟨x6_1, x189000_1, x189001_1, x189002_1, x189003_1, rfl, HA, HK1, BK188, HB⟩ := hrel
  cases gk with
  | zero => exact absurd HA.out (by simp [dragnetref08_At.l0])
  | succ k1 =>
   have H := HA.out
   clear HA
   simp only [dragnetref08_At.l0] at H
   by_cases c4 : x6_1 < (l0.length : Int)
   ·rw [if_pos c4] at H
    have c4b0 : decide (x6_1 < (l0.length : Int)) = true := decide_eq_true c4
    clear c4
    by_cases c5 : 0 ≤ x6_1
    ·rw [if_pos c5] at H
     have c5b0 : decide (0 ≤ x6_1) = true := decide_eq_true c5
     clear c5
     by_cases c6 : ((rd_T110 l0 x6_1).f0).toList = a1.toList
     ·rw [if_pos c6] at H
      have c6b0 : (((rd_T110 l0 x6_1).f0).toList == a1.toList) = true := beq_iff_eq.mpr c6
      have c6b1 : (((rd_T110 l0 x6_1).f0).toList != a1.toList) = false := bne_eq_false_iff_eq.mpr c6
      clear c6
      simp only [Option.some.injEq, Prod.mk.injEq] at H
      obtain ⟨rfl, rfl, rfl, rfl, rfl⟩ := H
      have p189 : 0 ≤ (x6_1 : Int) := of_decide_eq_true as_
      have q189 : x6_1 < (l0.length : Int) := of_decide_eq_true as_
      obtain ⟨ad189, e189, hx189_0, hx189_1, hx189_2, hx189_3⟩ := at_T110 HR0.out x6_1 p189 q189
      cases e189
      replace hx189_0 := (HB.out.cell (World.block_lt_of_cell? w _ hx189_0)).trans hx189_0
      replace hx189_1 := (HB.out.cell (World.block_lt_of_cell? w _ hx189_1)).trans hx189_1
      replace hx189_2 := (HB.out.cell (World.block_lt_of_cell? w _ hx189_2)).trans hx189_2
      replace hx189_3 := (HB.out.cell (World.block_lt_of_cell? w _ hx189_3)).trans hx189_3
      replace p189 := eq_true p189
      replace q189 := eq_true q189
      have p190 : 0 ≤ (x6_1 : Int) := of_decide_eq_true as_
      have q190 : x6_1 < (l0.length : Int) := of_decide_eq_true as_
      obtain ⟨ad190, e190, hx190_0, hx190_1, hx190_2, hx190_3⟩ := at_T110 HR0.out x6_1 p190 q190
      obtain rfl : ad189 = ad190 := (by injection e190)
      replace hx190_0 := (HB.out.cell (World.block_lt_of_cell? w _ hx190_0)).trans hx190_0
      replace hx190_1 := (HB.out.cell (World.block_lt_of_cell? w _ hx190_1)).trans hx190_1
      replace hx190_2 := (HB.out.cell (World.block_lt_of_cell? w _ hx190_2)).trans hx190_2
      replace hx190_3 := (HB.out.cell (World.block_lt_of_cell? w _ hx190_3)).trans hx190_3
      replace p190 := eq_true p190
      replace q190 := eq_true q190
      have hcz7_0 : wr.cell? ⟨gb188, 0, none⟩ = some (.string x189000_1) := (blk_cell BK188.out 0).trans rfl
      have hcz7_1 : wr.cell? ⟨gb188, 1, none⟩ = some (.int .i64 x189001_1) := (blk_cell BK188.out 1).trans rfl
      have hcz7_2 : wr.cell? ⟨gb188, 2, none⟩ = some (.int .i64 x189002_1) := (blk_cell BK188.out 2).trans rfl
      have hcz7_3 : wr.cell? ⟨gb188, 3, none⟩ = some (.string x189003_1) := (blk_cell BK188.out 3).trans rfl
      have hfz7_0 := blk_frozen BK188.out 0
      have hfz7_1 := blk_frozen BK188.out 1
      have hfz7_2 := blk_frozen BK188.out 2
      have hfz7_3 := blk_frozen BK188.out 3
      go_wp2
      refine bodyPost_ret (results_ct rfl _ _ gb188 110 #[.string ((rd_T110 l0 x6_1).f0), .int .i64 ((rd_T110 l0 x6_1).f1), .int .i64 ((rd_T110 l0 x6_1).f2), .string ((rd_T110 l0 x6_1).f3)] (0, 0) _ rfl (by (with_reducible repeat (first | refine blk_drewN ?_ _ | refine blk_drew ?_ | refine blk_alloc ?_ _)); refine blk_put (cs := #[.string ((rd_T110 l0 x6_1).f0), .int .i64 ((rd_T110 l0 x6_1).f1), .int .i64 ((rd_T110 l0 x6_1).f2), .string x189003_1]) ?_ 3 _ rfl; (with_reducible repeat (first | refine blk_drewN ?_ _ | refine blk_drew ?_ | refine blk_alloc ?_ _)); refine blk_put (cs := #[.string ((rd_T110 l0 x6_1).f0), .int .i64 ((rd_T110 l0 x6_1).f1), .int .i64 x189002_1, .string x189003_1]) ?_ 2 _ rfl; (with_reducible repeat (first | refine blk_drewN ?_ _ | refine blk_drew ?_ | refine blk_alloc ?_ _)); refine blk_put (cs := #[.string ((rd_T110 l0 x6_1).f0), .int .i64 x189001_1, .int .i64 x189002_1, .string x189003_1]) ?_ 1 _ rfl; (with_reducible repeat (first | refine blk_drewN ?_ _ | refine blk_drew ?_ | refine blk_alloc ?_ _)); refine blk_put (cs := #[.string x189000_1, .int .i64 x189001_1, .int .i64 x189002_1, .string x189003_1]) ?_ 0 _ rfl; (with_reducible repeat (first | refine blk_drewN ?_ _ | refine blk_drew ?_ | refine blk_alloc ?_ _)); exact BK188.out) Tryz.underlying110 rfl (by kernel_rfl)) rfl ?_
      exact ⟨by first | rfl | (simp [errW_none, errW_some] <;> rfl) | (simp [*, errW_none, errW_some] <;> rfl), by repeat (first | (with_reducible first | exact HB.out | apply below_alloc | apply pw_below_drewN | apply below_drew1 | refine below_set ?_ GE188.out) | exact HB.out)⟩
     ·rw [if_neg c6] at H
      have c6b0 : (((rd_T110 l0 x6_1).f0).toList == a1.toList) = false := beq_eq_false_iff_ne.mpr c6
      have c6b1 : (((rd_T110 l0 x6_1).f0).toList != a1.toList) = true := bne_iff_ne.mpr c6
      have H' := Aside0.mk H
      clear H
      have p189 : 0 ≤ (x6_1 : Int) := of_decide_eq_true as_
      have q189 : x6_1 < (l0.length : Int) := of_decide_eq_true as_
      obtain ⟨ad189, e189, hx189_0, hx189_1, hx189_2, hx189_3⟩ := at_T110 HR0.out x6_1 p189 q189
      cases e189
      replace hx189_0 := (HB.out.cell (World.block_lt_of_cell? w _ hx189_0)).trans hx189_0
      replace hx189_1 := (HB.out.cell (World.block_lt_of_cell? w _ hx189_1)).trans hx189_1
      replace hx189_2 := (HB.out.cell (World.block_lt_of_cell? w _ hx189_2)).trans hx189_2
      replace hx189_3 := (HB.out.cell (World.block_lt_of_cell? w _ hx189_3)).trans hx189_3
      replace p189 := eq_true p189
      replace q189 := eq_true q189
      go_wp2
      go_roundg k1
      case measure => have := HK1.out; omega
      case rel => exact ⟨(wrap64 (x6_1 + 1)), (x189000_1), (x189001_1), (x189002_1), (x189003_1), rs_, H', ⟨by have := HK1.out; omega⟩, ⟨bU_ BK188.out⟩, ⟨by repeat (first | (with_reducible first | exact HB.out | apply below_alloc | apply pw_below_drewN | apply below_drew1 | refine below_set ?_ GE188.out) | exact HB.out)⟩⟩
    ·rw [if_neg c5] at H
     exact absurd H (by simp)
   ·rw [if_neg c4] at H
    have c4b0 : decide (x6_1 < (l0.length : Int)) = false := decide_eq_false c4
    clear c4
    simp only [Option.some.injEq, Prod.mk.injEq] at H
    obtain ⟨rfl, rfl, rfl, rfl, rfl⟩ := H
    have hcz8_0 : wr.cell? ⟨gb188, 0, none⟩ = some (.string x189000_1) := (blk_cell BK188.out 0).trans rfl
    have hcz8_1 : wr.cell? ⟨gb188, 1, none⟩ = some (.int .i64 x189001_1) := (blk_cell BK188.out 1).trans rfl
    have hcz8_2 : wr.cell? ⟨gb188, 2, none⟩ = some (.int .i64 x189002_1) := (blk_cell BK188.out 2).trans rfl
    have hcz8_3 : wr.cell? ⟨gb188, 3, none⟩ = some (.string x189003_1) := (blk_cell BK188.out 3).trans rfl
    have hfz8_0 := blk_frozen BK188.out 0
    have hfz8_1 := blk_frozen BK188.out 1
    have hfz8_2 := blk_frozen BK188.out 2
    have hfz8_3 := blk_frozen BK188.out 3
    go_wp2
    refine bodyPost_ret (results_ct rfl _ _ gb188 110 #[.string (⟨#[]⟩ : ByteArray), .int .i64 0, .int .i64 0, .string (⟨#[]⟩ : ByteArray)] (0, 0) _ rfl (by (with_reducible repeat (first | refine blk_drewN ?_ _ | refine blk_drew ?_ | refine blk_alloc ?_ _)); refine blk_put (cs := #[.string (⟨#[]⟩ : ByteArray), .int .i64 0, .int .i64 0, .string x189003_1]) ?_ 3 _ rfl; (with_reducible repeat (first | refine blk_drewN ?_ _ | refine blk_drew ?_ | refine blk_alloc ?_ _)); refine blk_put (cs := #[.string (⟨#[]⟩ : ByteArray), .int .i64 0, .int .i64 x189002_1, .string x189003_1]) ?_ 2 _ rfl; (with_reducible repeat (first | refine blk_drewN ?_ _ | refine blk_drew ?_ | refine blk_alloc ?_ _)); refine blk_put (cs := #[.string (⟨#[]⟩ : ByteArray), .int .i64 x189001_1, .int .i64 x189002_1, .string x189003_1]) ?_ 1 _ rfl; (with_reducible repeat (first | refine blk_drewN ?_ _ | refine blk_drew ?_ | refine blk_alloc ?_ _)); refine blk_put (cs := #[.string x189000_1, .int .i64 x189001_1, .int .i64 x189002_1, .string x189003_1]) ?_ 0 _ rfl; (with_reducible repeat (first | refine blk_drewN ?_ _ | refine blk_drew ?_ | refine blk_alloc ?_ _)); exact BK188.out) Tryz.underlying110 rfl (by kernel_rfl)) rfl ?_
    exact ⟨by first | rfl | (simp [errW_none, errW_some] <;> rfl) | (simp [*, errW_none, errW_some] <;> rfl), by repeat (first | (with_reducible first | exact HB.out | apply below_alloc | apply pw_below_drewN | apply below_drew1 | refine below_set ?_ GE188.out) | exact HB.out)⟩
def dragnetref08_blank.f (a0 : Int) : Option (Bool) := if a0 = 9 then (some true) else (if a0 = 10 then (some true) else (if a0 = 13 then (some true) else (some (a0 == 32))))
theorem dragnetref08_blank.calls (a0 : Int) (r : Bool) (w : World) (h : dragnetref08_blank.f a0 = some r) :
  Calls Tryz.prog 110 #[.int .u8 a0] w fun e w' => e = .returned (.bool r) ∧ Drawn0 w w' := by
 have H : (if a0 = 9 then (some true) else (if a0 = 10 then (some true) else (if a0 = 13 then (some true) else (some (a0 == 32))))) = some r := h
 clear h
 by_cases c2 : a0 = 9
 ·rw [if_pos c2] at H
  have c2b0 : (a0 == 9) = true := beq_iff_eq.mpr c2
  have c2b1 : (a0 != 9) = false := bne_eq_false_iff_eq.mpr c2
  clear c2
  obtain rfl := Option.some.inj H
  go_enter Tryz.func110, Tryz.ntmps110
  go_wp2
  go_ret
  exact ⟨by first | rfl | (simp; done) | (simp [*]; done), dr_⟩
 ·rw [if_neg c2] at H
  have c2b0 : (a0 == 9) = false := beq_eq_false_iff_ne.mpr c2
  have c2b1 : (a0 != 9) = true := bne_iff_ne.mpr c2
  by_cases c3 : a0 = 10
  ·rw [if_pos c3] at H
   have c3b0 : (a0 == 10) = true := beq_iff_eq.mpr c3
   have c3b1 : (a0 != 10) = false := bne_eq_false_iff_eq.mpr c3
   clear c3
   obtain rfl := Option.some.inj H
   go_enter Tryz.func110, Tryz.ntmps110
   go_wp2
   go_ret
   exact ⟨by first | rfl | (simp; done) | (simp [*]; done), dr_⟩
  ·rw [if_neg c3] at H
   have c3b0 : (a0 == 10) = false := beq_eq_false_iff_ne.mpr c3
   have c3b1 : (a0 != 10) = true := bne_iff_ne.mpr c3
   by_cases c4 : a0 = 13
   ·rw [if_pos c4] at H
    have c4b0 : (a0 == 13) = true := beq_iff_eq.mpr c4
    have c4b1 : (a0 != 13) = false := bne_eq_false_iff_eq.mpr c4
    clear c4
    obtain rfl := Option.some.inj H
    go_enter Tryz.func110, Tryz.ntmps110
    go_wp2
    go_ret
    exact ⟨by first | rfl | (simp; done) | (simp [*]; done), dr_⟩
   ·rw [if_neg c4] at H
    have c4b0 : (a0 == 13) = false := beq_eq_false_iff_ne.mpr c4
    have c4b1 : (a0 != 13) = true := bne_iff_ne.mpr c4
    obtain rfl := Option.some.inj H
    go_enter Tryz.func110, Tryz.ntmps110
    go_wp2
    go_ret
    exact ⟨by first | rfl | (simp; done) | (simp [*]; done), dr_⟩
end Go.Proofs.YtehaodbheifokaaGreatDoor.P
end
section
namespace Go.Proofs.YtehaodbheifokaaGreatDoor.Pure
open Go Go.RowKit Go.Proofs.YtehaodbheifokaaGreatDoorW.PrintWords Go.Proofs.YtehaodbheifokaaGreatDoorW.PrintLast Go.Proofs.YtehaodbheifokaaGreatDoorW.PrintMore Go.Proofs.YtehaodbheifokaaGreatDoor.P
theorem refKey_step (k : Nat) (s : ByteArray) (i : Nat) (h : i < s.size) (hs : s.size ≤ 9223372036854775807) : dragnetref08_IsKey.l0 (k + 1) s (i : Int) = if inK (bt s (i : Int)) = true then dragnetref08_IsKey.l0 k s ((i + 1 : Nat) : Int) else some false := by
 simp only [dragnetref08_IsKey.l0]
 rw [if_pos (by omega), if_pos (by omega), wrap_in (by omega) (by omega), show ((i : Int) + 1) = ((i + 1 : Nat) : Int) by omega]
 have hk := @inK_true (bt s (i : Int))
 generalize dragnetref08_IsKey.l0 k s ((i + 1 : Nat) : Int) = R
 generalize bt s (i : Int) = c at *
 by_cases hc : inK c = true
 ·rw [if_pos hc]
  rw [hc] at hk
  have h2 := hk.1 rfl
  clear hk hc
  repeat' split
  all_goals first | rfl | (exfalso; omega)
 ·rw [if_neg hc]
  have h2 : ¬ ((97 ≤ c ∧ c ≤ 122) ∨ (65 ≤ c ∧ c ≤ 90) ∨ (48 ≤ c ∧ c ≤ 57) ∨ c = 95 ∨ c = 46 ∨ c = 45) := fun e => hc (hk.2 e)
  clear hk hc
  repeat' split
  all_goals first | rfl | (exfalso; omega)
theorem refKey_loop (s : ByteArray) (hs : s.size ≤ 9223372036854775807) : ∀ (d i : Nat), i + d = s.size → Ev (fun k => dragnetref08_IsKey.l0 k s (i : Int)) (keyFrom s i && decide (1 ≤ s.size ∧ s.size ≤ 32))
 | 0, i, hi => by
  obtain rfl : i = s.size := by omega
  rw [keyFrom_end, Bool.true_and]
  refine Ev.step (f := fun _ => some (decide (1 ≤ s.size ∧ s.size ≤ 32))) (fun k => ?_) (Ev.now _)
  simp only [dragnetref08_IsKey.l0]
  rw [if_neg (by omega)]
  by_cases h0 : (s.size : Int) ≥ 1
  ·rw [if_pos h0]
   congr 1
   exact decide_eq_decide.2 (by omega)
  ·rw [if_neg h0]
   congr 1
   exact (decide_eq_false (by omega)).symm
 | d + 1, i, hi => by
  have ih := refKey_loop s hs d (i + 1) (by omega)
  rw [keyFrom_step s i (by omega)]
  cases hc : inK (bt s (i : Int)) with
  | false =>
   refine Ev.step (f := fun _ => some false) (fun k => ?_) (Ev.now _)
   rw [refKey_step k s i (by omega) hs, hc]
   rfl
  | true =>
   rw [Bool.true_and]
   refine Ev.step (fun k => ?_) ih
   rw [refKey_step k s i (by omega) hs, hc, if_pos rfl]
theorem refKey_ev (s : ByteArray) (hs : s.size ≤ 9223372036854775807) : Ev (fun k => dragnetref08_IsKey.f k s) (keyB s) := refKey_loop s hs s.size 0 (by omega)
end Go.Proofs.YtehaodbheifokaaGreatDoor.Pure
end
section
namespace Go.Proofs.YtehaodbheifokaaGreatDoor.P
open Go Go.RowKit Go.Proofs.YtehaodbheifokaaGreatDoorW.PrintWords Go.Proofs.YtehaodbheifokaaGreatDoorW.PrintLast Go.Proofs.YtehaodbheifokaaGreatDoorW.PrintMore
attribute [local go_sem] max2_int min2_int max_two min_two
theorem rsl_loop (p q : List ByteArray) (hl : p.length = q.length) (hb : p.length ≤ 1099511627776) : ∀ (d i : Nat), i + d = p.length → Ev (fun k => dragnetref06_Same.l0 k p q (i : Int)) (decide (p.drop i = q.drop i))
 | 0, i, hi => by
  refine Ev.step (f := fun _ => some true) (fun k => ?_) (by rw [List.drop_eq_nil_of_le (by omega), List.drop_eq_nil_of_le (by omega)]; exact Ev.now _)
  simp only [dragnetref06_Same.l0]
  rw [if_neg (by omega)]
 | d + 1, i, hi => by
  have ih := rsl_loop p q hl hb d (i + 1) (by omega)
  have hip : i < p.length := by omega
  have hiq : i < q.length := by omega
  have ep : rdOf ByteArray.empty p (i : Int) = p[i] := by simp [rdOf, List.getD, hip]
  have eq : rdOf ByteArray.empty q (i : Int) = q[i] := by simp [rdOf, List.getD, hiq]
  have ew : wrap64 ((i : Int) + 1) = ((i + 1 : Nat) : Int) := by unfold wrap64; omega
  rw [show List.drop i p = p[i] :: List.drop (i + 1) p from List.drop_eq_getElem_cons hip, show List.drop i q = q[i] :: List.drop (i + 1) q from List.drop_eq_getElem_cons hiq]
  by_cases h2 : p[i] = q[i]
  ·have e : decide (p[i] :: List.drop (i + 1) p = q[i] :: List.drop (i + 1) q) = decide (List.drop (i + 1) p = List.drop (i + 1) q) := by
    congr 1
    rw [h2]
    simp only [List.cons.injEq, true_and]
   rw [e]
   refine Ev.step (fun k => ?_) ih
   simp only [dragnetref06_Same.l0]
   rw [if_pos (by omega), if_pos (by omega), if_pos (by omega), ep, eq, if_pos (by rw [h2]), ew]
  ·rw [decide_eq_false (fun e => h2 (List.cons.inj e).1)]
   refine Ev.step (f := fun _ => some false) (fun k => ?_) (Ev.now _)
   simp only [dragnetref06_Same.l0]
   rw [if_pos (by omega), if_pos (by omega), if_pos (by omega), ep, eq, if_neg (fun e => h2 (bytes_inj0.1 e))]
theorem rsl_ev (p q : List ByteArray) (hb : p.length ≤ 1099511627776) : Ev (fun k => dragnetref06_Same.f k p q) (decide (p = q)) := by
 by_cases hl : p.length = q.length
 ·refine Ev.congr (fun k => ?_) (rsl_loop p q hl hb p.length 0 (by omega))
  unfold dragnetref06_Same.f
  rw [if_pos (by omega)]
  rfl
 ·rw [decide_eq_false (fun e => hl (by rw [e]))]
  refine Ev.congr (f := fun _ => some false) (fun k => ?_) (Ev.now _)
  unfold dragnetref06_Same.f
  rw [if_neg (by omega)]
theorem rsame_f (k a b : Int) (tx : ByteArray) (tm : List ByteArray) (ky : ByteArray) (lo hi k' a' b' : Int) (tx' : ByteArray) (tm' : List ByteArray) (ky' : ByteArray) (lo' hi' : Int) (hb : tm.length ≤ 1099511627776) :
  ∃ n, dragnetref19_SameNode.f n k a b tx tm ky lo hi k' a' b' tx' tm' ky' lo' hi' = some (decide (k = k' ∧ a = a' ∧ b = b' ∧ tx = tx' ∧ tm = tm' ∧ ky = ky' ∧ lo = lo' ∧ hi = hi')) := by
 obtain ⟨n, hn⟩ := rsl_ev tm tm' hb
 have e1 := hn n (Nat.le_refl _)
 simp only at e1
 refine ⟨n, ?_⟩
 unfold dragnetref19_SameNode.f
 rw [e1]
 simp only [bytes_inj0, Option.bind_some]
 repeat' split
 all_goals (first | rfl | (simp_all; done) | (simp_all; rfl))
theorem rsame_calls (k a b : Int) (tx : ByteArray) (A : Option Addr) (c : Nat) (tm : List ByteArray) (ky : ByteArray) (lo hi k' a' b' : Int) (tx' : ByteArray) (A' : Option Addr) (c' : Nat) (tm' : List ByteArray) (ky' : ByteArray) (lo' hi' : Int) (w : World)
  (hC : Kd.string.C w A tm.length tm) (hc : tm.length ≤ c) (hn : tm.length ≤ 1099511627776) (hC' : Kd.string.C w A' tm'.length tm') (hc' : tm'.length ≤ c') :
  Calls Tryz.prog 48 #[.agg (nodeC k a b tx (.slice A tm.length c) ky lo hi), .agg (nodeC k' a' b' tx' (.slice A' tm'.length c') ky' lo' hi')] w fun e w' => e = .returned (.bool (decide (k = k' ∧ a = a' ∧ b = b' ∧ tx = tx' ∧ tm = tm' ∧ ky = ky' ∧ lo = lo' ∧ hi = hi'))) ∧ Below w.heap.size w w' := by
 obtain ⟨n, hf⟩ := rsame_f k a b tx tm ky lo hi k' a' b' tx' tm' ky' lo' hi' hn
 exact dragnetref19_SameNode.calls n k a b tx A c tm ky lo hi k' a' b' tx' A' c' tm' ky' lo' hi' _ w hC hc hC' hc' hf
theorem rright_0 (k a b : Int) (tx : ByteArray) (v : Value) (hv : ∃ A n c, v = .slice A n c) (ky : ByteArray) (lo hi : Int) (w : World) (h1 : ¬k = 1) (h2 : ¬k = 2) (h3 : ¬k = 3) (h4 : ¬k = 4) (h5 : ¬k = 5) (h6 : ¬k = 6) (h7 : ¬k = 7) (h8 : ¬k = 8) (h9 : ¬k = 9) (h10 : ¬k = 10) (h11 : ¬k = 11) (h12 : ¬k = 12) :
  Calls Tryz.prog 42 #[.agg (nodeC k a b tx v ky lo hi)] w fun e w' => e = .returned (.bool false) ∧ Below w.heap.size w w' := by
 obtain ⟨A, n, c, rfl⟩ := hv
 have d1 : (k == 1) = false := beq_eq_false_iff_ne.2 h1
 have d2 : (k == 2) = false := beq_eq_false_iff_ne.2 h2
 have d3 : (k == 3) = false := beq_eq_false_iff_ne.2 h3
 have d4 : (k == 4) = false := beq_eq_false_iff_ne.2 h4
 have d5 : (k == 5) = false := beq_eq_false_iff_ne.2 h5
 have d6 : (k == 6) = false := beq_eq_false_iff_ne.2 h6
 have d7 : (k == 7) = false := beq_eq_false_iff_ne.2 h7
 have d8 : (k == 8) = false := beq_eq_false_iff_ne.2 h8
 have d9 : (k == 9) = false := beq_eq_false_iff_ne.2 h9
 have d10 : (k == 10) = false := beq_eq_false_iff_ne.2 h10
 have d11 : (k == 11) = false := beq_eq_false_iff_ne.2 h11
 have d12 : (k == 12) = false := beq_eq_false_iff_ne.2 h12
 clear h1 h2 h3 h4 h5 h6 h7 h8 h9 h10 h11 h12
 go_enter Tryz.func42, Tryz.ntmps42
 go_wp2_with fail
 go_ret
 exact ⟨rfl, bel6⟩
theorem rright_1 (a b : Int) (tx : ByteArray) (A : Option Addr) (c : Nat) (tm : List ByteArray) (ky : ByteArray) (lo hi : Int) (w : World) (hC : Kd.string.C w A tm.length tm) (hc : tm.length ≤ c) (hn : tm.length ≤ 1099511627776) :
  Calls Tryz.prog 42 #[.agg (nodeC 1 a b tx (.slice A tm.length c) ky lo hi)] w fun e w' => e = .returned (.bool (decide (a = 0 ∧ b = 0 ∧ tx = ⟨#[]⟩ ∧ tm = [] ∧ ky = ⟨#[]⟩ ∧ lo = 0 ∧ hi = 0))) ∧ Below w.heap.size w w' := by
 obtain ⟨r, hr⟩ : ∃ r, (decide (a = 0 ∧ b = 0 ∧ tx = ⟨#[]⟩ ∧ tm = [] ∧ ky = ⟨#[]⟩ ∧ lo = 0 ∧ hi = 0)) = r := ⟨_, rfl⟩
 rw [hr]
 have HS := Aside0.mk (fun (W : World) (hW : Below w.heap.size w W) k' a' b' tx' ky' lo' hi' => rsame_calls 1 a b tx A c tm ky lo hi k' a' b' tx' none 0 [] ky' lo' hi' W (Kd.C_below hC hW) hc hn (Kd.C_nil _ _) (Nat.le_refl _))
 have HR := Aside0.mk hr
 clear hr hC hc hn
 go_enter Tryz.func42, Tryz.ntmps42
 go_wp2_with fail
 all_goals (try go_wp2_with (go_at_call 48; refine (HS.out _ bel6 _ _ _ _ _ _ _).mono ?_; rintro e w2 ⟨rfl, hb⟩; have HB := Aside0.mk hb; clear hb))
 all_goals go_ret
 all_goals first | refine ⟨?_, below_step bel6 HB.out⟩ | refine ⟨?_, bel6⟩
 all_goals first | refine congrArg (fun z => Ending.returned (Value.bool z)) (show true = r from ?_) | refine congrArg (fun z => Ending.returned (Value.bool z)) (show false = r from ?_) | refine congrArg (fun z => Ending.returned (Value.bool z)) (show decide _ = r from ?_) | refine congrArg (fun z => Ending.returned (Value.bool z)) (show (_ && _) = r from ?_)
 all_goals (rw [← HR.out]; clear HR HS; (try clear HK); (try clear HB); go_light; (try simp only [bytes_nil] at *))
 all_goals grind
theorem rright_2 (a b : Int) (tx : ByteArray) (A : Option Addr) (c : Nat) (tm : List ByteArray) (ky : ByteArray) (lo hi : Int) (w : World) (hC : Kd.string.C w A tm.length tm) (hc : tm.length ≤ c) (hn : tm.length ≤ 1099511627776) :
  Calls Tryz.prog 42 #[.agg (nodeC 2 a b tx (.slice A tm.length c) ky lo hi)] w fun e w' => e = .returned (.bool (tokB tx && decide (a = 0 ∧ b = 0 ∧ tm = [] ∧ ky = ⟨#[]⟩ ∧ lo = 0 ∧ hi = 0))) ∧ Below w.heap.size w w' := by
 obtain ⟨r, hr⟩ : ∃ r, (tokB tx && decide (a = 0 ∧ b = 0 ∧ tm = [] ∧ ky = ⟨#[]⟩ ∧ lo = 0 ∧ hi = 0)) = r := ⟨_, rfl⟩
 rw [hr]
 have HS := Aside0.mk (fun (W : World) (hW : Below w.heap.size w W) k' a' b' tx' ky' lo' hi' => rsame_calls 2 a b tx A c tm ky lo hi k' a' b' tx' none 0 [] ky' lo' hi' W (Kd.C_below hC hW) hc hn (Kd.C_nil _ _) (Nat.le_refl _))
 obtain ⟨kb, hkb⟩ : ∃ kb, tokB tx = kb := ⟨_, rfl⟩
 have HK := Aside0.mk (fun W => is_calls tx W)
 rw [hkb] at hr HK
 clear hkb
 have HR := Aside0.mk hr
 clear hr hC hc hn
 have hX0 := blk_new (w.alloc (.cells (nodeC 2 a b tx (.slice A tm.length c) ky lo hi) 37)) (.cells #[.int .i64 2, .int .i64 0, .int .i64 0, .string tx, .slice none 0 0, .string ⟨#[]⟩, .int .i64 0, .int .i64 0] 37)
 rw [World.size_alloc] at hX0
 have HXB := Aside0.mk hX0
 have HNB := Aside0.mk (blk_alloc (blk_new w (.cells (nodeC 2 a b tx (.slice A tm.length c) ky lo hi) 37)) (.cells #[.int .i64 2, .int .i64 0, .int .i64 0, .string tx, .slice none 0 0, .string ⟨#[]⟩, .int .i64 0, .int .i64 0] 37))
 have HB1 := Aside0.mk (show Below w.heap.size w ((w.alloc (.cells (nodeC 2 a b tx (.slice A tm.length c) ky lo hi) 37)).alloc (.cells #[.int .i64 2, .int .i64 0, .int .i64 0, .string tx, .slice none 0 0, .string ⟨#[]⟩, .int .i64 0, .int .i64 0] 37)) from below_alloc (below_alloc (Below.refl _ _) _) _)
 clear hX0
 go_enter Tryz.func42, Tryz.ntmps42
 go_wp2_with fail
 refine (HK.out _).mono ?_
 rintro e w3 ⟨rfl, hb3⟩
 have HB3 := Aside0.mk (below_step HB1.out hb3)
 have hN := blk_below HNB.out hb3
 have hX := blk_below HXB.out hb3
 have mn0 : w3.cell? ⟨w.heap.size, 0, none⟩ = some (.int .i64 2) := (blk_cell hN 0).trans rfl
 have mn1 : w3.cell? ⟨w.heap.size, 1, none⟩ = some (.int .i64 a) := (blk_cell hN 1).trans rfl
 have mn2 : w3.cell? ⟨w.heap.size, 2, none⟩ = some (.int .i64 b) := (blk_cell hN 2).trans rfl
 have mn3 : w3.cell? ⟨w.heap.size, 3, none⟩ = some (.string tx) := (blk_cell hN 3).trans rfl
 have mn4 : w3.cell? ⟨w.heap.size, 4, none⟩ = some (.slice A tm.length c) := (blk_cell hN 4).trans rfl
 have mn5 : w3.cell? ⟨w.heap.size, 5, none⟩ = some (.string ky) := (blk_cell hN 5).trans rfl
 have mn6 : w3.cell? ⟨w.heap.size, 6, none⟩ = some (.int .i64 lo) := (blk_cell hN 6).trans rfl
 have mn7 : w3.cell? ⟨w.heap.size, 7, none⟩ = some (.int .i64 hi) := (blk_cell hN 7).trans rfl
 have mx0 : w3.cell? ⟨w.heap.size + 1, 0, none⟩ = some (.int .i64 2) := (blk_cell hX 0).trans rfl
 have mx1 : w3.cell? ⟨w.heap.size + 1, 1, none⟩ = some (.int .i64 0) := (blk_cell hX 1).trans rfl
 have mx2 : w3.cell? ⟨w.heap.size + 1, 2, none⟩ = some (.int .i64 0) := (blk_cell hX 2).trans rfl
 have mx3 : w3.cell? ⟨w.heap.size + 1, 3, none⟩ = some (.string tx) := (blk_cell hX 3).trans rfl
 have mx4 : w3.cell? ⟨w.heap.size + 1, 4, none⟩ = some (.slice none 0 0) := (blk_cell hX 4).trans rfl
 have mx5 : w3.cell? ⟨w.heap.size + 1, 5, none⟩ = some (.string ⟨#[]⟩) := (blk_cell hX 5).trans rfl
 have mx6 : w3.cell? ⟨w.heap.size + 1, 6, none⟩ = some (.int .i64 0) := (blk_cell hX 6).trans rfl
 have mx7 : w3.cell? ⟨w.heap.size + 1, 7, none⟩ = some (.int .i64 0) := (blk_cell hX 7).trans rfl
 clear hN hX
 clear hb3
 cases kb
 all_goals (go_wp2_with fail)
 ·go_ret
  refine ⟨congrArg (fun z => Ending.returned (Value.bool z)) ?_, HB3.out⟩
  rw [← HR.out]; rfl
 ·refine (HS.out w3 HB3.out _ _ _ _ _ _ _).mono ?_
  rintro e w4 ⟨rfl, hb⟩
  have HB4 := Aside0.mk (below_step HB3.out hb)
  clear hb
  go_wp2_with fail
  go_ret
  refine ⟨congrArg (fun z => Ending.returned (Value.bool z)) ?_, HB4.out⟩
  rw [← HR.out]
  simp
theorem rright_3 (a b : Int) (tx : ByteArray) (A : Option Addr) (c : Nat) (tm : List ByteArray) (ky : ByteArray) (lo hi : Int) (w : World) (hC : Kd.string.C w A tm.length tm) (hc : tm.length ≤ c) (hn : tm.length ≤ 1099511627776) :
  Calls Tryz.prog 42 #[.agg (nodeC 3 a b tx (.slice A tm.length c) ky lo hi)] w fun e w' => e = .returned (.bool (tokB tx && decide (a = 0 ∧ b = 0 ∧ tm = [] ∧ ky = ⟨#[]⟩ ∧ lo = 0 ∧ hi = 0))) ∧ Below w.heap.size w w' := by
 obtain ⟨r, hr⟩ : ∃ r, (tokB tx && decide (a = 0 ∧ b = 0 ∧ tm = [] ∧ ky = ⟨#[]⟩ ∧ lo = 0 ∧ hi = 0)) = r := ⟨_, rfl⟩
 rw [hr]
 have HS := Aside0.mk (fun (W : World) (hW : Below w.heap.size w W) k' a' b' tx' ky' lo' hi' => rsame_calls 3 a b tx A c tm ky lo hi k' a' b' tx' none 0 [] ky' lo' hi' W (Kd.C_below hC hW) hc hn (Kd.C_nil _ _) (Nat.le_refl _))
 obtain ⟨kb, hkb⟩ : ∃ kb, tokB tx = kb := ⟨_, rfl⟩
 have HK := Aside0.mk (fun W => is_calls tx W)
 rw [hkb] at hr HK
 clear hkb
 have HR := Aside0.mk hr
 clear hr hC hc hn
 have hX0 := blk_new (w.alloc (.cells (nodeC 3 a b tx (.slice A tm.length c) ky lo hi) 37)) (.cells #[.int .i64 3, .int .i64 0, .int .i64 0, .string tx, .slice none 0 0, .string ⟨#[]⟩, .int .i64 0, .int .i64 0] 37)
 rw [World.size_alloc] at hX0
 have HXB := Aside0.mk hX0
 have HNB := Aside0.mk (blk_alloc (blk_new w (.cells (nodeC 3 a b tx (.slice A tm.length c) ky lo hi) 37)) (.cells #[.int .i64 3, .int .i64 0, .int .i64 0, .string tx, .slice none 0 0, .string ⟨#[]⟩, .int .i64 0, .int .i64 0] 37))
 have HB1 := Aside0.mk (show Below w.heap.size w ((w.alloc (.cells (nodeC 3 a b tx (.slice A tm.length c) ky lo hi) 37)).alloc (.cells #[.int .i64 3, .int .i64 0, .int .i64 0, .string tx, .slice none 0 0, .string ⟨#[]⟩, .int .i64 0, .int .i64 0] 37)) from below_alloc (below_alloc (Below.refl _ _) _) _)
 clear hX0
 go_enter Tryz.func42, Tryz.ntmps42
 go_wp2_with fail
 refine (HK.out _).mono ?_
 rintro e w3 ⟨rfl, hb3⟩
 have HB3 := Aside0.mk (below_step HB1.out hb3)
 have hN := blk_below HNB.out hb3
 have hX := blk_below HXB.out hb3
 have mn0 : w3.cell? ⟨w.heap.size, 0, none⟩ = some (.int .i64 3) := (blk_cell hN 0).trans rfl
 have mn1 : w3.cell? ⟨w.heap.size, 1, none⟩ = some (.int .i64 a) := (blk_cell hN 1).trans rfl
 have mn2 : w3.cell? ⟨w.heap.size, 2, none⟩ = some (.int .i64 b) := (blk_cell hN 2).trans rfl
 have mn3 : w3.cell? ⟨w.heap.size, 3, none⟩ = some (.string tx) := (blk_cell hN 3).trans rfl
 have mn4 : w3.cell? ⟨w.heap.size, 4, none⟩ = some (.slice A tm.length c) := (blk_cell hN 4).trans rfl
 have mn5 : w3.cell? ⟨w.heap.size, 5, none⟩ = some (.string ky) := (blk_cell hN 5).trans rfl
 have mn6 : w3.cell? ⟨w.heap.size, 6, none⟩ = some (.int .i64 lo) := (blk_cell hN 6).trans rfl
 have mn7 : w3.cell? ⟨w.heap.size, 7, none⟩ = some (.int .i64 hi) := (blk_cell hN 7).trans rfl
 have mx0 : w3.cell? ⟨w.heap.size + 1, 0, none⟩ = some (.int .i64 3) := (blk_cell hX 0).trans rfl
 have mx1 : w3.cell? ⟨w.heap.size + 1, 1, none⟩ = some (.int .i64 0) := (blk_cell hX 1).trans rfl
 have mx2 : w3.cell? ⟨w.heap.size + 1, 2, none⟩ = some (.int .i64 0) := (blk_cell hX 2).trans rfl
 have mx3 : w3.cell? ⟨w.heap.size + 1, 3, none⟩ = some (.string tx) := (blk_cell hX 3).trans rfl
 have mx4 : w3.cell? ⟨w.heap.size + 1, 4, none⟩ = some (.slice none 0 0) := (blk_cell hX 4).trans rfl
 have mx5 : w3.cell? ⟨w.heap.size + 1, 5, none⟩ = some (.string ⟨#[]⟩) := (blk_cell hX 5).trans rfl
 have mx6 : w3.cell? ⟨w.heap.size + 1, 6, none⟩ = some (.int .i64 0) := (blk_cell hX 6).trans rfl
 have mx7 : w3.cell? ⟨w.heap.size + 1, 7, none⟩ = some (.int .i64 0) := (blk_cell hX 7).trans rfl
 clear hN hX
 clear hb3
 cases kb
 all_goals (go_wp2_with fail)
 ·go_ret
  refine ⟨congrArg (fun z => Ending.returned (Value.bool z)) ?_, HB3.out⟩
  rw [← HR.out]; rfl
 ·refine (HS.out w3 HB3.out _ _ _ _ _ _ _).mono ?_
  rintro e w4 ⟨rfl, hb⟩
  have HB4 := Aside0.mk (below_step HB3.out hb)
  clear hb
  go_wp2_with fail
  go_ret
  refine ⟨congrArg (fun z => Ending.returned (Value.bool z)) ?_, HB4.out⟩
  rw [← HR.out]
  simp
theorem rright_4 (a b : Int) (tx : ByteArray) (A : Option Addr) (c : Nat) (tm : List ByteArray) (ky : ByteArray) (lo hi : Int) (w : World) (hC : Kd.string.C w A tm.length tm) (hc : tm.length ≤ c) (hn : tm.length ≤ 1099511627776) :
  Calls Tryz.prog 42 #[.agg (nodeC 4 a b tx (.slice A tm.length c) ky lo hi)] w fun e w' => e = .returned (.bool (decide (0 < tm.length) && tm.all tokB && decide (a = 0 ∧ b = 0 ∧ tx = ⟨#[]⟩ ∧ ky = ⟨#[]⟩ ∧ lo = 0 ∧ hi = 0))) ∧ Below w.heap.size w w' := by
 obtain ⟨r, hr⟩ : ∃ r, (decide (0 < tm.length) && tm.all tokB && decide (a = 0 ∧ b = 0 ∧ tx = ⟨#[]⟩ ∧ ky = ⟨#[]⟩ ∧ lo = 0 ∧ hi = 0)) = r := ⟨_, rfl⟩
 rw [hr]
 have HS := Aside0.mk (fun (W : World) (hW : Below w.heap.size w W) k' a' b' tx' ky' lo' hi' => rsame_calls 4 a b tx A c tm ky lo hi k' a' b' tx' A c tm ky' lo' hi' W (Kd.C_below hC hW) hc hn (Kd.C_below hC hW) hc)
 have HR := Aside0.mk hr
 have HC := Aside0.mk hC
 clear hr hC
 have hX0 := blk_new (w.alloc (.cells (nodeC 4 a b tx (.slice A tm.length c) ky lo hi) 37)) (.cells #[.int .i64 4, .int .i64 0, .int .i64 0, .string ⟨#[]⟩, .slice A tm.length c, .string ⟨#[]⟩, .int .i64 0, .int .i64 0] 37)
 rw [World.size_alloc] at hX0
 have HXB := Aside0.mk hX0
 have HNB := Aside0.mk (blk_alloc (blk_new w (.cells (nodeC 4 a b tx (.slice A tm.length c) ky lo hi) 37)) (.cells #[.int .i64 4, .int .i64 0, .int .i64 0, .string ⟨#[]⟩, .slice A tm.length c, .string ⟨#[]⟩, .int .i64 0, .int .i64 0] 37))
 have HB1 := Aside0.mk (show Below w.heap.size w ((w.alloc (.cells (nodeC 4 a b tx (.slice A tm.length c) ky lo hi) 37)).alloc (.cells #[.int .i64 4, .int .i64 0, .int .i64 0, .string ⟨#[]⟩, .slice A tm.length c, .string ⟨#[]⟩, .int .i64 0, .int .i64 0] 37)) from below_alloc (below_alloc (Below.refl _ _) _) _)
 clear hX0
 by_cases h0 : 0 < tm.length
 ·have z0 : decide (0 < (tm.length : Int)) = true := decide_eq_true (by omega)
  have HZ := Aside0.mk h0
  clear h0
  go_enter Tryz.func42, Tryz.ntmps42
  go_wp2_with fail
  go_loopg [4, 5] tm.length (fun kq v4 v5 wr => ∃ (j : Nat), v5 = .int .i64 (j : Int) ∧ v4 = .bool (true && (tm.take j).all tokB) ∧ Aside0 (kq + j = tm.length) ∧ Aside0 (Below ((w.alloc (.cells (nodeC 4 a b tx (.slice A tm.length c) ky lo hi) 37)).alloc (.cells #[.int .i64 4, .int .i64 0, .int .i64 0, .string ⟨#[]⟩, .slice A tm.length c, .string ⟨#[]⟩, .int .i64 0, .int .i64 0] 37)).heap.size ((w.alloc (.cells (nodeC 4 a b tx (.slice A tm.length c) ky lo hi) 37)).alloc (.cells #[.int .i64 4, .int .i64 0, .int .i64 0, .string ⟨#[]⟩, .slice A tm.length c, .string ⟨#[]⟩, .int .i64 0, .int .i64 0] 37)) wr))
  case atStart => exact ⟨0, rfl, by simp; exact HZ.out, ⟨rfl⟩, ⟨Below.refl _ _⟩⟩
  case round =>
   obtain ⟨j, rfl, rfl, HJ, HBr⟩ := hrel
   have HB3 := Aside0.mk (below_step HB1.out HBr.out)
   have hN := blk_below HNB.out HBr.out
   have hX := blk_below HXB.out HBr.out
   have mn0 : wr.cell? ⟨w.heap.size, 0, none⟩ = some (.int .i64 4) := (blk_cell hN 0).trans rfl
   have mn1 : wr.cell? ⟨w.heap.size, 1, none⟩ = some (.int .i64 a) := (blk_cell hN 1).trans rfl
   have mn2 : wr.cell? ⟨w.heap.size, 2, none⟩ = some (.int .i64 b) := (blk_cell hN 2).trans rfl
   have mn3 : wr.cell? ⟨w.heap.size, 3, none⟩ = some (.string tx) := (blk_cell hN 3).trans rfl
   have mn4 : wr.cell? ⟨w.heap.size, 4, none⟩ = some (.slice A tm.length c) := (blk_cell hN 4).trans rfl
   have mn5 : wr.cell? ⟨w.heap.size, 5, none⟩ = some (.string ky) := (blk_cell hN 5).trans rfl
   have mn6 : wr.cell? ⟨w.heap.size, 6, none⟩ = some (.int .i64 lo) := (blk_cell hN 6).trans rfl
   have mn7 : wr.cell? ⟨w.heap.size, 7, none⟩ = some (.int .i64 hi) := (blk_cell hN 7).trans rfl
   have mx0 : wr.cell? ⟨w.heap.size + 1, 0, none⟩ = some (.int .i64 4) := (blk_cell hX 0).trans rfl
   have mx1 : wr.cell? ⟨w.heap.size + 1, 1, none⟩ = some (.int .i64 0) := (blk_cell hX 1).trans rfl
   have mx2 : wr.cell? ⟨w.heap.size + 1, 2, none⟩ = some (.int .i64 0) := (blk_cell hX 2).trans rfl
   have mx3 : wr.cell? ⟨w.heap.size + 1, 3, none⟩ = some (.string ⟨#[]⟩) := (blk_cell hX 3).trans rfl
   have mx4 : wr.cell? ⟨w.heap.size + 1, 4, none⟩ = some (.slice A tm.length c) := (blk_cell hX 4).trans rfl
   have mx5 : wr.cell? ⟨w.heap.size + 1, 5, none⟩ = some (.string ⟨#[]⟩) := (blk_cell hX 5).trans rfl
   have mx6 : wr.cell? ⟨w.heap.size + 1, 6, none⟩ = some (.int .i64 0) := (blk_cell hX 6).trans rfl
   have mx7 : wr.cell? ⟨w.heap.size + 1, 7, none⟩ = some (.int .i64 0) := (blk_cell hX 7).trans rfl
   clear hN hX
   by_cases hj : j < tm.length
   ·have d5 : decide ((j : Int) < (tm.length : Int)) = true := decide_eq_true (by omega)
    have d6 : decide (j < tm.length) = true := decide_eq_true hj
    have dj : 0 ≤ (j : Int) := by omega
    obtain ⟨ad2, hAe, c0⟩ := Kd.at_string (Kd.C_below HC.out HB3.out) (j : Int) (by omega) (by omega)
    subst hAe
    rw [Int.toNat_natCast] at c0
    have hst : rdOf ByteArray.empty tm (j : Int) = tm[j] := by simp [rdOf, List.getD_eq_getElem?_getD, hj]
    rw [hst] at c0
    have HTK := Aside0.mk (show tm.take (j + 1) = tm.take j ++ [tm[j]] from List.take_succ_eq_append_getElem hj)
    obtain ⟨sj, hsj⟩ : ∃ sj, tm[j] = sj := ⟨_, rfl⟩
    rw [hsj] at c0 HTK
    have HJ2 := Aside0.mk hj
    clear hst hsj
    obtain ⟨pb, hpb⟩ : ∃ pb, (true && (tm.take j).all tokB) = pb := ⟨_, rfl⟩
    rw [hpb]
    have HPB := Aside0.mk hpb
    obtain ⟨tb, htb⟩ : ∃ tb, tokB sj = tb := ⟨_, rfl⟩
    have HIS := Aside0.mk (fun W => is_calls sj W)
    rw [htb] at HIS
    have HTB := Aside0.mk htb
    clear hpb htb
    cases pb
    ·go_wp2_with fail
     try rw [show wrap64 ((j : Int) + 1) = ((j + 1 : Nat) : Int) by have := HJ2.out; unfold wrap64; omega]
     go_roundg (tm.length - j - 1)
     case measure => have := HJ.out; have := HJ2.out; omega
     case rel => exact ⟨j + 1, rfl, by rw [HTK.out, List.all_append, ← Bool.and_assoc, HPB.out]; rfl, ⟨by have := HJ.out; have := HJ2.out; omega⟩, HBr⟩
    ·go_wp2_with fail
     refine (HIS.out _).mono ?_
     rintro e w5 ⟨rfl, hb5⟩
     have HB5 := Aside0.mk (below_step HBr.out hb5)
     clear hb5
     go_wp2_with fail
     try rw [show wrap64 ((j : Int) + 1) = ((j + 1 : Nat) : Int) by have := HJ2.out; unfold wrap64; omega]
     go_roundg (tm.length - j - 1)
     case measure => have := HJ.out; have := HJ2.out; omega
     case rel => exact ⟨j + 1, rfl, by rw [HTK.out, List.all_append, ← Bool.and_assoc, HPB.out, List.all_cons, HTB.out]; simp, ⟨by have := HJ.out; have := HJ2.out; omega⟩, HB5⟩
   ·have d5 : decide ((j : Int) < (tm.length : Int)) = false := decide_eq_false (by omega)
    have hje : tm.take j = tm := List.take_of_length_le (by omega)
    rw [hje]
    obtain ⟨pb, hpb⟩ : ∃ pb, (true && tm.all tokB) = pb := ⟨_, rfl⟩
    rw [hpb]
    have HPB := Aside0.mk (show (decide (0 < tm.length) && tm.all tokB) = pb from by rw [← hpb]; congr 1; exact decide_eq_true HZ.out)
    clear hpb hje
    cases pb
    ·go_wp2_with fail
     go_ret
     refine ⟨congrArg (fun z => Ending.returned (Value.bool z)) ?_, HB3.out⟩
     rw [← HR.out, HPB.out]; rfl
    ·go_wp2_with fail
     refine (HS.out wr HB3.out _ _ _ _ _ _ _).mono ?_
     rintro e w6 ⟨rfl, hb⟩
     have HB6 := Aside0.mk (below_step HB3.out hb)
     clear hb
     go_wp2_with fail
     go_ret
     refine ⟨congrArg (fun z => Ending.returned (Value.bool z)) ?_, HB6.out⟩
     rw [← HR.out, HPB.out]
     simp
 ·have z0 : decide (0 < (tm.length : Int)) = false := decide_eq_false (by omega)
  have HZ := Aside0.mk h0
  clear h0
  go_enter Tryz.func42, Tryz.ntmps42
  go_wp2_with fail
  go_loopg [4, 5] tm.length (fun kq v4 v5 wr => ∃ (j : Nat), v5 = .int .i64 (j : Int) ∧ v4 = .bool (false && (tm.take j).all tokB) ∧ Aside0 (kq + j = tm.length) ∧ Aside0 (Below ((w.alloc (.cells (nodeC 4 a b tx (.slice A tm.length c) ky lo hi) 37)).alloc (.cells #[.int .i64 4, .int .i64 0, .int .i64 0, .string ⟨#[]⟩, .slice A tm.length c, .string ⟨#[]⟩, .int .i64 0, .int .i64 0] 37)).heap.size ((w.alloc (.cells (nodeC 4 a b tx (.slice A tm.length c) ky lo hi) 37)).alloc (.cells #[.int .i64 4, .int .i64 0, .int .i64 0, .string ⟨#[]⟩, .slice A tm.length c, .string ⟨#[]⟩, .int .i64 0, .int .i64 0] 37)) wr))
  case atStart => exact ⟨0, rfl, by have h_ := HZ.out; have h2_ : tm = [] := List.eq_nil_of_length_eq_zero (by omega); simp [h2_], ⟨rfl⟩, ⟨Below.refl _ _⟩⟩
  case round =>
   obtain ⟨j, rfl, rfl, HJ, HBr⟩ := hrel
   have HB3 := Aside0.mk (below_step HB1.out HBr.out)
   have hN := blk_below HNB.out HBr.out
   have hX := blk_below HXB.out HBr.out
   have mn0 : wr.cell? ⟨w.heap.size, 0, none⟩ = some (.int .i64 4) := (blk_cell hN 0).trans rfl
   have mn1 : wr.cell? ⟨w.heap.size, 1, none⟩ = some (.int .i64 a) := (blk_cell hN 1).trans rfl
   have mn2 : wr.cell? ⟨w.heap.size, 2, none⟩ = some (.int .i64 b) := (blk_cell hN 2).trans rfl
   have mn3 : wr.cell? ⟨w.heap.size, 3, none⟩ = some (.string tx) := (blk_cell hN 3).trans rfl
   have mn4 : wr.cell? ⟨w.heap.size, 4, none⟩ = some (.slice A tm.length c) := (blk_cell hN 4).trans rfl
   have mn5 : wr.cell? ⟨w.heap.size, 5, none⟩ = some (.string ky) := (blk_cell hN 5).trans rfl
   have mn6 : wr.cell? ⟨w.heap.size, 6, none⟩ = some (.int .i64 lo) := (blk_cell hN 6).trans rfl
   have mn7 : wr.cell? ⟨w.heap.size, 7, none⟩ = some (.int .i64 hi) := (blk_cell hN 7).trans rfl
   have mx0 : wr.cell? ⟨w.heap.size + 1, 0, none⟩ = some (.int .i64 4) := (blk_cell hX 0).trans rfl
   have mx1 : wr.cell? ⟨w.heap.size + 1, 1, none⟩ = some (.int .i64 0) := (blk_cell hX 1).trans rfl
   have mx2 : wr.cell? ⟨w.heap.size + 1, 2, none⟩ = some (.int .i64 0) := (blk_cell hX 2).trans rfl
   have mx3 : wr.cell? ⟨w.heap.size + 1, 3, none⟩ = some (.string ⟨#[]⟩) := (blk_cell hX 3).trans rfl
   have mx4 : wr.cell? ⟨w.heap.size + 1, 4, none⟩ = some (.slice A tm.length c) := (blk_cell hX 4).trans rfl
   have mx5 : wr.cell? ⟨w.heap.size + 1, 5, none⟩ = some (.string ⟨#[]⟩) := (blk_cell hX 5).trans rfl
   have mx6 : wr.cell? ⟨w.heap.size + 1, 6, none⟩ = some (.int .i64 0) := (blk_cell hX 6).trans rfl
   have mx7 : wr.cell? ⟨w.heap.size + 1, 7, none⟩ = some (.int .i64 0) := (blk_cell hX 7).trans rfl
   clear hN hX
   by_cases hj : j < tm.length
   ·have d5 : decide ((j : Int) < (tm.length : Int)) = true := decide_eq_true (by omega)
    have d6 : decide (j < tm.length) = true := decide_eq_true hj
    have dj : 0 ≤ (j : Int) := by omega
    obtain ⟨ad2, hAe, c0⟩ := Kd.at_string (Kd.C_below HC.out HB3.out) (j : Int) (by omega) (by omega)
    subst hAe
    rw [Int.toNat_natCast] at c0
    have hst : rdOf ByteArray.empty tm (j : Int) = tm[j] := by simp [rdOf, List.getD_eq_getElem?_getD, hj]
    rw [hst] at c0
    have HTK := Aside0.mk (show tm.take (j + 1) = tm.take j ++ [tm[j]] from List.take_succ_eq_append_getElem hj)
    obtain ⟨sj, hsj⟩ : ∃ sj, tm[j] = sj := ⟨_, rfl⟩
    rw [hsj] at c0 HTK
    have HJ2 := Aside0.mk hj
    clear hst hsj
    obtain ⟨pb, hpb⟩ : ∃ pb, (false && (tm.take j).all tokB) = pb := ⟨_, rfl⟩
    rw [hpb]
    have HPB := Aside0.mk hpb
    obtain ⟨tb, htb⟩ : ∃ tb, tokB sj = tb := ⟨_, rfl⟩
    have HIS := Aside0.mk (fun W => is_calls sj W)
    rw [htb] at HIS
    have HTB := Aside0.mk htb
    clear hpb htb
    cases pb
    ·go_wp2_with fail
     try rw [show wrap64 ((j : Int) + 1) = ((j + 1 : Nat) : Int) by have := HJ2.out; unfold wrap64; omega]
     go_roundg (tm.length - j - 1)
     case measure => have := HJ.out; have := HJ2.out; omega
     case rel => exact ⟨j + 1, rfl, by rw [HTK.out, List.all_append, ← Bool.and_assoc, HPB.out]; rfl, ⟨by have := HJ.out; have := HJ2.out; omega⟩, HBr⟩
    ·go_wp2_with fail
     refine (HIS.out _).mono ?_
     rintro e w5 ⟨rfl, hb5⟩
     have HB5 := Aside0.mk (below_step HBr.out hb5)
     clear hb5
     go_wp2_with fail
     try rw [show wrap64 ((j : Int) + 1) = ((j + 1 : Nat) : Int) by have := HJ2.out; unfold wrap64; omega]
     go_roundg (tm.length - j - 1)
     case measure => have := HJ.out; have := HJ2.out; omega
     case rel => exact ⟨j + 1, rfl, by rw [HTK.out, List.all_append, ← Bool.and_assoc, HPB.out, List.all_cons, HTB.out]; simp, ⟨by have := HJ.out; have := HJ2.out; omega⟩, HB5⟩
   ·have d5 : decide ((j : Int) < (tm.length : Int)) = false := decide_eq_false (by omega)
    have hje : tm.take j = tm := List.take_of_length_le (by omega)
    rw [hje]
    obtain ⟨pb, hpb⟩ : ∃ pb, (false && tm.all tokB) = pb := ⟨_, rfl⟩
    rw [hpb]
    have HPB := Aside0.mk (show (decide (0 < tm.length) && tm.all tokB) = pb from by rw [← hpb]; congr 1; exact decide_eq_false HZ.out)
    clear hpb hje
    cases pb
    ·go_wp2_with fail
     go_ret
     refine ⟨congrArg (fun z => Ending.returned (Value.bool z)) ?_, HB3.out⟩
     rw [← HR.out, HPB.out]; rfl
    ·go_wp2_with fail
     refine (HS.out wr HB3.out _ _ _ _ _ _ _).mono ?_
     rintro e w6 ⟨rfl, hb⟩
     have HB6 := Aside0.mk (below_step HB3.out hb)
     clear hb
     go_wp2_with fail
     go_ret
     refine ⟨congrArg (fun z => Ending.returned (Value.bool z)) ?_, HB6.out⟩
     rw [← HR.out, HPB.out]
     simp
theorem rright_5 (a b : Int) (tx : ByteArray) (A : Option Addr) (c : Nat) (tm : List ByteArray) (ky : ByteArray) (lo hi : Int) (w : World) (hC : Kd.string.C w A tm.length tm) (hc : tm.length ≤ c) (hn : tm.length ≤ 1099511627776) :
  Calls Tryz.prog 42 #[.agg (nodeC 5 a b tx (.slice A tm.length c) ky lo hi)] w fun e w' => e = .returned (.bool (decide (1 ≤ tx.size ∧ tx.size ≤ 64) && decide (a = 0 ∧ b = 0 ∧ tm = [] ∧ ky = ⟨#[]⟩ ∧ lo = 0 ∧ hi = 0))) ∧ Below w.heap.size w w' := by
 obtain ⟨r, hr⟩ : ∃ r, (decide (1 ≤ tx.size ∧ tx.size ≤ 64) && decide (a = 0 ∧ b = 0 ∧ tm = [] ∧ ky = ⟨#[]⟩ ∧ lo = 0 ∧ hi = 0)) = r := ⟨_, rfl⟩
 rw [hr]
 have HS := Aside0.mk (fun (W : World) (hW : Below w.heap.size w W) k' a' b' tx' ky' lo' hi' => rsame_calls 5 a b tx A c tm ky lo hi k' a' b' tx' none 0 [] ky' lo' hi' W (Kd.C_below hC hW) hc hn (Kd.C_nil _ _) (Nat.le_refl _))
 have HR := Aside0.mk hr
 clear hr hC hc hn
 by_cases h1 : 1 ≤ tx.size
 ·have s0 : decide (1 ≤ (tx.size : Int)) = true := decide_eq_true (by omega)
  by_cases hs : tx.size ≤ 64
  ·have s1 : decide ((tx.size : Int) ≤ 64) = true := decide_eq_true (by omega)
   go_enter Tryz.func42, Tryz.ntmps42
   go_wp2_with fail
   all_goals (try go_wp2_with (go_at_call 48; refine (HS.out _ bel6 _ _ _ _ _ _ _).mono ?_; rintro e w2 ⟨rfl, hb⟩; have HB := Aside0.mk hb; clear hb))
   all_goals go_ret
   all_goals first | refine ⟨?_, below_step bel6 HB.out⟩ | refine ⟨?_, bel6⟩
   all_goals first | refine congrArg (fun z => Ending.returned (Value.bool z)) (show true = r from ?_) | refine congrArg (fun z => Ending.returned (Value.bool z)) (show false = r from ?_) | refine congrArg (fun z => Ending.returned (Value.bool z)) (show decide _ = r from ?_) | refine congrArg (fun z => Ending.returned (Value.bool z)) (show (_ && _) = r from ?_)
   all_goals (rw [← HR.out]; clear HR HS; (try clear HK); (try clear HB); go_light; (try simp only [bytes_nil] at *))
   all_goals grind
  ·have s1 : decide ((tx.size : Int) ≤ 64) = false := decide_eq_false (by omega)
   go_enter Tryz.func42, Tryz.ntmps42
   go_wp2_with fail
   all_goals (try go_wp2_with (go_at_call 48; refine (HS.out _ bel6 _ _ _ _ _ _ _).mono ?_; rintro e w2 ⟨rfl, hb⟩; have HB := Aside0.mk hb; clear hb))
   all_goals go_ret
   all_goals first | refine ⟨?_, below_step bel6 HB.out⟩ | refine ⟨?_, bel6⟩
   all_goals first | refine congrArg (fun z => Ending.returned (Value.bool z)) (show true = r from ?_) | refine congrArg (fun z => Ending.returned (Value.bool z)) (show false = r from ?_) | refine congrArg (fun z => Ending.returned (Value.bool z)) (show decide _ = r from ?_) | refine congrArg (fun z => Ending.returned (Value.bool z)) (show (_ && _) = r from ?_)
   all_goals (rw [← HR.out]; clear HR HS; (try clear HK); (try clear HB); go_light; (try simp only [bytes_nil] at *))
   all_goals grind
 ·have s0 : decide (1 ≤ (tx.size : Int)) = false := decide_eq_false (by omega)
  go_enter Tryz.func42, Tryz.ntmps42
  go_wp2_with fail
  all_goals (try go_wp2_with (go_at_call 48; refine (HS.out _ bel6 _ _ _ _ _ _ _).mono ?_; rintro e w2 ⟨rfl, hb⟩; have HB := Aside0.mk hb; clear hb))
  all_goals go_ret
  all_goals first | refine ⟨?_, below_step bel6 HB.out⟩ | refine ⟨?_, bel6⟩
  all_goals first | refine congrArg (fun z => Ending.returned (Value.bool z)) (show true = r from ?_) | refine congrArg (fun z => Ending.returned (Value.bool z)) (show false = r from ?_) | refine congrArg (fun z => Ending.returned (Value.bool z)) (show decide _ = r from ?_) | refine congrArg (fun z => Ending.returned (Value.bool z)) (show (_ && _) = r from ?_)
  all_goals (rw [← HR.out]; clear HR HS; (try clear HK); (try clear HB); go_light; (try simp only [bytes_nil] at *))
  all_goals grind
theorem rright_6 (a b : Int) (tx : ByteArray) (A : Option Addr) (c : Nat) (tm : List ByteArray) (ky : ByteArray) (lo hi : Int) (w : World) (hC : Kd.string.C w A tm.length tm) (hc : tm.length ≤ c) (hn : tm.length ≤ 1099511627776) (hk : ky.size ≤ 9223372036854775807) :
  Calls Tryz.prog 42 #[.agg (nodeC 6 a b tx (.slice A tm.length c) ky lo hi)] w fun e w' => e = .returned (.bool (Pure.keyB ky && decide (tx.size ≤ 64) && decide (a = 0 ∧ b = 0 ∧ tm = [] ∧ lo = 0 ∧ hi = 0))) ∧ Below w.heap.size w w' := by
 obtain ⟨r, hr⟩ : ∃ r, (Pure.keyB ky && decide (tx.size ≤ 64) && decide (a = 0 ∧ b = 0 ∧ tm = [] ∧ lo = 0 ∧ hi = 0)) = r := ⟨_, rfl⟩
 rw [hr]
 have HS := Aside0.mk (fun (W : World) (hW : Below w.heap.size w W) k' a' b' tx' ky' lo' hi' => rsame_calls 6 a b tx A c tm ky lo hi k' a' b' tx' none 0 [] ky' lo' hi' W (Kd.C_below hC hW) hc hn (Kd.C_nil _ _) (Nat.le_refl _))
 obtain ⟨kb, hkb⟩ : ∃ kb, Pure.keyB ky = kb := ⟨_, rfl⟩
 obtain ⟨kk, hkk⟩ := Pure.refKey_ev ky hk
 have HK := Aside0.mk (fun W => dragnetref08_IsKey.calls kk ky _ W (hkk kk (Nat.le_refl _)))
 rw [hkb] at hr HK
 clear hkb hkk
 have HR := Aside0.mk hr
 clear hr hC hc hn
 by_cases hs : tx.size ≤ 64
 ·have s1 : decide ((tx.size : Int) ≤ 64) = true := decide_eq_true (by omega)
  cases kb
  all_goals (
   go_enter Tryz.func42, Tryz.ntmps42
   go_wp2_with fail
   go_region
   all_goals (go_wp2_with fail)
   all_goals (refine (HK.out _).mono ?_; rintro e w1 ⟨rfl, ⟨⟨n1, rfl⟩⟩⟩)
   all_goals (try go_wp2_with fail)
   all_goals (try go_wp2_with (go_at_call 48; refine (HS.out _ bel6 _ _ _ _ _ _ _).mono ?_; rintro e w2 ⟨rfl, hb⟩; have HB := Aside0.mk hb; clear hb))
   all_goals go_ret
   all_goals first | refine ⟨?_, below_step bel6 HB.out⟩ | refine ⟨?_, bel6⟩
   all_goals first | refine congrArg (fun z => Ending.returned (Value.bool z)) (show true = r from ?_) | refine congrArg (fun z => Ending.returned (Value.bool z)) (show false = r from ?_) | refine congrArg (fun z => Ending.returned (Value.bool z)) (show decide _ = r from ?_) | refine congrArg (fun z => Ending.returned (Value.bool z)) (show (_ && _) = r from ?_)
   all_goals (rw [← HR.out]; clear HR HS; (try clear HK); (try clear HB); go_light; (try simp only [bytes_nil] at *))
   all_goals grind
  )
 ·have s1 : decide ((tx.size : Int) ≤ 64) = false := decide_eq_false (by omega)
  cases kb
  all_goals (
   go_enter Tryz.func42, Tryz.ntmps42
   go_wp2_with fail
   go_region
   all_goals (go_wp2_with fail)
   all_goals (refine (HK.out _).mono ?_; rintro e w1 ⟨rfl, ⟨⟨n1, rfl⟩⟩⟩)
   all_goals (try go_wp2_with fail)
   all_goals (try go_wp2_with (go_at_call 48; refine (HS.out _ bel6 _ _ _ _ _ _ _).mono ?_; rintro e w2 ⟨rfl, hb⟩; have HB := Aside0.mk hb; clear hb))
   all_goals go_ret
   all_goals first | refine ⟨?_, below_step bel6 HB.out⟩ | refine ⟨?_, bel6⟩
   all_goals first | refine congrArg (fun z => Ending.returned (Value.bool z)) (show true = r from ?_) | refine congrArg (fun z => Ending.returned (Value.bool z)) (show false = r from ?_) | refine congrArg (fun z => Ending.returned (Value.bool z)) (show decide _ = r from ?_) | refine congrArg (fun z => Ending.returned (Value.bool z)) (show (_ && _) = r from ?_)
   all_goals (rw [← HR.out]; clear HR HS; (try clear HK); (try clear HB); go_light; (try simp only [bytes_nil] at *))
   all_goals grind
  )
theorem rright_7 (a b : Int) (tx : ByteArray) (A : Option Addr) (c : Nat) (tm : List ByteArray) (ky : ByteArray) (lo hi : Int) (w : World) (hC : Kd.string.C w A tm.length tm) (hc : tm.length ≤ c) (hn : tm.length ≤ 1099511627776) (hk : ky.size ≤ 9223372036854775807) :
  Calls Tryz.prog 42 #[.agg (nodeC 7 a b tx (.slice A tm.length c) ky lo hi)] w fun e w' => e = .returned (.bool (Pure.keyB ky && decide (a = 0 ∧ b = 0 ∧ tx = ⟨#[]⟩ ∧ tm = [] ∧ hi = 0))) ∧ Below w.heap.size w w' := by
 obtain ⟨r, hr⟩ : ∃ r, (Pure.keyB ky && decide (a = 0 ∧ b = 0 ∧ tx = ⟨#[]⟩ ∧ tm = [] ∧ hi = 0)) = r := ⟨_, rfl⟩
 rw [hr]
 have HS := Aside0.mk (fun (W : World) (hW : Below w.heap.size w W) k' a' b' tx' ky' lo' hi' => rsame_calls 7 a b tx A c tm ky lo hi k' a' b' tx' none 0 [] ky' lo' hi' W (Kd.C_below hC hW) hc hn (Kd.C_nil _ _) (Nat.le_refl _))
 obtain ⟨kb, hkb⟩ : ∃ kb, Pure.keyB ky = kb := ⟨_, rfl⟩
 obtain ⟨kk, hkk⟩ := Pure.refKey_ev ky hk
 have HK := Aside0.mk (fun W => dragnetref08_IsKey.calls kk ky _ W (hkk kk (Nat.le_refl _)))
 rw [hkb] at hr HK
 clear hkb hkk
 have HR := Aside0.mk hr
 clear hr hC hc hn
 cases kb
 all_goals (
  go_enter Tryz.func42, Tryz.ntmps42
  go_wp2_with fail
  go_region
  all_goals (go_wp2_with fail)
  all_goals (refine (HK.out _).mono ?_; rintro e w1 ⟨rfl, ⟨⟨n1, rfl⟩⟩⟩)
  all_goals (try go_wp2_with fail)
  all_goals (try go_wp2_with (go_at_call 48; refine (HS.out _ bel6 _ _ _ _ _ _ _).mono ?_; rintro e w2 ⟨rfl, hb⟩; have HB := Aside0.mk hb; clear hb))
  all_goals go_ret
  all_goals first | refine ⟨?_, below_step bel6 HB.out⟩ | refine ⟨?_, bel6⟩
  all_goals first | refine congrArg (fun z => Ending.returned (Value.bool z)) (show true = r from ?_) | refine congrArg (fun z => Ending.returned (Value.bool z)) (show false = r from ?_) | refine congrArg (fun z => Ending.returned (Value.bool z)) (show decide _ = r from ?_) | refine congrArg (fun z => Ending.returned (Value.bool z)) (show (_ && _) = r from ?_)
  all_goals (rw [← HR.out]; clear HR HS; (try clear HK); (try clear HB); go_light; (try simp only [bytes_nil] at *))
  all_goals grind
 )
theorem rright_8 (a b : Int) (tx : ByteArray) (A : Option Addr) (c : Nat) (tm : List ByteArray) (ky : ByteArray) (lo hi : Int) (w : World) (hC : Kd.string.C w A tm.length tm) (hc : tm.length ≤ c) (hn : tm.length ≤ 1099511627776) (hk : ky.size ≤ 9223372036854775807) :
  Calls Tryz.prog 42 #[.agg (nodeC 8 a b tx (.slice A tm.length c) ky lo hi)] w fun e w' => e = .returned (.bool (Pure.keyB ky && decide (a = 0 ∧ b = 0 ∧ tx = ⟨#[]⟩ ∧ tm = [] ∧ hi = 0))) ∧ Below w.heap.size w w' := by
 obtain ⟨r, hr⟩ : ∃ r, (Pure.keyB ky && decide (a = 0 ∧ b = 0 ∧ tx = ⟨#[]⟩ ∧ tm = [] ∧ hi = 0)) = r := ⟨_, rfl⟩
 rw [hr]
 have HS := Aside0.mk (fun (W : World) (hW : Below w.heap.size w W) k' a' b' tx' ky' lo' hi' => rsame_calls 8 a b tx A c tm ky lo hi k' a' b' tx' none 0 [] ky' lo' hi' W (Kd.C_below hC hW) hc hn (Kd.C_nil _ _) (Nat.le_refl _))
 obtain ⟨kb, hkb⟩ : ∃ kb, Pure.keyB ky = kb := ⟨_, rfl⟩
 obtain ⟨kk, hkk⟩ := Pure.refKey_ev ky hk
 have HK := Aside0.mk (fun W => dragnetref08_IsKey.calls kk ky _ W (hkk kk (Nat.le_refl _)))
 rw [hkb] at hr HK
 clear hkb hkk
 have HR := Aside0.mk hr
 clear hr hC hc hn
 cases kb
 all_goals (
  go_enter Tryz.func42, Tryz.ntmps42
  go_wp2_with fail
  go_region
  all_goals (go_wp2_with fail)
  all_goals (refine (HK.out _).mono ?_; rintro e w1 ⟨rfl, ⟨⟨n1, rfl⟩⟩⟩)
  all_goals (try go_wp2_with fail)
  all_goals (try go_wp2_with (go_at_call 48; refine (HS.out _ bel6 _ _ _ _ _ _ _).mono ?_; rintro e w2 ⟨rfl, hb⟩; have HB := Aside0.mk hb; clear hb))
  all_goals go_ret
  all_goals first | refine ⟨?_, below_step bel6 HB.out⟩ | refine ⟨?_, bel6⟩
  all_goals first | refine congrArg (fun z => Ending.returned (Value.bool z)) (show true = r from ?_) | refine congrArg (fun z => Ending.returned (Value.bool z)) (show false = r from ?_) | refine congrArg (fun z => Ending.returned (Value.bool z)) (show decide _ = r from ?_) | refine congrArg (fun z => Ending.returned (Value.bool z)) (show (_ && _) = r from ?_)
  all_goals (rw [← HR.out]; clear HR HS; (try clear HK); (try clear HB); go_light; (try simp only [bytes_nil] at *))
  all_goals grind
 )
theorem rright_9 (a b : Int) (tx : ByteArray) (A : Option Addr) (c : Nat) (tm : List ByteArray) (ky : ByteArray) (lo hi : Int) (w : World) (hC : Kd.string.C w A tm.length tm) (hc : tm.length ≤ c) (hn : tm.length ≤ 1099511627776) :
  Calls Tryz.prog 42 #[.agg (nodeC 9 a b tx (.slice A tm.length c) ky lo hi)] w fun e w' => e = .returned (.bool (decide (a = 0 ∧ b = 0 ∧ tx = ⟨#[]⟩ ∧ tm = [] ∧ ky = ⟨#[]⟩))) ∧ Below w.heap.size w w' := by
 obtain ⟨r, hr⟩ : ∃ r, (decide (a = 0 ∧ b = 0 ∧ tx = ⟨#[]⟩ ∧ tm = [] ∧ ky = ⟨#[]⟩)) = r := ⟨_, rfl⟩
 rw [hr]
 have HS := Aside0.mk (fun (W : World) (hW : Below w.heap.size w W) k' a' b' tx' ky' lo' hi' => rsame_calls 9 a b tx A c tm ky lo hi k' a' b' tx' none 0 [] ky' lo' hi' W (Kd.C_below hC hW) hc hn (Kd.C_nil _ _) (Nat.le_refl _))
 have HR := Aside0.mk hr
 clear hr hC hc hn
 go_enter Tryz.func42, Tryz.ntmps42
 go_wp2_with fail
 go_region
 all_goals (try go_wp2_with fail)
 all_goals (try go_wp2_with (go_at_call 48; refine (HS.out _ bel6 _ _ _ _ _ _ _).mono ?_; rintro e w2 ⟨rfl, hb⟩; have HB := Aside0.mk hb; clear hb))
 all_goals go_ret
 all_goals first | refine ⟨?_, below_step bel6 HB.out⟩ | refine ⟨?_, bel6⟩
 all_goals first | refine congrArg (fun z => Ending.returned (Value.bool z)) (show true = r from ?_) | refine congrArg (fun z => Ending.returned (Value.bool z)) (show false = r from ?_) | refine congrArg (fun z => Ending.returned (Value.bool z)) (show decide _ = r from ?_) | refine congrArg (fun z => Ending.returned (Value.bool z)) (show (_ && _) = r from ?_)
 all_goals (rw [← HR.out]; clear HR HS; (try clear HK); (try clear HB); go_light; (try simp only [bytes_nil] at *))
 all_goals grind
theorem rright_10 (a b : Int) (tx : ByteArray) (A : Option Addr) (c : Nat) (tm : List ByteArray) (ky : ByteArray) (lo hi : Int) (w : World) (hC : Kd.string.C w A tm.length tm) (hc : tm.length ≤ c) (hn : tm.length ≤ 1099511627776) :
  Calls Tryz.prog 42 #[.agg (nodeC 10 a b tx (.slice A tm.length c) ky lo hi)] w fun e w' => e = .returned (.bool (decide (a ≠ b) && decide (tx = ⟨#[]⟩ ∧ tm = [] ∧ ky = ⟨#[]⟩ ∧ lo = 0 ∧ hi = 0))) ∧ Below w.heap.size w w' := by
 obtain ⟨r, hr⟩ : ∃ r, (decide (a ≠ b) && decide (tx = ⟨#[]⟩ ∧ tm = [] ∧ ky = ⟨#[]⟩ ∧ lo = 0 ∧ hi = 0)) = r := ⟨_, rfl⟩
 rw [hr]
 have HS := Aside0.mk (fun (W : World) (hW : Below w.heap.size w W) k' a' b' tx' ky' lo' hi' => rsame_calls 10 a b tx A c tm ky lo hi k' a' b' tx' none 0 [] ky' lo' hi' W (Kd.C_below hC hW) hc hn (Kd.C_nil _ _) (Nat.le_refl _))
 have HR := Aside0.mk hr
 clear hr hC hc hn
 by_cases hab : a = b
 ·have e1 : (a == b) = true := beq_iff_eq.2 hab
  have e2 : (a != b) = false := by rw [bne, e1]; rfl
  go_enter Tryz.func42, Tryz.ntmps42
  go_wp2_with fail
  go_region
  all_goals (try go_wp2_with fail)
  all_goals (try go_wp2_with (go_at_call 48; refine (HS.out _ bel6 _ _ _ _ _ _ _).mono ?_; rintro e w2 ⟨rfl, hb⟩; have HB := Aside0.mk hb; clear hb))
  all_goals go_ret
  all_goals first | refine ⟨?_, below_step bel6 HB.out⟩ | refine ⟨?_, bel6⟩
  all_goals first | refine congrArg (fun z => Ending.returned (Value.bool z)) (show true = r from ?_) | refine congrArg (fun z => Ending.returned (Value.bool z)) (show false = r from ?_) | refine congrArg (fun z => Ending.returned (Value.bool z)) (show decide _ = r from ?_) | refine congrArg (fun z => Ending.returned (Value.bool z)) (show (_ && _) = r from ?_)
  all_goals (rw [← HR.out]; clear HR HS; (try clear HK); (try clear HB); go_light; (try simp only [bytes_nil] at *))
  all_goals grind
 ·have e1 : (a == b) = false := beq_eq_false_iff_ne.2 hab
  have e2 : (a != b) = true := by rw [bne, e1]; rfl
  go_enter Tryz.func42, Tryz.ntmps42
  go_wp2_with fail
  go_region
  all_goals (try go_wp2_with fail)
  all_goals (try go_wp2_with (go_at_call 48; refine (HS.out _ bel6 _ _ _ _ _ _ _).mono ?_; rintro e w2 ⟨rfl, hb⟩; have HB := Aside0.mk hb; clear hb))
  all_goals go_ret
  all_goals first | refine ⟨?_, below_step bel6 HB.out⟩ | refine ⟨?_, bel6⟩
  all_goals first | refine congrArg (fun z => Ending.returned (Value.bool z)) (show true = r from ?_) | refine congrArg (fun z => Ending.returned (Value.bool z)) (show false = r from ?_) | refine congrArg (fun z => Ending.returned (Value.bool z)) (show decide _ = r from ?_) | refine congrArg (fun z => Ending.returned (Value.bool z)) (show (_ && _) = r from ?_)
  all_goals (rw [← HR.out]; clear HR HS; (try clear HK); (try clear HB); go_light; (try simp only [bytes_nil] at *))
  all_goals grind
theorem rright_11 (a b : Int) (tx : ByteArray) (A : Option Addr) (c : Nat) (tm : List ByteArray) (ky : ByteArray) (lo hi : Int) (w : World) (hC : Kd.string.C w A tm.length tm) (hc : tm.length ≤ c) (hn : tm.length ≤ 1099511627776) :
  Calls Tryz.prog 42 #[.agg (nodeC 11 a b tx (.slice A tm.length c) ky lo hi)] w fun e w' => e = .returned (.bool (decide (a ≠ b) && decide (tx = ⟨#[]⟩ ∧ tm = [] ∧ ky = ⟨#[]⟩ ∧ lo = 0 ∧ hi = 0))) ∧ Below w.heap.size w w' := by
 obtain ⟨r, hr⟩ : ∃ r, (decide (a ≠ b) && decide (tx = ⟨#[]⟩ ∧ tm = [] ∧ ky = ⟨#[]⟩ ∧ lo = 0 ∧ hi = 0)) = r := ⟨_, rfl⟩
 rw [hr]
 have HS := Aside0.mk (fun (W : World) (hW : Below w.heap.size w W) k' a' b' tx' ky' lo' hi' => rsame_calls 11 a b tx A c tm ky lo hi k' a' b' tx' none 0 [] ky' lo' hi' W (Kd.C_below hC hW) hc hn (Kd.C_nil _ _) (Nat.le_refl _))
 have HR := Aside0.mk hr
 clear hr hC hc hn
 by_cases hab : a = b
 ·have e1 : (a == b) = true := beq_iff_eq.2 hab
  have e2 : (a != b) = false := by rw [bne, e1]; rfl
  go_enter Tryz.func42, Tryz.ntmps42
  go_wp2_with fail
  go_region
  all_goals (try go_wp2_with fail)
  all_goals (try go_wp2_with (go_at_call 48; refine (HS.out _ bel6 _ _ _ _ _ _ _).mono ?_; rintro e w2 ⟨rfl, hb⟩; have HB := Aside0.mk hb; clear hb))
  all_goals go_ret
  all_goals first | refine ⟨?_, below_step bel6 HB.out⟩ | refine ⟨?_, bel6⟩
  all_goals first | refine congrArg (fun z => Ending.returned (Value.bool z)) (show true = r from ?_) | refine congrArg (fun z => Ending.returned (Value.bool z)) (show false = r from ?_) | refine congrArg (fun z => Ending.returned (Value.bool z)) (show decide _ = r from ?_) | refine congrArg (fun z => Ending.returned (Value.bool z)) (show (_ && _) = r from ?_)
  all_goals (rw [← HR.out]; clear HR HS; (try clear HK); (try clear HB); go_light; (try simp only [bytes_nil] at *))
  all_goals grind
 ·have e1 : (a == b) = false := beq_eq_false_iff_ne.2 hab
  have e2 : (a != b) = true := by rw [bne, e1]; rfl
  go_enter Tryz.func42, Tryz.ntmps42
  go_wp2_with fail
  go_region
  all_goals (try go_wp2_with fail)
  all_goals (try go_wp2_with (go_at_call 48; refine (HS.out _ bel6 _ _ _ _ _ _ _).mono ?_; rintro e w2 ⟨rfl, hb⟩; have HB := Aside0.mk hb; clear hb))
  all_goals go_ret
  all_goals first | refine ⟨?_, below_step bel6 HB.out⟩ | refine ⟨?_, bel6⟩
  all_goals first | refine congrArg (fun z => Ending.returned (Value.bool z)) (show true = r from ?_) | refine congrArg (fun z => Ending.returned (Value.bool z)) (show false = r from ?_) | refine congrArg (fun z => Ending.returned (Value.bool z)) (show decide _ = r from ?_) | refine congrArg (fun z => Ending.returned (Value.bool z)) (show (_ && _) = r from ?_)
  all_goals (rw [← HR.out]; clear HR HS; (try clear HK); (try clear HB); go_light; (try simp only [bytes_nil] at *))
  all_goals grind
theorem rright_12 (a b : Int) (tx : ByteArray) (A : Option Addr) (c : Nat) (tm : List ByteArray) (ky : ByteArray) (lo hi : Int) (w : World) (hC : Kd.string.C w A tm.length tm) (hc : tm.length ≤ c) (hn : tm.length ≤ 1099511627776) :
  Calls Tryz.prog 42 #[.agg (nodeC 12 a b tx (.slice A tm.length c) ky lo hi)] w fun e w' => e = .returned (.bool (decide (b = 0 ∧ tx = ⟨#[]⟩ ∧ tm = [] ∧ ky = ⟨#[]⟩ ∧ lo = 0 ∧ hi = 0))) ∧ Below w.heap.size w w' := by
 obtain ⟨r, hr⟩ : ∃ r, (decide (b = 0 ∧ tx = ⟨#[]⟩ ∧ tm = [] ∧ ky = ⟨#[]⟩ ∧ lo = 0 ∧ hi = 0)) = r := ⟨_, rfl⟩
 rw [hr]
 have HS := Aside0.mk (fun (W : World) (hW : Below w.heap.size w W) k' a' b' tx' ky' lo' hi' => rsame_calls 12 a b tx A c tm ky lo hi k' a' b' tx' none 0 [] ky' lo' hi' W (Kd.C_below hC hW) hc hn (Kd.C_nil _ _) (Nat.le_refl _))
 have HR := Aside0.mk hr
 clear hr hC hc hn
 go_enter Tryz.func42, Tryz.ntmps42
 go_wp2_with fail
 all_goals (try go_wp2_with (go_at_call 48; refine (HS.out _ bel6 _ _ _ _ _ _ _).mono ?_; rintro e w2 ⟨rfl, hb⟩; have HB := Aside0.mk hb; clear hb))
 all_goals go_ret
 all_goals first | refine ⟨?_, below_step bel6 HB.out⟩ | refine ⟨?_, bel6⟩
 all_goals first | refine congrArg (fun z => Ending.returned (Value.bool z)) (show true = r from ?_) | refine congrArg (fun z => Ending.returned (Value.bool z)) (show false = r from ?_) | refine congrArg (fun z => Ending.returned (Value.bool z)) (show decide _ = r from ?_) | refine congrArg (fun z => Ending.returned (Value.bool z)) (show (_ && _) = r from ?_)
 all_goals (rw [← HR.out]; clear HR HS; (try clear HK); (try clear HB); go_light; (try simp only [bytes_nil] at *))
 all_goals grind
theorem rright_calls (n : ND) (W : World) (A : Option Addr) (c : Nat) (hC : Kd.string.C W A n.f4.length n.f4) (hc : n.f4.length ≤ c) (hn : n.f4.length ≤ 1099511627776) (hk : n.f5.size ≤ 9223372036854775807) :
  Calls Tryz.prog 42 #[.agg #[.int .i64 n.f0, .int .i64 n.f1, .int .i64 n.f2, .string n.f3, .slice A n.f4.length c, .string n.f5, .int .i64 n.f6, .int .i64 n.f7]] W fun e w' => e = .returned (.bool (rightN n)) ∧ Below W.heap.size W w' := by
 obtain ⟨k, a, b, tx, tm, ky, lo, hi⟩ := n
 show Calls _ _ _ _ (fun e w' => e = .returned (.bool (rightB k a b tx tm ky lo hi)) ∧ _)
 dsimp only at *
 unfold rightB
 by_cases h1 : k = 1
 ·rw [if_pos h1]; subst h1; exact rright_1 a b tx A c tm ky lo hi W hC hc hn
 rw [if_neg h1]
 by_cases h2 : k = 2
 ·rw [if_pos (.inl h2)]; subst h2; exact rright_2 a b tx A c tm ky lo hi W hC hc hn
 by_cases h3 : k = 3
 ·rw [if_pos (.inr h3)]; subst h3; exact rright_3 a b tx A c tm ky lo hi W hC hc hn
 rw [if_neg (by omega)]
 by_cases h4 : k = 4
 ·rw [if_pos h4]; subst h4; exact rright_4 a b tx A c tm ky lo hi W hC hc hn
 rw [if_neg h4]
 by_cases h5 : k = 5
 ·rw [if_pos h5]; subst h5; exact rright_5 a b tx A c tm ky lo hi W hC hc hn
 rw [if_neg h5]
 by_cases h6 : k = 6
 ·rw [if_pos h6]; subst h6; exact rright_6 a b tx A c tm ky lo hi W hC hc hn hk
 rw [if_neg h6]
 by_cases h7 : k = 7
 ·rw [if_pos (.inl h7)]; subst h7; exact rright_7 a b tx A c tm ky lo hi W hC hc hn hk
 by_cases h8 : k = 8
 ·rw [if_pos (.inr h8)]; subst h8; exact rright_8 a b tx A c tm ky lo hi W hC hc hn hk
 rw [if_neg (by omega)]
 by_cases h9 : k = 9
 ·rw [if_pos h9]; subst h9; exact rright_9 a b tx A c tm ky lo hi W hC hc hn
 rw [if_neg h9]
 by_cases h10 : k = 10
 ·rw [if_pos (.inl h10)]; subst h10; exact rright_10 a b tx A c tm ky lo hi W hC hc hn
 by_cases h11 : k = 11
 ·rw [if_pos (.inr h11)]; subst h11; exact rright_11 a b tx A c tm ky lo hi W hC hc hn
 rw [if_neg (by omega)]
 by_cases h12 : k = 12
 ·rw [if_pos h12]; subst h12; exact rright_12 a b tx A c tm ky lo hi W hC hc hn
 rw [if_neg h12]
 exact rright_0 k a b tx _ ⟨_, _, _, rfl⟩ ky lo hi W h1 h2 h3 h4 h5 h6 h7 h8 h9 h10 h11 h12
end Go.Proofs.YtehaodbheifokaaGreatDoor.P
end
section
namespace Go.Proofs.YtehaodbheifokaaGreatDoor.P
open Go.RowKit Go.Proofs.YtehaodbheifokaaGreatDoorW.PrintWords Go.Proofs.YtehaodbheifokaaGreatDoorW.PrintLast Go.Proofs.YtehaodbheifokaaGreatDoorW.PrintMore
attribute [local go_sem] max2_int min2_int max_two min_two max_three min_three max_four min_four   -- for this text's walks alone
mutual
def dragnetref19_Same.j0 : Nat → Bool → List (S37) → Int → ByteArray → Int → Int → Int → List (S37) → Int → ByteArray → Int → Int → Int → Option (Bool)
 | 0, _, _, _, _, _, _, _, _, _, _, _, _, _ => none
 | k + 1, x47, x158000, x158001, x158002, x158003, x158004, x158005, x159000, x159001, x159002, x159003, x159004, x159005 => if x47 = true then (some false) else (dragnetref19_Same.l0 k 0 x158000 x158001 x158002 x158003 x158004 x158005 x159000 x159001 x159002 x159003 x159004 x159005)
def dragnetref19_Same.l0 : Nat → Int → List (S37) → Int → ByteArray → Int → Int → Int → List (S37) → Int → ByteArray → Int → Int → Int → Option (Bool)
 | 0, _, _, _, _, _, _, _, _, _, _, _, _, _ => none
 | k + 1, x5, x158000, x158001, x158002, x158003, x158004, x158005, x159000, x159001, x159002, x159003, x159004, x159005 => if x5 < (x158000.length : Int) then (if 0 ≤ x5 then (if x5 < (x159000.length : Int) then ((dragnetref19_SameNode.f k ((rd_T37 x158000 x5).f0) ((rd_T37 x158000 x5).f1) ((rd_T37 x158000 x5).f2) ((rd_T37 x158000 x5).f3) ((rd_T37 x158000 x5).f4) ((rd_T37 x158000 x5).f5) ((rd_T37 x158000 x5).f6) ((rd_T37 x158000 x5).f7) ((rd_T37 x159000 x5).f0) ((rd_T37 x159000 x5).f1) ((rd_T37 x159000 x5).f2) ((rd_T37 x159000 x5).f3) ((rd_T37 x159000 x5).f4) ((rd_T37 x159000 x5).f5) ((rd_T37 x159000 x5).f6) ((rd_T37 x159000 x5).f7)).bind fun t161 => (if t161 = true then (dragnetref19_Same.l0 k (wrap64 (x5 + 1)) x158000 x158001 x158002 x158003 x158004 x158005 x159000 x159001 x159002 x159003 x159004 x159005) else (some false))) else (none)) else (none)) else (some true)
end
def dragnetref19_Same.f (k : Nat) (l0_0 : List (S37)) (a0_1 : Int) (a0_2 : ByteArray) (a0_3 : Int) (a0_4 : Int) (a0_5 : Int) (l1_0 : List (S37)) (a1_1 : Int) (a1_2 : ByteArray) (a1_3 : Int) (a1_4 : Int) (a1_5 : Int) : Option (Bool) := if a0_1 = a1_1 then (if a0_2.toList = a1_2.toList then (if a0_3 = a1_3 then (if a0_4 = a1_4 then (if a0_5 = a1_5 then (dragnetref19_Same.j0 k ((l0_0.length : Int) != (l1_0.length : Int)) l0_0 a0_1 a0_2 a0_3 a0_4 a0_5 l1_0 a1_1 a1_2 a1_3 a1_4 a1_5) else (dragnetref19_Same.j0 k true l0_0 a0_1 a0_2 a0_3 a0_4 a0_5 l1_0 a1_1 a1_2 a1_3 a1_4 a1_5)) else (dragnetref19_Same.j0 k true l0_0 a0_1 a0_2 a0_3 a0_4 a0_5 l1_0 a1_1 a1_2 a1_3 a1_4 a1_5)) else (dragnetref19_Same.j0 k true l0_0 a0_1 a0_2 a0_3 a0_4 a0_5 l1_0 a1_1 a1_2 a1_3 a1_4 a1_5)) else (dragnetref19_Same.j0 k true l0_0 a0_1 a0_2 a0_3 a0_4 a0_5 l1_0 a1_1 a1_2 a1_3 a1_4 a1_5)) else (dragnetref19_Same.j0 k true l0_0 a0_1 a0_2 a0_3 a0_4 a0_5 l1_0 a1_1 a1_2 a1_3 a1_4 a1_5)
def dragnetref19_Same.T6 : Bool × List (List Nat × List Nat) := (true, [([], []), ([0], [0]), ([], []), ([1, 2], [1, 2]), ([3], [3]), ([], []), ([5], [5]), ([], []), ([6, 7], [6, 7]), ([8], [8]), ([4, 9], [4, 9]), ([10], [10])])
def dragnetref19_Same.B6 : List Nat := [0, 1, 0, 7, 15, 0, 32, 0, 224, 480, 1023, 2047]
theorem dragnetref19_Same.tab6 : rtab .any (opsOf Tryz.f26 6) = dragnetref19_Same.T6 := by kernel_rfl
theorem dragnetref19_Same.bits6 : waitsOk dragnetref19_Same.T6.2 dragnetref19_Same.B6 = true := by kernel_rfl
theorem dragnetref19_Same.calls (k : Nat) (A0_0 : Option Addr) (c0_0 : Nat) (l0_0 : List (S37)) (a0_1 : Int) (a0_2 : ByteArray) (a0_3 : Int) (a0_4 : Int) (a0_5 : Int) (A1_0 : Option Addr) (c1_0 : Nat) (l1_0 : List (S37)) (a1_1 : Int) (a1_2 : ByteArray) (a1_3 : Int) (a1_4 : Int) (a1_5 : Int) (r : Bool) (w : World) (hr0_0 : Kd.C k37 w A0_0 l0_0.length l0_0) (hc0_0 : l0_0.length ≤ c0_0) (hr1_0 : Kd.C k37 w A1_0 l1_0.length l1_0) (hc1_0 : l1_0.length ≤ c1_0) (h : dragnetref19_Same.f k l0_0 a0_1 a0_2 a0_3 a0_4 a0_5 l1_0 a1_1 a1_2 a1_3 a1_4 a1_5 = some r) :
  Calls Tryz.prog 26 #[.agg #[.slice A0_0 l0_0.length c0_0, .int .i64 a0_1, .string a0_2, .int .i64 a0_3, .int .i64 a0_4, .int .i64 a0_5], .agg #[.slice A1_0 l1_0.length c1_0, .int .i64 a1_1, .string a1_2, .int .i64 a1_3, .int .i64 a1_4, .int .i64 a1_5]] w fun e w' => e = .returned (.bool r) ∧ Below w.heap.size w w' := by
 have hu24 := Tryz.underlying24
 have hu37 := Tryz.underlying37
 have HR0_0 := Aside0.mk hr0_0
 have HC0_0 := Aside0.mk hc0_0
 clear hr0_0 hc0_0
 have HR1_0 := Aside0.mk hr1_0
 have HC1_0 := Aside0.mk hc1_0
 clear hr1_0 hc1_0
 have HB := Aside0.mk (Below.refl w.heap.size w)
 have H : (if a0_1 = a1_1 then (if a0_2.toList = a1_2.toList then (if a0_3 = a1_3 then (if a0_4 = a1_4 then (if a0_5 = a1_5 then (dragnetref19_Same.j0 k ((l0_0.length : Int) != (l1_0.length : Int)) l0_0 a0_1 a0_2 a0_3 a0_4 a0_5 l1_0 a1_1 a1_2 a1_3 a1_4 a1_5) else (dragnetref19_Same.j0 k true l0_0 a0_1 a0_2 a0_3 a0_4 a0_5 l1_0 a1_1 a1_2 a1_3 a1_4 a1_5)) else (dragnetref19_Same.j0 k true l0_0 a0_1 a0_2 a0_3 a0_4 a0_5 l1_0 a1_1 a1_2 a1_3 a1_4 a1_5)) else (dragnetref19_Same.j0 k true l0_0 a0_1 a0_2 a0_3 a0_4 a0_5 l1_0 a1_1 a1_2 a1_3 a1_4 a1_5)) else (dragnetref19_Same.j0 k true l0_0 a0_1 a0_2 a0_3 a0_4 a0_5 l1_0 a1_1 a1_2 a1_3 a1_4 a1_5)) else (dragnetref19_Same.j0 k true l0_0 a0_1 a0_2 a0_3 a0_4 a0_5 l1_0 a1_1 a1_2 a1_3 a1_4 a1_5)) = some r := h
 clear h
 have HC3 := Aside0.mk H
 clear H
 go_enter Tryz.func26, Tryz.ntmps26
 go_upto_region 1 with (first | ((with_reducible refine gate_dst (N := 2) rfl ?_); (try (refine gate_guard (by rfl) ?_; dsimp only)); refine box_event ?hg (N := 2) ?hd (cs := #[.slice A0_0 l0_0.length c0_0, .int .i64 a0_1, .string a0_2, .int .i64 a0_3, .int .i64 a0_4, .int .i64 a0_5]) (t := 24) ?hr ?_; (case hd => rfl); (case hg => rfl); (case hr => first | (go_simp; done) | (go_simp; rfl) | (go_simp; simp only [wAl, wAr, wSl, wSr, wW])); intro gb157 hg w4 hbox hb; have n0_ := bsA HB hb; have n1_ := Aside0.mk (hbox); have n2_ := szA HB hg; have n3_ := szA HB hg; clear HB; have HB := n0_; have BK157 := n1_; have GW157 := n2_; have GE157 := n3_; clear n0_ n1_ n2_ n3_; clear hb hbox hg) | ((with_reducible refine gate_dst (N := 3) rfl ?_); (try (refine gate_guard (by rfl) ?_; dsimp only)); refine box_event ?hg (N := 3) ?hd (cs := #[.slice A1_0 l1_0.length c1_0, .int .i64 a1_1, .string a1_2, .int .i64 a1_3, .int .i64 a1_4, .int .i64 a1_5]) (t := 24) ?hr ?_; (case hd => rfl); (case hg => rfl); (case hr => first | (go_simp; done) | (go_simp; rfl) | (go_simp; simp only [wAl, wAr, wSl, wSr, wW])); intro gb158 hg w5 hbox hb; have n0_ := bkA BK157 hb; have n1_ := bsA HB hb; have n2_ := Aside0.mk (hbox); have n3_ := szA HB hg; have n4_ := szA HB hg; have n5_ := neA BK157 hg; have n6_ := neB BK157 hg; clear BK157; clear HB; have BK157 := n0_; have HB := n1_; have BK158 := n2_; have GW158 := n3_; have GE158 := n4_; have NB157_158 := n5_; have NB158_157 := n6_; clear n0_ n1_ n2_ n3_ n4_ n5_ n6_; clear hb hbox hg))
 (try simp only [Act.put, List.setIfInBounds_toArray, List.set_cons_zero, List.set_cons_succ])
 go_cut [47] (fun v47 wc => ∃ (kq : Nat) (x47_2 : Bool), v47 = .bool x47_2 ∧ Aside0 (dragnetref19_Same.j0 kq x47_2 l0_0 a0_1 a0_2 a0_3 a0_4 a0_5 l1_0 a1_1 a1_2 a1_3 a1_4 a1_5 = some r) ∧ Aside0 (kq ≤ k) ∧ Aside0 (wc.heap[gb157]? = some (.cells #[(.slice A0_0 l0_0.length c0_0), .int .i64 a0_1, .string a0_2, .int .i64 a0_3, .int .i64 a0_4, .int .i64 a0_5] 24 (0, 0))) ∧ Aside0 (wc.heap[gb158]? = some (.cells #[(.slice A1_0 l1_0.length c1_0), .int .i64 a1_1, .string a1_2, .int .i64 a1_3, .int .i64 a1_4, .int .i64 a1_5] 24 (0, 0))) ∧ Aside0 (Below w.heap.size w wc))
 case first =>
  have H := HC3.out
  clear HC3
  by_cases c6 : a0_1 = a1_1
  ·rw [if_pos c6] at H
   have c6b0 : (a0_1 == a1_1) = true := beq_iff_eq.mpr c6
   have c6b1 : (a0_1 != a1_1) = false := bne_eq_false_iff_eq.mpr c6
   clear c6
   (first | rw [c6b0] | (simp only [i64_w, i32_w]; rw [c6b0]) | skip)
   by_cases c7 : a0_2.toList = a1_2.toList
   ·rw [if_pos c7] at H
    have c7b0 : (a0_2.toList == a1_2.toList) = true := beq_iff_eq.mpr c7
    have c7b1 : (a0_2.toList != a1_2.toList) = false := bne_eq_false_iff_eq.mpr c7
    clear c7
    by_cases c8 : a0_3 = a1_3
    ·rw [if_pos c8] at H
     have c8b0 : (a0_3 == a1_3) = true := beq_iff_eq.mpr c8
     have c8b1 : (a0_3 != a1_3) = false := bne_eq_false_iff_eq.mpr c8
     clear c8
     by_cases c9 : a0_4 = a1_4
     ·rw [if_pos c9] at H
      have c9b0 : (a0_4 == a1_4) = true := beq_iff_eq.mpr c9
      have c9b1 : (a0_4 != a1_4) = false := bne_eq_false_iff_eq.mpr c9
      clear c9
      by_cases c10 : a0_5 = a1_5
      ·rw [if_pos c10] at H
       have c10b0 : (a0_5 == a1_5) = true := beq_iff_eq.mpr c10
       have c10b1 : (a0_5 != a1_5) = false := bne_eq_false_iff_eq.mpr c10
       clear c10
       have H' := Aside0.mk H
       clear H
       have hnb11 := NB157_158.out
       have hnc11 := NB158_157.out
       have hcz12_0 : w5.cell? ⟨gb157, 0, none⟩ = some (.slice A0_0 l0_0.length c0_0) := (blk_cell BK157.out 0).trans rfl
       have hcz12_1 : w5.cell? ⟨gb157, 1, none⟩ = some (.int .i64 a0_1) := (blk_cell BK157.out 1).trans rfl
       have hcz12_2 : w5.cell? ⟨gb157, 2, none⟩ = some (.string a0_2) := (blk_cell BK157.out 2).trans rfl
       have hcz12_3 : w5.cell? ⟨gb157, 3, none⟩ = some (.int .i64 a0_3) := (blk_cell BK157.out 3).trans rfl
       have hcz12_4 : w5.cell? ⟨gb157, 4, none⟩ = some (.int .i64 a0_4) := (blk_cell BK157.out 4).trans rfl
       have hcz12_5 : w5.cell? ⟨gb157, 5, none⟩ = some (.int .i64 a0_5) := (blk_cell BK157.out 5).trans rfl
       have hfz12_0 := blk_frozen BK157.out 0
       have hfz12_1 := blk_frozen BK157.out 1
       have hfz12_2 := blk_frozen BK157.out 2
       have hfz12_3 := blk_frozen BK157.out 3
       have hfz12_4 := blk_frozen BK157.out 4
       have hfz12_5 := blk_frozen BK157.out 5
       have hcz13_0 : w5.cell? ⟨gb158, 0, none⟩ = some (.slice A1_0 l1_0.length c1_0) := (blk_cell BK158.out 0).trans rfl
       have hcz13_1 : w5.cell? ⟨gb158, 1, none⟩ = some (.int .i64 a1_1) := (blk_cell BK158.out 1).trans rfl
       have hcz13_2 : w5.cell? ⟨gb158, 2, none⟩ = some (.string a1_2) := (blk_cell BK158.out 2).trans rfl
       have hcz13_3 : w5.cell? ⟨gb158, 3, none⟩ = some (.int .i64 a1_3) := (blk_cell BK158.out 3).trans rfl
       have hcz13_4 : w5.cell? ⟨gb158, 4, none⟩ = some (.int .i64 a1_4) := (blk_cell BK158.out 4).trans rfl
       have hcz13_5 : w5.cell? ⟨gb158, 5, none⟩ = some (.int .i64 a1_5) := (blk_cell BK158.out 5).trans rfl
       have hfz13_0 := blk_frozen BK158.out 0
       have hfz13_1 := blk_frozen BK158.out 1
       have hfz13_2 := blk_frozen BK158.out 2
       have hfz13_3 := blk_frozen BK158.out 3
       have hfz13_4 := blk_frozen BK158.out 4
       have hfz13_5 := blk_frozen BK158.out 5
       go_wp2
       go_meet
       case rel => exact ⟨_, (((l0_0.length : Int) != (l1_0.length : Int))), rs_, H', ⟨by first | omega | exact Nat.le_refl _⟩, ⟨bU_ BK157.out⟩, ⟨bU_ BK158.out⟩, ⟨by repeat (first | (with_reducible first | exact HB.out | apply below_alloc | apply pw_below_drewN | apply below_drew1 | refine below_set ?_ GE157.out | refine below_set ?_ GE158.out) | exact HB.out)⟩⟩
      ·rw [if_neg c10] at H
       have c10b0 : (a0_5 == a1_5) = false := beq_eq_false_iff_ne.mpr c10
       have c10b1 : (a0_5 != a1_5) = true := bne_iff_ne.mpr c10
       have H' := Aside0.mk H
       clear H
       have hnb14 := NB157_158.out
       have hnc14 := NB158_157.out
       have hcz15_0 : w5.cell? ⟨gb157, 0, none⟩ = some (.slice A0_0 l0_0.length c0_0) := (blk_cell BK157.out 0).trans rfl
       have hcz15_1 : w5.cell? ⟨gb157, 1, none⟩ = some (.int .i64 a0_1) := (blk_cell BK157.out 1).trans rfl
       have hcz15_2 : w5.cell? ⟨gb157, 2, none⟩ = some (.string a0_2) := (blk_cell BK157.out 2).trans rfl
       have hcz15_3 : w5.cell? ⟨gb157, 3, none⟩ = some (.int .i64 a0_3) := (blk_cell BK157.out 3).trans rfl
       have hcz15_4 : w5.cell? ⟨gb157, 4, none⟩ = some (.int .i64 a0_4) := (blk_cell BK157.out 4).trans rfl
       have hcz15_5 : w5.cell? ⟨gb157, 5, none⟩ = some (.int .i64 a0_5) := (blk_cell BK157.out 5).trans rfl
       have hfz15_0 := blk_frozen BK157.out 0
       have hfz15_1 := blk_frozen BK157.out 1
       have hfz15_2 := blk_frozen BK157.out 2
       have hfz15_3 := blk_frozen BK157.out 3
       have hfz15_4 := blk_frozen BK157.out 4
       have hfz15_5 := blk_frozen BK157.out 5
       have hcz16_0 : w5.cell? ⟨gb158, 0, none⟩ = some (.slice A1_0 l1_0.length c1_0) := (blk_cell BK158.out 0).trans rfl
       have hcz16_1 : w5.cell? ⟨gb158, 1, none⟩ = some (.int .i64 a1_1) := (blk_cell BK158.out 1).trans rfl
       have hcz16_2 : w5.cell? ⟨gb158, 2, none⟩ = some (.string a1_2) := (blk_cell BK158.out 2).trans rfl
       have hcz16_3 : w5.cell? ⟨gb158, 3, none⟩ = some (.int .i64 a1_3) := (blk_cell BK158.out 3).trans rfl
       have hcz16_4 : w5.cell? ⟨gb158, 4, none⟩ = some (.int .i64 a1_4) := (blk_cell BK158.out 4).trans rfl
       have hcz16_5 : w5.cell? ⟨gb158, 5, none⟩ = some (.int .i64 a1_5) := (blk_cell BK158.out 5).trans rfl
       have hfz16_0 := blk_frozen BK158.out 0
       have hfz16_1 := blk_frozen BK158.out 1
       have hfz16_2 := blk_frozen BK158.out 2
       have hfz16_3 := blk_frozen BK158.out 3
       have hfz16_4 := blk_frozen BK158.out 4
       have hfz16_5 := blk_frozen BK158.out 5
       go_wp2
       go_meet
       case rel => exact ⟨_, (true), rs_, H', ⟨by first | omega | exact Nat.le_refl _⟩, ⟨bU_ BK157.out⟩, ⟨bU_ BK158.out⟩, ⟨by repeat (first | (with_reducible first | exact HB.out | apply below_alloc | apply pw_below_drewN | apply below_drew1 | refine below_set ?_ GE157.out | refine below_set ?_ GE158.out) | exact HB.out)⟩⟩
     ·rw [if_neg c9] at H
      have c9b0 : (a0_4 == a1_4) = false := beq_eq_false_iff_ne.mpr c9
      have c9b1 : (a0_4 != a1_4) = true := bne_iff_ne.mpr c9
      have H' := Aside0.mk H
      clear H
      have hnb17 := NB157_158.out
      have hnc17 := NB158_157.out
      have hcz18_0 : w5.cell? ⟨gb157, 0, none⟩ = some (.slice A0_0 l0_0.length c0_0) := (blk_cell BK157.out 0).trans rfl
      have hcz18_1 : w5.cell? ⟨gb157, 1, none⟩ = some (.int .i64 a0_1) := (blk_cell BK157.out 1).trans rfl
      have hcz18_2 : w5.cell? ⟨gb157, 2, none⟩ = some (.string a0_2) := (blk_cell BK157.out 2).trans rfl
      have hcz18_3 : w5.cell? ⟨gb157, 3, none⟩ = some (.int .i64 a0_3) := (blk_cell BK157.out 3).trans rfl
      have hcz18_4 : w5.cell? ⟨gb157, 4, none⟩ = some (.int .i64 a0_4) := (blk_cell BK157.out 4).trans rfl
      have hcz18_5 : w5.cell? ⟨gb157, 5, none⟩ = some (.int .i64 a0_5) := (blk_cell BK157.out 5).trans rfl
      have hfz18_0 := blk_frozen BK157.out 0
      have hfz18_1 := blk_frozen BK157.out 1
      have hfz18_2 := blk_frozen BK157.out 2
      have hfz18_3 := blk_frozen BK157.out 3
      have hfz18_4 := blk_frozen BK157.out 4
      have hfz18_5 := blk_frozen BK157.out 5
      have hcz19_0 : w5.cell? ⟨gb158, 0, none⟩ = some (.slice A1_0 l1_0.length c1_0) := (blk_cell BK158.out 0).trans rfl
      have hcz19_1 : w5.cell? ⟨gb158, 1, none⟩ = some (.int .i64 a1_1) := (blk_cell BK158.out 1).trans rfl
      have hcz19_2 : w5.cell? ⟨gb158, 2, none⟩ = some (.string a1_2) := (blk_cell BK158.out 2).trans rfl
      have hcz19_3 : w5.cell? ⟨gb158, 3, none⟩ = some (.int .i64 a1_3) := (blk_cell BK158.out 3).trans rfl
      have hcz19_4 : w5.cell? ⟨gb158, 4, none⟩ = some (.int .i64 a1_4) := (blk_cell BK158.out 4).trans rfl
      have hcz19_5 : w5.cell? ⟨gb158, 5, none⟩ = some (.int .i64 a1_5) := (blk_cell BK158.out 5).trans rfl
      have hfz19_0 := blk_frozen BK158.out 0
      have hfz19_1 := blk_frozen BK158.out 1
      have hfz19_2 := blk_frozen BK158.out 2
      have hfz19_3 := blk_frozen BK158.out 3
      have hfz19_4 := blk_frozen BK158.out 4
      have hfz19_5 := blk_frozen BK158.out 5
      go_wp2
      go_meet
      case rel => exact ⟨_, (true), rs_, H', ⟨by first | omega | exact Nat.le_refl _⟩, ⟨bU_ BK157.out⟩, ⟨bU_ BK158.out⟩, ⟨by repeat (first | (with_reducible first | exact HB.out | apply below_alloc | apply pw_below_drewN | apply below_drew1 | refine below_set ?_ GE157.out | refine below_set ?_ GE158.out) | exact HB.out)⟩⟩
    ·rw [if_neg c8] at H
     have c8b0 : (a0_3 == a1_3) = false := beq_eq_false_iff_ne.mpr c8
     have c8b1 : (a0_3 != a1_3) = true := bne_iff_ne.mpr c8
     have H' := Aside0.mk H
     clear H
     have hnb20 := NB157_158.out
     have hnc20 := NB158_157.out
     have hcz21_0 : w5.cell? ⟨gb157, 0, none⟩ = some (.slice A0_0 l0_0.length c0_0) := (blk_cell BK157.out 0).trans rfl
     have hcz21_1 : w5.cell? ⟨gb157, 1, none⟩ = some (.int .i64 a0_1) := (blk_cell BK157.out 1).trans rfl
     have hcz21_2 : w5.cell? ⟨gb157, 2, none⟩ = some (.string a0_2) := (blk_cell BK157.out 2).trans rfl
     have hcz21_3 : w5.cell? ⟨gb157, 3, none⟩ = some (.int .i64 a0_3) := (blk_cell BK157.out 3).trans rfl
     have hcz21_4 : w5.cell? ⟨gb157, 4, none⟩ = some (.int .i64 a0_4) := (blk_cell BK157.out 4).trans rfl
     have hcz21_5 : w5.cell? ⟨gb157, 5, none⟩ = some (.int .i64 a0_5) := (blk_cell BK157.out 5).trans rfl
     have hfz21_0 := blk_frozen BK157.out 0
     have hfz21_1 := blk_frozen BK157.out 1
     have hfz21_2 := blk_frozen BK157.out 2
     have hfz21_3 := blk_frozen BK157.out 3
     have hfz21_4 := blk_frozen BK157.out 4
     have hfz21_5 := blk_frozen BK157.out 5
     have hcz22_0 : w5.cell? ⟨gb158, 0, none⟩ = some (.slice A1_0 l1_0.length c1_0) := (blk_cell BK158.out 0).trans rfl
     have hcz22_1 : w5.cell? ⟨gb158, 1, none⟩ = some (.int .i64 a1_1) := (blk_cell BK158.out 1).trans rfl
     have hcz22_2 : w5.cell? ⟨gb158, 2, none⟩ = some (.string a1_2) := (blk_cell BK158.out 2).trans rfl
     have hcz22_3 : w5.cell? ⟨gb158, 3, none⟩ = some (.int .i64 a1_3) := (blk_cell BK158.out 3).trans rfl
     have hcz22_4 : w5.cell? ⟨gb158, 4, none⟩ = some (.int .i64 a1_4) := (blk_cell BK158.out 4).trans rfl
     have hcz22_5 : w5.cell? ⟨gb158, 5, none⟩ = some (.int .i64 a1_5) := (blk_cell BK158.out 5).trans rfl
     have hfz22_0 := blk_frozen BK158.out 0
     have hfz22_1 := blk_frozen BK158.out 1
     have hfz22_2 := blk_frozen BK158.out 2
     have hfz22_3 := blk_frozen BK158.out 3
     have hfz22_4 := blk_frozen BK158.out 4
     have hfz22_5 := blk_frozen BK158.out 5
     go_wp2
     go_meet
     case rel => exact ⟨_, (true), rs_, H', ⟨by first | omega | exact Nat.le_refl _⟩, ⟨bU_ BK157.out⟩, ⟨bU_ BK158.out⟩, ⟨by repeat (first | (with_reducible first | exact HB.out | apply below_alloc | apply pw_below_drewN | apply below_drew1 | refine below_set ?_ GE157.out | refine below_set ?_ GE158.out) | exact HB.out)⟩⟩
   ·rw [if_neg c7] at H
    have c7b0 : (a0_2.toList == a1_2.toList) = false := beq_eq_false_iff_ne.mpr c7
    have c7b1 : (a0_2.toList != a1_2.toList) = true := bne_iff_ne.mpr c7
    have H' := Aside0.mk H
    clear H
    have hnb23 := NB157_158.out
    have hnc23 := NB158_157.out
    have hcz24_0 : w5.cell? ⟨gb157, 0, none⟩ = some (.slice A0_0 l0_0.length c0_0) := (blk_cell BK157.out 0).trans rfl
    have hcz24_1 : w5.cell? ⟨gb157, 1, none⟩ = some (.int .i64 a0_1) := (blk_cell BK157.out 1).trans rfl
    have hcz24_2 : w5.cell? ⟨gb157, 2, none⟩ = some (.string a0_2) := (blk_cell BK157.out 2).trans rfl
    have hcz24_3 : w5.cell? ⟨gb157, 3, none⟩ = some (.int .i64 a0_3) := (blk_cell BK157.out 3).trans rfl
    have hcz24_4 : w5.cell? ⟨gb157, 4, none⟩ = some (.int .i64 a0_4) := (blk_cell BK157.out 4).trans rfl
    have hcz24_5 : w5.cell? ⟨gb157, 5, none⟩ = some (.int .i64 a0_5) := (blk_cell BK157.out 5).trans rfl
    have hfz24_0 := blk_frozen BK157.out 0
    have hfz24_1 := blk_frozen BK157.out 1
    have hfz24_2 := blk_frozen BK157.out 2
    have hfz24_3 := blk_frozen BK157.out 3
    have hfz24_4 := blk_frozen BK157.out 4
    have hfz24_5 := blk_frozen BK157.out 5
    have hcz25_0 : w5.cell? ⟨gb158, 0, none⟩ = some (.slice A1_0 l1_0.length c1_0) := (blk_cell BK158.out 0).trans rfl
    have hcz25_1 : w5.cell? ⟨gb158, 1, none⟩ = some (.int .i64 a1_1) := (blk_cell BK158.out 1).trans rfl
    have hcz25_2 : w5.cell? ⟨gb158, 2, none⟩ = some (.string a1_2) := (blk_cell BK158.out 2).trans rfl
    have hcz25_3 : w5.cell? ⟨gb158, 3, none⟩ = some (.int .i64 a1_3) := (blk_cell BK158.out 3).trans rfl
    have hcz25_4 : w5.cell? ⟨gb158, 4, none⟩ = some (.int .i64 a1_4) := (blk_cell BK158.out 4).trans rfl
    have hcz25_5 : w5.cell? ⟨gb158, 5, none⟩ = some (.int .i64 a1_5) := (blk_cell BK158.out 5).trans rfl
    have hfz25_0 := blk_frozen BK158.out 0
    have hfz25_1 := blk_frozen BK158.out 1
    have hfz25_2 := blk_frozen BK158.out 2
    have hfz25_3 := blk_frozen BK158.out 3
    have hfz25_4 := blk_frozen BK158.out 4
    have hfz25_5 := blk_frozen BK158.out 5
    go_wp2
    go_meet
    case rel => exact ⟨_, (true), rs_, H', ⟨by first | omega | exact Nat.le_refl _⟩, ⟨bU_ BK157.out⟩, ⟨bU_ BK158.out⟩, ⟨by repeat (first | (with_reducible first | exact HB.out | apply below_alloc | apply pw_below_drewN | apply below_drew1 | refine below_set ?_ GE157.out | refine below_set ?_ GE158.out) | exact HB.out)⟩⟩
  ·rw [if_neg c6] at H
   have c6b0 : (a0_1 == a1_1) = false := beq_eq_false_iff_ne.mpr c6
   have c6b1 : (a0_1 != a1_1) = true := bne_iff_ne.mpr c6
   (first | rw [c6b0] | (simp only [i64_w, i32_w]; rw [c6b0]) | skip)
   have H' := Aside0.mk H
   clear H
   have hnb26 := NB157_158.out
   have hnc26 := NB158_157.out
   have hcz27_0 : w5.cell? ⟨gb157, 0, none⟩ = some (.slice A0_0 l0_0.length c0_0) := (blk_cell BK157.out 0).trans rfl
   have hcz27_1 : w5.cell? ⟨gb157, 1, none⟩ = some (.int .i64 a0_1) := (blk_cell BK157.out 1).trans rfl
   have hcz27_2 : w5.cell? ⟨gb157, 2, none⟩ = some (.string a0_2) := (blk_cell BK157.out 2).trans rfl
   have hcz27_3 : w5.cell? ⟨gb157, 3, none⟩ = some (.int .i64 a0_3) := (blk_cell BK157.out 3).trans rfl
   have hcz27_4 : w5.cell? ⟨gb157, 4, none⟩ = some (.int .i64 a0_4) := (blk_cell BK157.out 4).trans rfl
   have hcz27_5 : w5.cell? ⟨gb157, 5, none⟩ = some (.int .i64 a0_5) := (blk_cell BK157.out 5).trans rfl
   have hfz27_0 := blk_frozen BK157.out 0
   have hfz27_1 := blk_frozen BK157.out 1
   have hfz27_2 := blk_frozen BK157.out 2
   have hfz27_3 := blk_frozen BK157.out 3
   have hfz27_4 := blk_frozen BK157.out 4
   have hfz27_5 := blk_frozen BK157.out 5
   have hcz28_0 : w5.cell? ⟨gb158, 0, none⟩ = some (.slice A1_0 l1_0.length c1_0) := (blk_cell BK158.out 0).trans rfl
   have hcz28_1 : w5.cell? ⟨gb158, 1, none⟩ = some (.int .i64 a1_1) := (blk_cell BK158.out 1).trans rfl
   have hcz28_2 : w5.cell? ⟨gb158, 2, none⟩ = some (.string a1_2) := (blk_cell BK158.out 2).trans rfl
   have hcz28_3 : w5.cell? ⟨gb158, 3, none⟩ = some (.int .i64 a1_3) := (blk_cell BK158.out 3).trans rfl
   have hcz28_4 : w5.cell? ⟨gb158, 4, none⟩ = some (.int .i64 a1_4) := (blk_cell BK158.out 4).trans rfl
   have hcz28_5 : w5.cell? ⟨gb158, 5, none⟩ = some (.int .i64 a1_5) := (blk_cell BK158.out 5).trans rfl
   have hfz28_0 := blk_frozen BK158.out 0
   have hfz28_1 := blk_frozen BK158.out 1
   have hfz28_2 := blk_frozen BK158.out 2
   have hfz28_3 := blk_frozen BK158.out 3
   have hfz28_4 := blk_frozen BK158.out 4
   have hfz28_5 := blk_frozen BK158.out 5
   go_wp2
   go_meet
   case rel => exact ⟨_, (true), rs_, H', ⟨by first | omega | exact Nat.le_refl _⟩, ⟨bU_ BK157.out⟩, ⟨bU_ BK158.out⟩, ⟨by repeat (first | (with_reducible first | exact HB.out | apply below_alloc | apply pw_below_drewN | apply below_drew1 | refine below_set ?_ GE157.out | refine below_set ?_ GE158.out) | exact HB.out)⟩⟩
 case rest =>
  clear HC3
  try clear c1
  try clear c2
  try clear p2
  try clear c6
  try clear c6b0
  try clear c6b1
  try clear c7
  try clear c7b0
  try clear c7b1
  try clear c8
  try clear c8b0
  try clear c8b1
  try clear c9
  try clear c9b0
  try clear c9b1
  try clear c10
  try clear c10b0
  try clear c10b1
  try clear c11
  try clear c14
  try clear c17
  try clear c20
  try clear c23
  try clear c26
  try clear hcz12_0
  try clear hcz12_1
  try clear hcz12_2
  try clear hcz12_3
  try clear hcz12_4
  try clear hcz12_5
  try clear hcz13_0
  try clear hcz13_1
  try clear hcz13_2
  try clear hcz13_3
  try clear hcz13_4
  try clear hcz13_5
  try clear hcz15_0
  try clear hcz15_1
  try clear hcz15_2
  try clear hcz15_3
  try clear hcz15_4
  try clear hcz15_5
  try clear hcz16_0
  try clear hcz16_1
  try clear hcz16_2
  try clear hcz16_3
  try clear hcz16_4
  try clear hcz16_5
  try clear hcz18_0
  try clear hcz18_1
  try clear hcz18_2
  try clear hcz18_3
  try clear hcz18_4
  try clear hcz18_5
  try clear hcz19_0
  try clear hcz19_1
  try clear hcz19_2
  try clear hcz19_3
  try clear hcz19_4
  try clear hcz19_5
  try clear hcz21_0
  try clear hcz21_1
  try clear hcz21_2
  try clear hcz21_3
  try clear hcz21_4
  try clear hcz21_5
  try clear hcz22_0
  try clear hcz22_1
  try clear hcz22_2
  try clear hcz22_3
  try clear hcz22_4
  try clear hcz22_5
  try clear hcz24_0
  try clear hcz24_1
  try clear hcz24_2
  try clear hcz24_3
  try clear hcz24_4
  try clear hcz24_5
  try clear hcz25_0
  try clear hcz25_1
  try clear hcz25_2
  try clear hcz25_3
  try clear hcz25_4
  try clear hcz25_5
  try clear hcz27_0
  try clear hcz27_1
  try clear hcz27_2
  try clear hcz27_3
  try clear hcz27_4
  try clear hcz27_5
  try clear hcz28_0
  try clear hcz28_1
  try clear hcz28_2
  try clear hcz28_3
  try clear hcz28_4
  try clear hcz28_5
  try clear hfz12_0
  try clear hfz12_1
  try clear hfz12_2
  try clear hfz12_3
  try clear hfz12_4
  try clear hfz12_5
  try clear hfz13_0
  try clear hfz13_1
  try clear hfz13_2
  try clear hfz13_3
  try clear hfz13_4
  try clear hfz13_5
  try clear hfz15_0
  try clear hfz15_1
  try clear hfz15_2
  try clear hfz15_3
  try clear hfz15_4
  try clear hfz15_5
  try clear hfz16_0
  try clear hfz16_1
  try clear hfz16_2
  try clear hfz16_3
  try clear hfz16_4
  try clear hfz16_5
  try clear hfz18_0
  try clear hfz18_1
  try clear hfz18_2
  try clear hfz18_3
  try clear hfz18_4
  try clear hfz18_5
  try clear hfz19_0
  try clear hfz19_1
  try clear hfz19_2
  try clear hfz19_3
  try clear hfz19_4
  try clear hfz19_5
  try clear hfz21_0
  try clear hfz21_1
  try clear hfz21_2
  try clear hfz21_3
  try clear hfz21_4
  try clear hfz21_5
  try clear hfz22_0
  try clear hfz22_1
  try clear hfz22_2
  try clear hfz22_3
  try clear hfz22_4
  try clear hfz22_5
  try clear hfz24_0
  try clear hfz24_1
  try clear hfz24_2
  try clear hfz24_3
  try clear hfz24_4
  try clear hfz24_5
  try clear hfz25_0
  try clear hfz25_1
  try clear hfz25_2
  try clear hfz25_3
  try clear hfz25_4
  try clear hfz25_5
  try clear hfz27_0
  try clear hfz27_1
  try clear hfz27_2
  try clear hfz27_3
  try clear hfz27_4
  try clear hfz27_5
  try clear hfz28_0
  try clear hfz28_1
  try clear hfz28_2
  try clear hfz28_3
  try clear hfz28_4
  try clear hfz28_5
  obtain ⟨kq, x47_2, rfl, HA, HJ2, BK157, BK158, HB⟩ := hcut
  cases kq with
  | zero => exact absurd HA.out (by simp [dragnetref19_Same.j0])
  | succ kj2 =>
   have H := HA.out
   clear HA
   simp only [dragnetref19_Same.j0] at H
   by_cases c29 : x47_2 = true
   ·subst c29
    have H1 : (some false) = some r := by rw [if_pos rfl] at H; exact H
    clear H
    have H := H1
    clear H1
    obtain rfl := Option.some.inj H
    go_wp2
    go_ret
    exact ⟨by first | rfl | (simp [errW_none, errW_some] <;> rfl) | (simp [*, errW_none, errW_some] <;> rfl), by repeat (first | (with_reducible first | exact HB.out | apply below_alloc | apply pw_below_drewN | apply below_drew1 | refine below_set ?_ GE157.out | refine below_set ?_ GE158.out) | exact HB.out)⟩
   ·replace c29 := Bool.eq_false_iff.mpr c29
    subst c29
    have H1 : (dragnetref19_Same.l0 kj2 0 l0_0 a0_1 a0_2 a0_3 a0_4 a0_5 l1_0 a1_1 a1_2 a1_3 a1_4 a1_5) = some r := by rw [if_neg (show ¬ (false = true) by decide)] at H; exact H
    clear H
    have H := H1
    clear H1
    have H' := Aside0.mk H
    clear H
    go_wp2
    go_loopg [5] kj2 (fun kq v5 w' => ∃ (x5_2 : Int), v5 = .int .i64 x5_2 ∧ Aside0 (dragnetref19_Same.l0 kq x5_2 l0_0 a0_1 a0_2 a0_3 a0_4 a0_5 l1_0 a1_1 a1_2 a1_3 a1_4 a1_5 = some r) ∧ Aside0 (kq ≤ kj2) ∧ Aside0 (w'.heap[gb157]? = some (.cells #[(.slice A0_0 l0_0.length c0_0), .int .i64 a0_1, .string a0_2, .int .i64 a0_3, .int .i64 a0_4, .int .i64 a0_5] 24 (0, 0))) ∧ Aside0 (w'.heap[gb158]? = some (.cells #[(.slice A1_0 l1_0.length c1_0), .int .i64 a1_1, .string a1_2, .int .i64 a1_3, .int .i64 a1_4, .int .i64 a1_5] 24 (0, 0))) ∧ Aside0 (Below w.heap.size w w'))
    case atStart => exact ⟨(0), rs_, H', ⟨Nat.le_refl _⟩, ⟨bU_ BK157.out⟩, ⟨bU_ BK158.out⟩, ⟨by repeat (first | (with_reducible first | exact HB.out | apply below_alloc | apply pw_below_drewN | apply below_drew1 | refine below_set ?_ GE157.out | refine below_set ?_ GE158.out) | exact HB.out)⟩⟩
    case round =>
     clear H'
     try clear c1
     try clear c2
     try clear p2
     try clear c6
     try clear c6b0
     try clear c6b1
     try clear c7
     try clear c7b0
     try clear c7b1
     try clear c8
     try clear c8b0
     try clear c8b1
     try clear c9
     try clear c9b0
     try clear c9b1
     try clear c10
     try clear c10b0
     try clear c10b1
     try clear c11
     try clear c14
     try clear c17
     try clear c20
     try clear c23
     try clear c26
     try clear c29
     try clear hcz12_0
     try clear hcz12_1
     try clear hcz12_2
     try clear hcz12_3
     try clear hcz12_4
     try clear hcz12_5
     try clear hcz13_0
     try clear hcz13_1
     try clear hcz13_2
     try clear hcz13_3
     try clear hcz13_4
     try clear hcz13_5
     try clear hcz15_0
     try clear hcz15_1
     try clear hcz15_2
     try clear hcz15_3
     try clear hcz15_4
     try clear hcz15_5
     try clear hcz16_0
     try clear hcz16_1
     try clear hcz16_2
     try clear hcz16_3
     try clear hcz16_4
     try clear hcz16_5
     try clear hcz18_0
     try clear hcz18_1
     try clear hcz18_2
     try clear hcz18_3
     try clear hcz18_4
     try clear hcz18_5
     try clear hcz19_0
     try clear hcz19_1
     try clear hcz19_2
     try clear hcz19_3
     try clear hcz19_4
     try clear hcz19_5
     try clear hcz21_0
     try clear hcz21_1
     try clear hcz21_2
     try clear hcz21_3
     try clear hcz21_4
     try clear hcz21_5
     try clear hcz22_0
     try clear hcz22_1
     try clear hcz22_2
     try clear hcz22_3
     try clear hcz22_4
     try clear hcz22_5
     try clear hcz24_0
     try clear hcz24_1
     try clear hcz24_2
     try clear hcz24_3
     try clear hcz24_4
     try clear hcz24_5
     try clear hcz25_0
     try clear hcz25_1
     try clear hcz25_2
     try clear hcz25_3
     try clear hcz25_4
     try clear hcz25_5
     try clear hcz27_0
     try clear hcz27_1
     try clear hcz27_2
     try clear hcz27_3
     try clear hcz27_4
     try clear hcz27_5
     try clear hcz28_0
     try clear hcz28_1
     try clear hcz28_2
     try clear hcz28_3
     try clear hcz28_4
     try clear hcz28_5
     try clear hfz12_0
     try clear hfz12_1
     try clear hfz12_2
     try clear hfz12_3
     try clear hfz12_4
     try clear hfz12_5
     try clear hfz13_0
     try clear hfz13_1
     try clear hfz13_2
     try clear hfz13_3
     try clear hfz13_4
     try clear hfz13_5
     try clear hfz15_0
     try clear hfz15_1
     try clear hfz15_2
     try clear hfz15_3
     try clear hfz15_4
     try clear hfz15_5
     try clear hfz16_0
     try clear hfz16_1
     try clear hfz16_2
     try clear hfz16_3
     try clear hfz16_4
     try clear hfz16_5
     try clear hfz18_0
     try clear hfz18_1
     try clear hfz18_2
     try clear hfz18_3
     try clear hfz18_4
     try clear hfz18_5
     try clear hfz19_0
     try clear hfz19_1
     try clear hfz19_2
     try clear hfz19_3
     try clear hfz19_4
     try clear hfz19_5
     try clear hfz21_0
     try clear hfz21_1
     try clear hfz21_2
     try clear hfz21_3
     try clear hfz21_4
     try clear hfz21_5
     try clear hfz22_0
     try clear hfz22_1
     try clear hfz22_2
     try clear hfz22_3
     try clear hfz22_4
     try clear hfz22_5
     try clear hfz24_0
     try clear hfz24_1
     try clear hfz24_2
     try clear hfz24_3
     try clear hfz24_4
     try clear hfz24_5
     try clear hfz25_0
     try clear hfz25_1
     try clear hfz25_2
     try clear hfz25_3
     try clear hfz25_4
     try clear hfz25_5
     try clear hfz27_0
     try clear hfz27_1
     try clear hfz27_2
     try clear hfz27_3
     try clear hfz27_4
     try clear hfz27_5
     try clear hfz28_0
     try clear hfz28_1
     try clear hfz28_2
     try clear hfz28_3
     try clear hfz28_4
     try clear hfz28_5
     try clear p2
     obtain ⟨x5_2, rfl, HA, HK2, BK157, BK158, HB⟩ := hrel
     cases gk with
     | zero => exact absurd HA.out (by simp [dragnetref19_Same.l0])
     | succ k2 =>
      have H := HA.out
      clear HA
      simp only [dragnetref19_Same.l0] at H
      by_cases c30 : x5_2 < (l0_0.length : Int)
      ·rw [if_pos c30] at H
       have c30b0 : decide (x5_2 < (l0_0.length : Int)) = true := decide_eq_true c30
       clear c30
       by_cases c31 : 0 ≤ x5_2
       ·rw [if_pos c31] at H
        have c31b0 : decide (0 ≤ x5_2) = true := decide_eq_true c31
        clear c31
        by_cases c32 : x5_2 < (l1_0.length : Int)
        ·rw [if_pos c32] at H
         have c32b0 : decide (x5_2 < (l1_0.length : Int)) = true := decide_eq_true c32
         clear c32
         replace H := Option.bind_eq_some_iff.mp H
         obtain ⟨t161, A330, H⟩ := H
         replace H : (if t161 = true then (dragnetref19_Same.l0 k2 (wrap64 (x5_2 + 1)) l0_0 a0_1 a0_2 a0_3 a0_4 a0_5 l1_0 a1_1 a1_2 a1_3 a1_4 a1_5) else (some false)) = some r := H
         have A33 := Aside0.mk A330
         clear A330
         by_cases c34 : t161 = true
         ·subst c34
          have H1 : (dragnetref19_Same.l0 k2 (wrap64 (x5_2 + 1)) l0_0 a0_1 a0_2 a0_3 a0_4 a0_5 l1_0 a1_1 a1_2 a1_3 a1_4 a1_5) = some r := by rw [if_pos rfl] at H; exact H
          clear H
          have H := H1
          clear H1
          have H' := Aside0.mk H
          clear H
          have hnb35 := NB157_158.out
          have hnc35 := NB158_157.out
          have hcz36_0 : wr.cell? ⟨gb157, 0, none⟩ = some (.slice A0_0 l0_0.length c0_0) := (blk_cell BK157.out 0).trans rfl
          have hcz36_1 : wr.cell? ⟨gb157, 1, none⟩ = some (.int .i64 a0_1) := (blk_cell BK157.out 1).trans rfl
          have hcz36_2 : wr.cell? ⟨gb157, 2, none⟩ = some (.string a0_2) := (blk_cell BK157.out 2).trans rfl
          have hcz36_3 : wr.cell? ⟨gb157, 3, none⟩ = some (.int .i64 a0_3) := (blk_cell BK157.out 3).trans rfl
          have hcz36_4 : wr.cell? ⟨gb157, 4, none⟩ = some (.int .i64 a0_4) := (blk_cell BK157.out 4).trans rfl
          have hcz36_5 : wr.cell? ⟨gb157, 5, none⟩ = some (.int .i64 a0_5) := (blk_cell BK157.out 5).trans rfl
          have hfz36_0 := blk_frozen BK157.out 0
          have hfz36_1 := blk_frozen BK157.out 1
          have hfz36_2 := blk_frozen BK157.out 2
          have hfz36_3 := blk_frozen BK157.out 3
          have hfz36_4 := blk_frozen BK157.out 4
          have hfz36_5 := blk_frozen BK157.out 5
          try go_wp2
          have n0_ := Aside0.mk (blk_drew BK157.out)
          have n1_ := Aside0.mk (blk_drew BK158.out)
          have n2_ := Aside0.mk (below_drew1 HB.out)
          clear BK157
          clear BK158
          clear HB
          have BK157 := n0_
          have BK158 := n1_
          have HB := n2_
          clear n0_ n1_ n2_
          have p159 : 0 ≤ (x5_2 : Int) := of_decide_eq_true as_
          have q159 : x5_2 < (l0_0.length : Int) := of_decide_eq_true as_
          obtain ⟨ad159, A159_4, c159_4, e159, hx159_0, hx159_1, hx159_2, hx159_3, hx159_4, hx159_5, hx159_6, hx159_7, hl159_4, hi159_4⟩ := at_T37 HR0_0.out x5_2 p159 q159
          have hw159_7 := hx159_7
          have hw159_6 := hx159_6
          have hw159_5 := hx159_5
          have hw159_4 := hx159_4
          have hw159_3 := hx159_3
          have hw159_2 := hx159_2
          have hw159_1 := hx159_1
          have hw159_0 := hx159_0
          cases e159
          replace hx159_0 := (HB.out.cell (World.block_lt_of_cell? w _ hx159_0)).trans hx159_0
          replace hx159_1 := (HB.out.cell (World.block_lt_of_cell? w _ hx159_1)).trans hx159_1
          replace hx159_2 := (HB.out.cell (World.block_lt_of_cell? w _ hx159_2)).trans hx159_2
          replace hx159_3 := (HB.out.cell (World.block_lt_of_cell? w _ hx159_3)).trans hx159_3
          replace hx159_4 := (HB.out.cell (World.block_lt_of_cell? w _ hx159_4)).trans hx159_4
          replace hx159_5 := (HB.out.cell (World.block_lt_of_cell? w _ hx159_5)).trans hx159_5
          replace hx159_6 := (HB.out.cell (World.block_lt_of_cell? w _ hx159_6)).trans hx159_6
          replace hx159_7 := (HB.out.cell (World.block_lt_of_cell? w _ hx159_7)).trans hx159_7
          have HR159_4 := Aside0.mk hi159_4
          have HC159_4 := Aside0.mk hl159_4
          clear hi159_4 hl159_4
          replace p159 := eq_true p159
          replace q159 := eq_true q159
          have p160 : 0 ≤ (x5_2 : Int) := of_decide_eq_true as_
          have q160 : x5_2 < (l1_0.length : Int) := of_decide_eq_true as_
          obtain ⟨ad160, A160_4, c160_4, e160, hx160_0, hx160_1, hx160_2, hx160_3, hx160_4, hx160_5, hx160_6, hx160_7, hl160_4, hi160_4⟩ := at_T37 HR1_0.out x5_2 p160 q160
          have hw160_7 := hx160_7
          have hw160_6 := hx160_6
          have hw160_5 := hx160_5
          have hw160_4 := hx160_4
          have hw160_3 := hx160_3
          have hw160_2 := hx160_2
          have hw160_1 := hx160_1
          have hw160_0 := hx160_0
          cases e160
          replace hx160_0 := (HB.out.cell (World.block_lt_of_cell? w _ hx160_0)).trans hx160_0
          replace hx160_1 := (HB.out.cell (World.block_lt_of_cell? w _ hx160_1)).trans hx160_1
          replace hx160_2 := (HB.out.cell (World.block_lt_of_cell? w _ hx160_2)).trans hx160_2
          replace hx160_3 := (HB.out.cell (World.block_lt_of_cell? w _ hx160_3)).trans hx160_3
          replace hx160_4 := (HB.out.cell (World.block_lt_of_cell? w _ hx160_4)).trans hx160_4
          replace hx160_5 := (HB.out.cell (World.block_lt_of_cell? w _ hx160_5)).trans hx160_5
          replace hx160_6 := (HB.out.cell (World.block_lt_of_cell? w _ hx160_6)).trans hx160_6
          replace hx160_7 := (HB.out.cell (World.block_lt_of_cell? w _ hx160_7)).trans hx160_7
          have HR160_4 := Aside0.mk hi160_4
          have HC160_4 := Aside0.mk hl160_4
          clear hi160_4 hl160_4
          replace p160 := eq_true p160
          replace q160 := eq_true q160
          refine start_ (n := 12) (S := fun w' => w'.cell? ⟨gb157, 0, none⟩ = some (.slice (some ad159) l0_0.length c0_0) ∧ w'.cell? ⟨gb157, 1, none⟩ = some (.int .i64 a0_1) ∧ w'.cell? ⟨gb157, 2, none⟩ = some (.string a0_2) ∧ w'.cell? ⟨gb157, 3, none⟩ = some (.int .i64 a0_3) ∧ w'.cell? ⟨gb157, 4, none⟩ = some (.int .i64 a0_4) ∧ w'.cell? ⟨gb157, 5, none⟩ = some (.int .i64 a0_5) ∧ w'.cell? ⟨gb158, 0, none⟩ = some (.slice (some ad160) l1_0.length c1_0) ∧ w'.cell? ⟨gb158, 1, none⟩ = some (.int .i64 a1_1) ∧ w'.cell? ⟨gb158, 2, none⟩ = some (.string a1_2) ∧ w'.cell? ⟨gb158, 3, none⟩ = some (.int .i64 a1_3) ∧ w'.cell? ⟨gb158, 4, none⟩ = some (.int .i64 a1_4) ∧ w'.cell? ⟨gb158, 5, none⟩ = some (.int .i64 a1_5) ∧ w'.cell? (ad159.add ((x5_2).toNat * 8)) = some (.int .i64 ((rd_T37 l0_0 x5_2).f0)) ∧ w'.cell? ⟨(ad159.add ((x5_2).toNat * 8)).block, (ad159.add ((x5_2).toNat * 8)).off + 1, none⟩ = some (.int .i64 ((rd_T37 l0_0 x5_2).f1)) ∧ w'.cell? ⟨(ad159.add ((x5_2).toNat * 8)).block, (ad159.add ((x5_2).toNat * 8)).off + 2, none⟩ = some (.int .i64 ((rd_T37 l0_0 x5_2).f2)) ∧ w'.cell? ⟨(ad159.add ((x5_2).toNat * 8)).block, (ad159.add ((x5_2).toNat * 8)).off + 3, none⟩ = some (.string ((rd_T37 l0_0 x5_2).f3)) ∧ w'.cell? ⟨(ad159.add ((x5_2).toNat * 8)).block, (ad159.add ((x5_2).toNat * 8)).off + 4, none⟩ = some (.slice A159_4 ((rd_T37 l0_0 x5_2).f4).length c159_4) ∧ w'.cell? ⟨(ad159.add ((x5_2).toNat * 8)).block, (ad159.add ((x5_2).toNat * 8)).off + 5, none⟩ = some (.string ((rd_T37 l0_0 x5_2).f5)) ∧ w'.cell? ⟨(ad159.add ((x5_2).toNat * 8)).block, (ad159.add ((x5_2).toNat * 8)).off + 6, none⟩ = some (.int .i64 ((rd_T37 l0_0 x5_2).f6)) ∧ w'.cell? ⟨(ad159.add ((x5_2).toNat * 8)).block, (ad159.add ((x5_2).toNat * 8)).off + 7, none⟩ = some (.int .i64 ((rd_T37 l0_0 x5_2).f7)) ∧ w'.cell? (ad160.add ((x5_2).toNat * 8)) = some (.int .i64 ((rd_T37 l1_0 x5_2).f0)) ∧ w'.cell? ⟨(ad160.add ((x5_2).toNat * 8)).block, (ad160.add ((x5_2).toNat * 8)).off + 1, none⟩ = some (.int .i64 ((rd_T37 l1_0 x5_2).f1)) ∧ w'.cell? ⟨(ad160.add ((x5_2).toNat * 8)).block, (ad160.add ((x5_2).toNat * 8)).off + 2, none⟩ = some (.int .i64 ((rd_T37 l1_0 x5_2).f2)) ∧ w'.cell? ⟨(ad160.add ((x5_2).toNat * 8)).block, (ad160.add ((x5_2).toNat * 8)).off + 3, none⟩ = some (.string ((rd_T37 l1_0 x5_2).f3)) ∧ w'.cell? ⟨(ad160.add ((x5_2).toNat * 8)).block, (ad160.add ((x5_2).toNat * 8)).off + 4, none⟩ = some (.slice A160_4 ((rd_T37 l1_0 x5_2).f4).length c160_4) ∧ w'.cell? ⟨(ad160.add ((x5_2).toNat * 8)).block, (ad160.add ((x5_2).toNat * 8)).off + 5, none⟩ = some (.string ((rd_T37 l1_0 x5_2).f5)) ∧ w'.cell? ⟨(ad160.add ((x5_2).toNat * 8)).block, (ad160.add ((x5_2).toNat * 8)).off + 6, none⟩ = some (.int .i64 ((rd_T37 l1_0 x5_2).f6)) ∧ w'.cell? ⟨(ad160.add ((x5_2).toNat * 8)).block, (ad160.add ((x5_2).toNat * 8)).off + 7, none⟩ = some (.int .i64 ((rd_T37 l1_0 x5_2).f7))) (ds := []) #[false, false, false, false, false, false, false, false, false, false, false, false] (by kernel_rfl) rfl rfl ⟨(blk_cell BK157.out 0).trans rfl, (blk_cell BK157.out 1).trans rfl, (blk_cell BK157.out 2).trans rfl, (blk_cell BK157.out 3).trans rfl, (blk_cell BK157.out 4).trans rfl, (blk_cell BK157.out 5).trans rfl, (blk_cell BK158.out 0).trans rfl, (blk_cell BK158.out 1).trans rfl, (blk_cell BK158.out 2).trans rfl, (blk_cell BK158.out 3).trans rfl, (blk_cell BK158.out 4).trans rfl, (blk_cell BK158.out 5).trans rfl, ((HB.out.cell (World.block_lt_of_cell? w _ hw159_0)).trans hw159_0), ((HB.out.cell (World.block_lt_of_cell? w _ hw159_1)).trans hw159_1), ((HB.out.cell (World.block_lt_of_cell? w _ hw159_2)).trans hw159_2), ((HB.out.cell (World.block_lt_of_cell? w _ hw159_3)).trans hw159_3), ((HB.out.cell (World.block_lt_of_cell? w _ hw159_4)).trans hw159_4), ((HB.out.cell (World.block_lt_of_cell? w _ hw159_5)).trans hw159_5), ((HB.out.cell (World.block_lt_of_cell? w _ hw159_6)).trans hw159_6), ((HB.out.cell (World.block_lt_of_cell? w _ hw159_7)).trans hw159_7), ((HB.out.cell (World.block_lt_of_cell? w _ hw160_0)).trans hw160_0), ((HB.out.cell (World.block_lt_of_cell? w _ hw160_1)).trans hw160_1), ((HB.out.cell (World.block_lt_of_cell? w _ hw160_2)).trans hw160_2), ((HB.out.cell (World.block_lt_of_cell? w _ hw160_3)).trans hw160_3), ((HB.out.cell (World.block_lt_of_cell? w _ hw160_4)).trans hw160_4), ((HB.out.cell (World.block_lt_of_cell? w _ hw160_5)).trans hw160_5), ((HB.out.cell (World.block_lt_of_cell? w _ hw160_6)).trans hw160_6), ((HB.out.cell (World.block_lt_of_cell? w _ hw160_7)).trans hw160_7)⟩ (fun hHeld => ?_); refine with_tabW dragnetref19_Same.tab6 dragnetref19_Same.bits6 (fun HT_ HW_ => ?_)
          generalize wr.drew = w37 at BK157 BK158 HB HR159_4 HR160_4 hx159_0 hx159_1 hx159_2 hx159_3 hx159_4 hx159_5 hx159_6 hx159_7 hx160_0 hx160_1 hx160_2 hx160_3 hx160_4 hx160_5 hx160_6 hx160_7 hHeld ⊢
          refine pS 0 (some 55) HT_ ?_
          refine pS 2 (some 57) HT_ ?_
          refine pS 5 (some 60) HT_ ?_
          refine pS 7 (some 62) HT_ ?_
          refine tS 1 (some 56) HT_ HW_ hHeld ?_
          refine pS 3 (some 58) HT_ ?_
          refine tS 4 (some 59) HT_ HW_ hHeld ?_
          refine tS 6 (some 61) HT_ HW_ hHeld ?_
          refine pS 8 (some 63) HT_ ?_
          refine tS 9 (some 64) HT_ HW_ hHeld ?_
          refine one_ (i := 10) (N := some 65) #[true, true, true, true, true, true, true, true, true, true, true, false] rfl rfl (one_of HT_.out (by kernel_rfl)) (by decide) (fun K hK => ?_)
          refine goes_ Tryz.func48 (by kernel_rfl) rfl #[.agg #[.int .i64 ((rd_T37 l0_0 x5_2).f0), .int .i64 ((rd_T37 l0_0 x5_2).f1), .int .i64 ((rd_T37 l0_0 x5_2).f2), .string ((rd_T37 l0_0 x5_2).f3), .slice A159_4 ((rd_T37 l0_0 x5_2).f4).length c159_4, .string ((rd_T37 l0_0 x5_2).f5), .int .i64 ((rd_T37 l0_0 x5_2).f6), .int .i64 ((rd_T37 l0_0 x5_2).f7)], .agg #[.int .i64 ((rd_T37 l1_0 x5_2).f0), .int .i64 ((rd_T37 l1_0 x5_2).f1), .int .i64 ((rd_T37 l1_0 x5_2).f2), .string ((rd_T37 l1_0 x5_2).f3), .slice A160_4 ((rd_T37 l1_0 x5_2).f4).length c160_4, .string ((rd_T37 l1_0 x5_2).f5), .int .i64 ((rd_T37 l1_0 x5_2).f6), .int .i64 ((rd_T37 l1_0 x5_2).f7)]] (by rfl) rfl rfl mp_ ?_
          with_reducible refine (dragnetref19_SameNode.calls k2 ((rd_T37 l0_0 x5_2).f0) ((rd_T37 l0_0 x5_2).f1) ((rd_T37 l0_0 x5_2).f2) ((rd_T37 l0_0 x5_2).f3) _ _ ((rd_T37 l0_0 x5_2).f4) ((rd_T37 l0_0 x5_2).f5) ((rd_T37 l0_0 x5_2).f6) ((rd_T37 l0_0 x5_2).f7) ((rd_T37 l1_0 x5_2).f0) ((rd_T37 l1_0 x5_2).f1) ((rd_T37 l1_0 x5_2).f2) ((rd_T37 l1_0 x5_2).f3) _ _ ((rd_T37 l1_0 x5_2).f4) ((rd_T37 l1_0 x5_2).f5) ((rd_T37 l1_0 x5_2).f6) ((rd_T37 l1_0 x5_2).f7) true _ ?side1 ?side2 ?side3 ?side4 A33.out).mono ?_
          (case side1 => repeat (first | exact (Kd.C_below HR159_4.out HB.out) | (with_reducible refine Kd.C_alloc ?_ _) | (with_reducible refine Kd.C_drewN ?_ _) | (with_reducible refine Kd.C_drew ?_)))
          (case side2 => exact HC159_4.out)
          (case side3 => repeat (first | exact (Kd.C_below HR160_4.out HB.out) | (with_reducible refine Kd.C_alloc ?_ _) | (with_reducible refine Kd.C_drewN ?_ _) | (with_reducible refine Kd.C_drew ?_)))
          (case side4 => exact HC160_4.out)
          rintro e w38 ⟨rfl, hb⟩
          refine ⟨_, rfl, ?_⟩
          have n0_ := bkA BK157 hb
          have n1_ := bkA BK158 hb
          have n2_ := bsA HB hb
          clear BK157
          clear BK158
          clear HB
          have BK157 := n0_
          have BK158 := n1_
          have HB := n2_
          clear n0_ n1_ n2_
          (try clear hb)
          (try clear hb2)
          (try clear hk)
          (try clear hi)
          refine hK.out _ _ ⟨(blk_cell BK157.out 0).trans rfl, (blk_cell BK157.out 1).trans rfl, (blk_cell BK157.out 2).trans rfl, (blk_cell BK157.out 3).trans rfl, (blk_cell BK157.out 4).trans rfl, (blk_cell BK157.out 5).trans rfl, (blk_cell BK158.out 0).trans rfl, (blk_cell BK158.out 1).trans rfl, (blk_cell BK158.out 2).trans rfl, (blk_cell BK158.out 3).trans rfl, (blk_cell BK158.out 4).trans rfl, (blk_cell BK158.out 5).trans rfl, ((HB.out.cell (World.block_lt_of_cell? w _ hw159_0)).trans hw159_0), ((HB.out.cell (World.block_lt_of_cell? w _ hw159_1)).trans hw159_1), ((HB.out.cell (World.block_lt_of_cell? w _ hw159_2)).trans hw159_2), ((HB.out.cell (World.block_lt_of_cell? w _ hw159_3)).trans hw159_3), ((HB.out.cell (World.block_lt_of_cell? w _ hw159_4)).trans hw159_4), ((HB.out.cell (World.block_lt_of_cell? w _ hw159_5)).trans hw159_5), ((HB.out.cell (World.block_lt_of_cell? w _ hw159_6)).trans hw159_6), ((HB.out.cell (World.block_lt_of_cell? w _ hw159_7)).trans hw159_7), ((HB.out.cell (World.block_lt_of_cell? w _ hw160_0)).trans hw160_0), ((HB.out.cell (World.block_lt_of_cell? w _ hw160_1)).trans hw160_1), ((HB.out.cell (World.block_lt_of_cell? w _ hw160_2)).trans hw160_2), ((HB.out.cell (World.block_lt_of_cell? w _ hw160_3)).trans hw160_3), ((HB.out.cell (World.block_lt_of_cell? w _ hw160_4)).trans hw160_4), ((HB.out.cell (World.block_lt_of_cell? w _ hw160_5)).trans hw160_5), ((HB.out.cell (World.block_lt_of_cell? w _ hw160_6)).trans hw160_6), ((HB.out.cell (World.block_lt_of_cell? w _ hw160_7)).trans hw160_7)⟩ (fun hHeld => ?_)
          clear hK K
          refine norm_ (a' := ?_) ?_ ?_
          rotate_left
          ·show Act.put _ (some 65) _ = _
           simp only [Act.put, List.setIfInBounds_toArray, List.set_cons_zero, List.set_cons_succ, i64_w, i32_w]
           rfl
          refine pS 11 (some 66) HT_ ?_
          refine done_ (done_of HT_.out (by kernel_rfl)) ?_
          try go_wp2
          go_roundg k2
          case measure => have := HJ2.out; have := HK2.out; omega
          case rel => exact ⟨(wrap64 (x5_2 + 1)), rs_, H', ⟨by have := HJ2.out; have := HK2.out; omega⟩, ⟨bU_ BK157.out⟩, ⟨bU_ BK158.out⟩, ⟨by repeat (first | (with_reducible first | exact HB.out | apply below_alloc | apply pw_below_drewN | apply below_drew1 | refine below_set ?_ GE157.out | refine below_set ?_ GE158.out) | exact HB.out)⟩⟩
         ·replace c34 := Bool.eq_false_iff.mpr c34
          subst c34
          have H1 : (some false) = some r := by rw [if_neg (show ¬ (false = true) by decide)] at H; exact H
          clear H
          have H := H1
          clear H1
          obtain rfl := Option.some.inj H
          have hnb39 := NB157_158.out
          have hnc39 := NB158_157.out
          have hcz40_0 : wr.cell? ⟨gb157, 0, none⟩ = some (.slice A0_0 l0_0.length c0_0) := (blk_cell BK157.out 0).trans rfl
          have hcz40_1 : wr.cell? ⟨gb157, 1, none⟩ = some (.int .i64 a0_1) := (blk_cell BK157.out 1).trans rfl
          have hcz40_2 : wr.cell? ⟨gb157, 2, none⟩ = some (.string a0_2) := (blk_cell BK157.out 2).trans rfl
          have hcz40_3 : wr.cell? ⟨gb157, 3, none⟩ = some (.int .i64 a0_3) := (blk_cell BK157.out 3).trans rfl
          have hcz40_4 : wr.cell? ⟨gb157, 4, none⟩ = some (.int .i64 a0_4) := (blk_cell BK157.out 4).trans rfl
          have hcz40_5 : wr.cell? ⟨gb157, 5, none⟩ = some (.int .i64 a0_5) := (blk_cell BK157.out 5).trans rfl
          have hfz40_0 := blk_frozen BK157.out 0
          have hfz40_1 := blk_frozen BK157.out 1
          have hfz40_2 := blk_frozen BK157.out 2
          have hfz40_3 := blk_frozen BK157.out 3
          have hfz40_4 := blk_frozen BK157.out 4
          have hfz40_5 := blk_frozen BK157.out 5
          try go_wp2
          have n0_ := Aside0.mk (blk_drew BK157.out)
          have n1_ := Aside0.mk (blk_drew BK158.out)
          have n2_ := Aside0.mk (below_drew1 HB.out)
          clear BK157
          clear BK158
          clear HB
          have BK157 := n0_
          have BK158 := n1_
          have HB := n2_
          clear n0_ n1_ n2_
          have p159 : 0 ≤ (x5_2 : Int) := of_decide_eq_true as_
          have q159 : x5_2 < (l0_0.length : Int) := of_decide_eq_true as_
          obtain ⟨ad159, A159_4, c159_4, e159, hx159_0, hx159_1, hx159_2, hx159_3, hx159_4, hx159_5, hx159_6, hx159_7, hl159_4, hi159_4⟩ := at_T37 HR0_0.out x5_2 p159 q159
          have hw159_7 := hx159_7
          have hw159_6 := hx159_6
          have hw159_5 := hx159_5
          have hw159_4 := hx159_4
          have hw159_3 := hx159_3
          have hw159_2 := hx159_2
          have hw159_1 := hx159_1
          have hw159_0 := hx159_0
          cases e159
          replace hx159_0 := (HB.out.cell (World.block_lt_of_cell? w _ hx159_0)).trans hx159_0
          replace hx159_1 := (HB.out.cell (World.block_lt_of_cell? w _ hx159_1)).trans hx159_1
          replace hx159_2 := (HB.out.cell (World.block_lt_of_cell? w _ hx159_2)).trans hx159_2
          replace hx159_3 := (HB.out.cell (World.block_lt_of_cell? w _ hx159_3)).trans hx159_3
          replace hx159_4 := (HB.out.cell (World.block_lt_of_cell? w _ hx159_4)).trans hx159_4
          replace hx159_5 := (HB.out.cell (World.block_lt_of_cell? w _ hx159_5)).trans hx159_5
          replace hx159_6 := (HB.out.cell (World.block_lt_of_cell? w _ hx159_6)).trans hx159_6
          replace hx159_7 := (HB.out.cell (World.block_lt_of_cell? w _ hx159_7)).trans hx159_7
          have HR159_4 := Aside0.mk hi159_4
          have HC159_4 := Aside0.mk hl159_4
          clear hi159_4 hl159_4
          replace p159 := eq_true p159
          replace q159 := eq_true q159
          have p160 : 0 ≤ (x5_2 : Int) := of_decide_eq_true as_
          have q160 : x5_2 < (l1_0.length : Int) := of_decide_eq_true as_
          obtain ⟨ad160, A160_4, c160_4, e160, hx160_0, hx160_1, hx160_2, hx160_3, hx160_4, hx160_5, hx160_6, hx160_7, hl160_4, hi160_4⟩ := at_T37 HR1_0.out x5_2 p160 q160
          have hw160_7 := hx160_7
          have hw160_6 := hx160_6
          have hw160_5 := hx160_5
          have hw160_4 := hx160_4
          have hw160_3 := hx160_3
          have hw160_2 := hx160_2
          have hw160_1 := hx160_1
          have hw160_0 := hx160_0
          cases e160
          replace hx160_0 := (HB.out.cell (World.block_lt_of_cell? w _ hx160_0)).trans hx160_0
          replace hx160_1 := (HB.out.cell (World.block_lt_of_cell? w _ hx160_1)).trans hx160_1
          replace hx160_2 := (HB.out.cell (World.block_lt_of_cell? w _ hx160_2)).trans hx160_2
          replace hx160_3 := (HB.out.cell (World.block_lt_of_cell? w _ hx160_3)).trans hx160_3
          replace hx160_4 := (HB.out.cell (World.block_lt_of_cell? w _ hx160_4)).trans hx160_4
          replace hx160_5 := (HB.out.cell (World.block_lt_of_cell? w _ hx160_5)).trans hx160_5
          replace hx160_6 := (HB.out.cell (World.block_lt_of_cell? w _ hx160_6)).trans hx160_6
          replace hx160_7 := (HB.out.cell (World.block_lt_of_cell? w _ hx160_7)).trans hx160_7
          have HR160_4 := Aside0.mk hi160_4
          have HC160_4 := Aside0.mk hl160_4
          clear hi160_4 hl160_4
          replace p160 := eq_true p160
          replace q160 := eq_true q160
          refine start_ (n := 12) (S := fun w' => w'.cell? ⟨gb157, 0, none⟩ = some (.slice (some ad159) l0_0.length c0_0) ∧ w'.cell? ⟨gb157, 1, none⟩ = some (.int .i64 a0_1) ∧ w'.cell? ⟨gb157, 2, none⟩ = some (.string a0_2) ∧ w'.cell? ⟨gb157, 3, none⟩ = some (.int .i64 a0_3) ∧ w'.cell? ⟨gb157, 4, none⟩ = some (.int .i64 a0_4) ∧ w'.cell? ⟨gb157, 5, none⟩ = some (.int .i64 a0_5) ∧ w'.cell? ⟨gb158, 0, none⟩ = some (.slice (some ad160) l1_0.length c1_0) ∧ w'.cell? ⟨gb158, 1, none⟩ = some (.int .i64 a1_1) ∧ w'.cell? ⟨gb158, 2, none⟩ = some (.string a1_2) ∧ w'.cell? ⟨gb158, 3, none⟩ = some (.int .i64 a1_3) ∧ w'.cell? ⟨gb158, 4, none⟩ = some (.int .i64 a1_4) ∧ w'.cell? ⟨gb158, 5, none⟩ = some (.int .i64 a1_5) ∧ w'.cell? (ad159.add ((x5_2).toNat * 8)) = some (.int .i64 ((rd_T37 l0_0 x5_2).f0)) ∧ w'.cell? ⟨(ad159.add ((x5_2).toNat * 8)).block, (ad159.add ((x5_2).toNat * 8)).off + 1, none⟩ = some (.int .i64 ((rd_T37 l0_0 x5_2).f1)) ∧ w'.cell? ⟨(ad159.add ((x5_2).toNat * 8)).block, (ad159.add ((x5_2).toNat * 8)).off + 2, none⟩ = some (.int .i64 ((rd_T37 l0_0 x5_2).f2)) ∧ w'.cell? ⟨(ad159.add ((x5_2).toNat * 8)).block, (ad159.add ((x5_2).toNat * 8)).off + 3, none⟩ = some (.string ((rd_T37 l0_0 x5_2).f3)) ∧ w'.cell? ⟨(ad159.add ((x5_2).toNat * 8)).block, (ad159.add ((x5_2).toNat * 8)).off + 4, none⟩ = some (.slice A159_4 ((rd_T37 l0_0 x5_2).f4).length c159_4) ∧ w'.cell? ⟨(ad159.add ((x5_2).toNat * 8)).block, (ad159.add ((x5_2).toNat * 8)).off + 5, none⟩ = some (.string ((rd_T37 l0_0 x5_2).f5)) ∧ w'.cell? ⟨(ad159.add ((x5_2).toNat * 8)).block, (ad159.add ((x5_2).toNat * 8)).off + 6, none⟩ = some (.int .i64 ((rd_T37 l0_0 x5_2).f6)) ∧ w'.cell? ⟨(ad159.add ((x5_2).toNat * 8)).block, (ad159.add ((x5_2).toNat * 8)).off + 7, none⟩ = some (.int .i64 ((rd_T37 l0_0 x5_2).f7)) ∧ w'.cell? (ad160.add ((x5_2).toNat * 8)) = some (.int .i64 ((rd_T37 l1_0 x5_2).f0)) ∧ w'.cell? ⟨(ad160.add ((x5_2).toNat * 8)).block, (ad160.add ((x5_2).toNat * 8)).off + 1, none⟩ = some (.int .i64 ((rd_T37 l1_0 x5_2).f1)) ∧ w'.cell? ⟨(ad160.add ((x5_2).toNat * 8)).block, (ad160.add ((x5_2).toNat * 8)).off + 2, none⟩ = some (.int .i64 ((rd_T37 l1_0 x5_2).f2)) ∧ w'.cell? ⟨(ad160.add ((x5_2).toNat * 8)).block, (ad160.add ((x5_2).toNat * 8)).off + 3, none⟩ = some (.string ((rd_T37 l1_0 x5_2).f3)) ∧ w'.cell? ⟨(ad160.add ((x5_2).toNat * 8)).block, (ad160.add ((x5_2).toNat * 8)).off + 4, none⟩ = some (.slice A160_4 ((rd_T37 l1_0 x5_2).f4).length c160_4) ∧ w'.cell? ⟨(ad160.add ((x5_2).toNat * 8)).block, (ad160.add ((x5_2).toNat * 8)).off + 5, none⟩ = some (.string ((rd_T37 l1_0 x5_2).f5)) ∧ w'.cell? ⟨(ad160.add ((x5_2).toNat * 8)).block, (ad160.add ((x5_2).toNat * 8)).off + 6, none⟩ = some (.int .i64 ((rd_T37 l1_0 x5_2).f6)) ∧ w'.cell? ⟨(ad160.add ((x5_2).toNat * 8)).block, (ad160.add ((x5_2).toNat * 8)).off + 7, none⟩ = some (.int .i64 ((rd_T37 l1_0 x5_2).f7))) (ds := []) #[false, false, false, false, false, false, false, false, false, false, false, false] (by kernel_rfl) rfl rfl ⟨(blk_cell BK157.out 0).trans rfl, (blk_cell BK157.out 1).trans rfl, (blk_cell BK157.out 2).trans rfl, (blk_cell BK157.out 3).trans rfl, (blk_cell BK157.out 4).trans rfl, (blk_cell BK157.out 5).trans rfl, (blk_cell BK158.out 0).trans rfl, (blk_cell BK158.out 1).trans rfl, (blk_cell BK158.out 2).trans rfl, (blk_cell BK158.out 3).trans rfl, (blk_cell BK158.out 4).trans rfl, (blk_cell BK158.out 5).trans rfl, ((HB.out.cell (World.block_lt_of_cell? w _ hw159_0)).trans hw159_0), ((HB.out.cell (World.block_lt_of_cell? w _ hw159_1)).trans hw159_1), ((HB.out.cell (World.block_lt_of_cell? w _ hw159_2)).trans hw159_2), ((HB.out.cell (World.block_lt_of_cell? w _ hw159_3)).trans hw159_3), ((HB.out.cell (World.block_lt_of_cell? w _ hw159_4)).trans hw159_4), ((HB.out.cell (World.block_lt_of_cell? w _ hw159_5)).trans hw159_5), ((HB.out.cell (World.block_lt_of_cell? w _ hw159_6)).trans hw159_6), ((HB.out.cell (World.block_lt_of_cell? w _ hw159_7)).trans hw159_7), ((HB.out.cell (World.block_lt_of_cell? w _ hw160_0)).trans hw160_0), ((HB.out.cell (World.block_lt_of_cell? w _ hw160_1)).trans hw160_1), ((HB.out.cell (World.block_lt_of_cell? w _ hw160_2)).trans hw160_2), ((HB.out.cell (World.block_lt_of_cell? w _ hw160_3)).trans hw160_3), ((HB.out.cell (World.block_lt_of_cell? w _ hw160_4)).trans hw160_4), ((HB.out.cell (World.block_lt_of_cell? w _ hw160_5)).trans hw160_5), ((HB.out.cell (World.block_lt_of_cell? w _ hw160_6)).trans hw160_6), ((HB.out.cell (World.block_lt_of_cell? w _ hw160_7)).trans hw160_7)⟩ (fun hHeld => ?_); refine with_tabW dragnetref19_Same.tab6 dragnetref19_Same.bits6 (fun HT_ HW_ => ?_)
          generalize wr.drew = w41 at BK157 BK158 HB HR159_4 HR160_4 hx159_0 hx159_1 hx159_2 hx159_3 hx159_4 hx159_5 hx159_6 hx159_7 hx160_0 hx160_1 hx160_2 hx160_3 hx160_4 hx160_5 hx160_6 hx160_7 hHeld ⊢
          refine pS 0 (some 55) HT_ ?_
          refine pS 2 (some 57) HT_ ?_
          refine pS 5 (some 60) HT_ ?_
          refine pS 7 (some 62) HT_ ?_
          refine tS 1 (some 56) HT_ HW_ hHeld ?_
          refine pS 3 (some 58) HT_ ?_
          refine tS 4 (some 59) HT_ HW_ hHeld ?_
          refine tS 6 (some 61) HT_ HW_ hHeld ?_
          refine pS 8 (some 63) HT_ ?_
          refine tS 9 (some 64) HT_ HW_ hHeld ?_
          refine one_ (i := 10) (N := some 65) #[true, true, true, true, true, true, true, true, true, true, true, false] rfl rfl (one_of HT_.out (by kernel_rfl)) (by decide) (fun K hK => ?_)
          refine goes_ Tryz.func48 (by kernel_rfl) rfl #[.agg #[.int .i64 ((rd_T37 l0_0 x5_2).f0), .int .i64 ((rd_T37 l0_0 x5_2).f1), .int .i64 ((rd_T37 l0_0 x5_2).f2), .string ((rd_T37 l0_0 x5_2).f3), .slice A159_4 ((rd_T37 l0_0 x5_2).f4).length c159_4, .string ((rd_T37 l0_0 x5_2).f5), .int .i64 ((rd_T37 l0_0 x5_2).f6), .int .i64 ((rd_T37 l0_0 x5_2).f7)], .agg #[.int .i64 ((rd_T37 l1_0 x5_2).f0), .int .i64 ((rd_T37 l1_0 x5_2).f1), .int .i64 ((rd_T37 l1_0 x5_2).f2), .string ((rd_T37 l1_0 x5_2).f3), .slice A160_4 ((rd_T37 l1_0 x5_2).f4).length c160_4, .string ((rd_T37 l1_0 x5_2).f5), .int .i64 ((rd_T37 l1_0 x5_2).f6), .int .i64 ((rd_T37 l1_0 x5_2).f7)]] (by rfl) rfl rfl mp_ ?_
          with_reducible refine (dragnetref19_SameNode.calls k2 ((rd_T37 l0_0 x5_2).f0) ((rd_T37 l0_0 x5_2).f1) ((rd_T37 l0_0 x5_2).f2) ((rd_T37 l0_0 x5_2).f3) _ _ ((rd_T37 l0_0 x5_2).f4) ((rd_T37 l0_0 x5_2).f5) ((rd_T37 l0_0 x5_2).f6) ((rd_T37 l0_0 x5_2).f7) ((rd_T37 l1_0 x5_2).f0) ((rd_T37 l1_0 x5_2).f1) ((rd_T37 l1_0 x5_2).f2) ((rd_T37 l1_0 x5_2).f3) _ _ ((rd_T37 l1_0 x5_2).f4) ((rd_T37 l1_0 x5_2).f5) ((rd_T37 l1_0 x5_2).f6) ((rd_T37 l1_0 x5_2).f7) false _ ?side1 ?side2 ?side3 ?side4 A33.out).mono ?_
          (case side1 => repeat (first | exact (Kd.C_below HR159_4.out HB.out) | (with_reducible refine Kd.C_alloc ?_ _) | (with_reducible refine Kd.C_drewN ?_ _) | (with_reducible refine Kd.C_drew ?_)))
          (case side2 => exact HC159_4.out)
          (case side3 => repeat (first | exact (Kd.C_below HR160_4.out HB.out) | (with_reducible refine Kd.C_alloc ?_ _) | (with_reducible refine Kd.C_drewN ?_ _) | (with_reducible refine Kd.C_drew ?_)))
          (case side4 => exact HC160_4.out)
          rintro e w42 ⟨rfl, hb⟩
          refine ⟨_, rfl, ?_⟩
          have n0_ := bkA BK157 hb
          have n1_ := bkA BK158 hb
          have n2_ := bsA HB hb
          clear BK157
          clear BK158
          clear HB
          have BK157 := n0_
          have BK158 := n1_
          have HB := n2_
          clear n0_ n1_ n2_
          (try clear hb)
          (try clear hb2)
          (try clear hk)
          (try clear hi)
          refine hK.out _ _ ⟨(blk_cell BK157.out 0).trans rfl, (blk_cell BK157.out 1).trans rfl, (blk_cell BK157.out 2).trans rfl, (blk_cell BK157.out 3).trans rfl, (blk_cell BK157.out 4).trans rfl, (blk_cell BK157.out 5).trans rfl, (blk_cell BK158.out 0).trans rfl, (blk_cell BK158.out 1).trans rfl, (blk_cell BK158.out 2).trans rfl, (blk_cell BK158.out 3).trans rfl, (blk_cell BK158.out 4).trans rfl, (blk_cell BK158.out 5).trans rfl, ((HB.out.cell (World.block_lt_of_cell? w _ hw159_0)).trans hw159_0), ((HB.out.cell (World.block_lt_of_cell? w _ hw159_1)).trans hw159_1), ((HB.out.cell (World.block_lt_of_cell? w _ hw159_2)).trans hw159_2), ((HB.out.cell (World.block_lt_of_cell? w _ hw159_3)).trans hw159_3), ((HB.out.cell (World.block_lt_of_cell? w _ hw159_4)).trans hw159_4), ((HB.out.cell (World.block_lt_of_cell? w _ hw159_5)).trans hw159_5), ((HB.out.cell (World.block_lt_of_cell? w _ hw159_6)).trans hw159_6), ((HB.out.cell (World.block_lt_of_cell? w _ hw159_7)).trans hw159_7), ((HB.out.cell (World.block_lt_of_cell? w _ hw160_0)).trans hw160_0), ((HB.out.cell (World.block_lt_of_cell? w _ hw160_1)).trans hw160_1), ((HB.out.cell (World.block_lt_of_cell? w _ hw160_2)).trans hw160_2), ((HB.out.cell (World.block_lt_of_cell? w _ hw160_3)).trans hw160_3), ((HB.out.cell (World.block_lt_of_cell? w _ hw160_4)).trans hw160_4), ((HB.out.cell (World.block_lt_of_cell? w _ hw160_5)).trans hw160_5), ((HB.out.cell (World.block_lt_of_cell? w _ hw160_6)).trans hw160_6), ((HB.out.cell (World.block_lt_of_cell? w _ hw160_7)).trans hw160_7)⟩ (fun hHeld => ?_)
          clear hK K
          refine norm_ (a' := ?_) ?_ ?_
          rotate_left
          ·show Act.put _ (some 65) _ = _
           simp only [Act.put, List.setIfInBounds_toArray, List.set_cons_zero, List.set_cons_succ, i64_w, i32_w]
           rfl
          refine pS 11 (some 66) HT_ ?_
          refine done_ (done_of HT_.out (by kernel_rfl)) ?_
          try go_wp2
          go_ret
          exact ⟨by first | rfl | (simp [errW_none, errW_some] <;> rfl) | (simp [*, errW_none, errW_some] <;> rfl), by repeat (first | (with_reducible first | exact HB.out | apply below_alloc | apply pw_below_drewN | apply below_drew1 | refine below_set ?_ GE157.out | refine below_set ?_ GE158.out) | exact HB.out)⟩
        ·rw [if_neg c32] at H
         exact absurd H (by simp)
       ·rw [if_neg c31] at H
        exact absurd H (by simp)
      ·rw [if_neg c30] at H
       have c30b0 : decide (x5_2 < (l0_0.length : Int)) = false := decide_eq_false c30
       clear c30
       obtain rfl := Option.some.inj H
       have hnb43 := NB157_158.out
       have hnc43 := NB158_157.out
       have hcz44_0 : wr.cell? ⟨gb157, 0, none⟩ = some (.slice A0_0 l0_0.length c0_0) := (blk_cell BK157.out 0).trans rfl
       have hcz44_1 : wr.cell? ⟨gb157, 1, none⟩ = some (.int .i64 a0_1) := (blk_cell BK157.out 1).trans rfl
       have hcz44_2 : wr.cell? ⟨gb157, 2, none⟩ = some (.string a0_2) := (blk_cell BK157.out 2).trans rfl
       have hcz44_3 : wr.cell? ⟨gb157, 3, none⟩ = some (.int .i64 a0_3) := (blk_cell BK157.out 3).trans rfl
       have hcz44_4 : wr.cell? ⟨gb157, 4, none⟩ = some (.int .i64 a0_4) := (blk_cell BK157.out 4).trans rfl
       have hcz44_5 : wr.cell? ⟨gb157, 5, none⟩ = some (.int .i64 a0_5) := (blk_cell BK157.out 5).trans rfl
       have hfz44_0 := blk_frozen BK157.out 0
       have hfz44_1 := blk_frozen BK157.out 1
       have hfz44_2 := blk_frozen BK157.out 2
       have hfz44_3 := blk_frozen BK157.out 3
       have hfz44_4 := blk_frozen BK157.out 4
       have hfz44_5 := blk_frozen BK157.out 5
       go_wp2
       go_ret
       exact ⟨by first | rfl | (simp [errW_none, errW_some] <;> rfl) | (simp [*, errW_none, errW_some] <;> rfl), by repeat (first | (with_reducible first | exact HB.out | apply below_alloc | apply pw_below_drewN | apply below_drew1 | refine below_set ?_ GE157.out | refine below_set ?_ GE158.out) | exact HB.out)⟩
end Go.Proofs.YtehaodbheifokaaGreatDoor.P
end
section
namespace Go.Proofs.YtehaodbheifokaaGreatDoor.P
open Go Go.RowKit Go.Proofs.YtehaodbheifokaaGreatDoorW.PrintWords Go.Proofs.YtehaodbheifokaaGreatDoorW.PrintLast Go.Proofs.YtehaodbheifokaaGreatDoorW.PrintMore
attribute [local go_sem] max2_int min2_int max_two min_two
theorem rsame_ev (k a b : Int) (tx : ByteArray) (tm : List ByteArray) (ky : ByteArray) (lo hi : Int) (hb : tm.length ≤ 1099511627776) : Ev (fun n => dragnetref19_SameNode.f n k a b tx tm ky lo hi k a b tx tm ky lo hi) true := by
 obtain ⟨n, hn⟩ := rsl_ev tm tm hb
 refine ⟨n, fun m hm => ?_⟩
 have e1 := hn m hm
 simp only at e1
 show dragnetref19_SameNode.f m k a b tx tm ky lo hi k a b tx tm ky lo hi = some true
 unfold dragnetref19_SameNode.f
 rw [e1]
 simp
theorem rd_node {ns : List ND} {i : Nat} (h : i < ns.length) : rd_T37 ns (i : Int) = ns[i] := by
 unfold rd_T37
 simp [List.getD_eq_getElem?_getD, h]
theorem askl_loop (ns : List ND) (h64 : ns.length ≤ 1099511627776) (h4 : ∀ n ∈ ns, n.f4.length ≤ 1099511627776) (k1 : Int) (y1 : ByteArray) (w1 s1 m1 k2 : Int) (y2 : ByteArray) (w2 s2 m2 : Int) : ∀ (d i : Nat), i + d = ns.length → Ev (fun k => dragnetref19_Same.l0 k (i : Int) ns k1 y1 w1 s1 m1 ns k2 y2 w2 s2 m2) true
 | 0, i, hi => by
  refine Ev.step (f := fun _ => some true) (fun k => ?_) (Ev.now _)
  simp only [dragnetref19_Same.l0]
  rw [if_neg (by omega)]
 | d + 1, i, hi => by
  have ih := askl_loop ns h64 h4 k1 y1 w1 s1 m1 k2 y2 w2 s2 m2 d (i + 1) (by omega)
  have hin : i < ns.length := by omega
  have hs := rsame_ev (ns[i]).f0 (ns[i]).f1 (ns[i]).f2 (ns[i]).f3 (ns[i]).f4 (ns[i]).f5 (ns[i]).f6 (ns[i]).f7 (h4 _ (List.getElem_mem hin))
  have ew : wrap64 ((i : Int) + 1) = ((i + 1 : Nat) : Int) := by unfold wrap64; omega
  refine Pure.Ev.sb (F := fun k (t : Bool) => if t = true then dragnetref19_Same.l0 k (wrap64 ((i : Int) + 1)) ns k1 y1 w1 s1 m1 ns k2 y2 w2 s2 m2 else some false) hs (fun k => ?_) ?_
  ·simp only [dragnetref19_Same.l0]
   rw [if_pos (by omega), if_pos (by omega), if_pos (by omega), rd_node hin]
  ·simp only [if_true, ew]
   exact ih
theorem askSame_ev (ns : List ND) (h64 : ns.length ≤ 1099511627776) (h4 : ∀ n ∈ ns, n.f4.length ≤ 1099511627776) (k1 : Int) (y1 : ByteArray) (w1 s1 m1 k2 : Int) (y2 : ByteArray) (w2 s2 m2 : Int) :
  Ev (fun k => dragnetref19_Same.f k ns k1 y1 w1 s1 m1 ns k2 y2 w2 s2 m2) (decide (k1 = k2 ∧ y1 = y2 ∧ w1 = w2 ∧ s1 = s2 ∧ m1 = m2)) := by
 have hl : ((ns.length : Int) != (ns.length : Int)) = false := by simp
 have yes : Ev (fun k => dragnetref19_Same.j0 k false ns k1 y1 w1 s1 m1 ns k2 y2 w2 s2 m2) true := by
  refine Ev.step (fun k => ?_) (askl_loop ns h64 h4 k1 y1 w1 s1 m1 k2 y2 w2 s2 m2 ns.length 0 (by omega))
  simp only [dragnetref19_Same.j0]
  rw [if_neg (by decide)]
  rfl
 have no : Ev (fun k => dragnetref19_Same.j0 k true ns k1 y1 w1 s1 m1 ns k2 y2 w2 s2 m2) false := by
  refine Ev.step (f := fun _ => some false) (fun k => ?_) (Ev.now _)
  simp only [dragnetref19_Same.j0, if_true]
 unfold dragnetref19_Same.f
 simp only [bytes_inj0, hl]
 by_cases e1 : k1 = k2
 ·by_cases e2 : y1 = y2
  ·by_cases e3 : w1 = w2
   ·by_cases e4 : s1 = s2
    ·by_cases e5 : m1 = m2
     ·simp only [e1, e2, e3, e4, e5, if_true, and_self, decide_true]; subst e1 e2 e3 e4 e5; exact yes
     ·simp only [e1, e2, e3, e4, e5, if_true, if_false, and_false, decide_false]; subst e1 e2 e3 e4; exact no
    ·simp only [e1, e2, e3, e4, if_true, if_false, and_false, false_and, decide_false]; subst e1 e2 e3; exact no
   ·simp only [e1, e2, e3, if_true, if_false, and_false, false_and, decide_false]; subst e1 e2; exact no
  ·simp only [e1, e2, if_true, if_false, and_false, false_and, decide_false]; subst e1; exact no
 ·simp only [e1, if_false, false_and, decide_false]; exact no
theorem askSame_calls (A : Option Addr) (c : Nat) (A' : Option Addr) (c' : Nat) (ns : List ND) (h64 : ns.length ≤ 1099511627776) (h4 : ∀ n ∈ ns, n.f4.length ≤ 1099511627776) (k1 : Int) (y1 : ByteArray) (w1 s1 m1 k2 : Int) (y2 : ByteArray) (w2 s2 m2 : Int) (w : World) (hC : Kd.C k37 w A ns.length ns) (hc : ns.length ≤ c) (hC' : Kd.C k37 w A' ns.length ns) (hc' : ns.length ≤ c') :
  Calls Tryz.prog 26 #[.agg #[.slice A ns.length c, .int .i64 k1, .string y1, .int .i64 w1, .int .i64 s1, .int .i64 m1], .agg #[.slice A' ns.length c', .int .i64 k2, .string y2, .int .i64 w2, .int .i64 s2, .int .i64 m2]] w fun e w' => e = .returned (.bool (decide (k1 = k2 ∧ y1 = y2 ∧ w1 = w2 ∧ s1 = s2 ∧ m1 = m2))) ∧ Below w.heap.size w w' := by
 obtain ⟨n, hn⟩ := askSame_ev ns h64 h4 k1 y1 w1 s1 m1 k2 y2 w2 s2 m2
 exact dragnetref19_Same.calls n A c ns k1 y1 w1 s1 m1 A' c' ns k2 y2 w2 s2 m2 _ w hC hc hC' hc' (hn n (Nat.le_refl _))
def xOf (k : Int) (ky : ByteArray) (wd sk mo : Int) (q : ByteArray × Int × Int × Int) : Prop :=
 (k = 1 ∧ q = (⟨#[]⟩, 0, sk, mo)) ∨ (k = 2 ∧ q = (⟨#[]⟩, 0, 0, 0)) ∨ (k = 3 ∧ q = (ky, 0, 0, 0)) ∨ (k = 4 ∧ q = (ky, 0, 0, mo)) ∨ ((k = 5 ∨ k = 6) ∧ q = (⟨#[]⟩, wd, 0, 0))
theorem asked_of {k : Int} {ky : ByteArray} {wd sk mo : Int} {q : ByteArray × Int × Int × Int} (hx : xOf k ky wd sk mo q) : askedB k ky wd sk mo = (decide (ky = q.1 ∧ wd = q.2.1 ∧ sk = q.2.2.1 ∧ mo = q.2.2.2) && rngB sk mo && decide (k = 4 → mo ≤ 1000) && decide (k = 3 ∨ k = 4 → Pure.keyB ky = true) && decide (5 ≤ k → 1 ≤ wd)) := by
 unfold askedB
 rcases hx with ⟨rfl, rfl⟩ | ⟨rfl, rfl⟩ | ⟨rfl, rfl⟩ | ⟨rfl, rfl⟩ | ⟨h, rfl⟩
 ·rw [if_pos rfl]; simp; rw [Bool.and_comm]
 ·rw [if_neg (by decide), if_pos rfl, Bool.eq_iff_iff]
  unfold rngB
  simp only [decide_eq_true_eq, Bool.and_eq_true]
  constructor
  ·rintro ⟨h1, h2, h3, h4⟩; refine ⟨⟨⟨⟨⟨h1, h2, h3, h4⟩, by omega⟩, by omega⟩, by omega⟩, by omega⟩
  ·rintro ⟨⟨⟨⟨h, _⟩, _⟩, _⟩, _⟩; exact h
 ·rw [if_neg (by decide), if_neg (by decide), if_pos rfl, Bool.eq_iff_iff]
  unfold rngB
  simp only [decide_eq_true_eq, Bool.and_eq_true]
  constructor
  ·rintro ⟨h0, h2, h3, h4⟩; exact ⟨⟨⟨⟨⟨trivial, h2, h3, h4⟩, by omega⟩, by omega⟩, fun _ => h0⟩, by omega⟩
  ·rintro ⟨⟨⟨⟨h, _⟩, _⟩, h5⟩, _⟩; exact ⟨h5 (by simp), h.2.1, h.2.2.1, h.2.2.2⟩
 ·rw [if_neg (by decide), if_neg (by decide), if_neg (by decide), if_pos rfl, Bool.eq_iff_iff]
  unfold rngB
  simp only [decide_eq_true_eq, Bool.and_eq_true]
  constructor
  ·rintro ⟨h0, h2, h3, h4, h5⟩; exact ⟨⟨⟨⟨⟨trivial, h4, h5, trivial⟩, by omega⟩, by omega⟩, fun _ => h0⟩, by omega⟩
  ·rintro ⟨⟨⟨⟨h, h6⟩, h7⟩, h5⟩, _⟩; exact ⟨h5 (by simp), h6.2.1, h7 (by simp), h.2.1, h.2.2.1⟩
 ·rw [if_neg (by omega), if_neg (by omega), if_neg (by omega), if_neg (by omega), if_pos h, Bool.eq_iff_iff]
  unfold rngB
  simp only [decide_eq_true_eq, Bool.and_eq_true]
  constructor
  ·rintro ⟨h0, h2, h3, h4⟩; exact ⟨⟨⟨⟨⟨h2, trivial, h3, h4⟩, by omega⟩, by omega⟩, fun h5 => by omega⟩, fun _ => h0⟩
  ·rintro ⟨⟨⟨⟨h2, _⟩, _⟩, _⟩, h6⟩; exact ⟨h6 (by omega), h2.1, h2.2.2.1, h2.2.2.2⟩
def pass14 (n : Nat) (k : Int) (ky : ByteArray) (wd sk mo : Int) (q1 : ByteArray) (q2 q3 q4 : Int) : Bool := decide (1 ≤ n ∧ n ≤ 64) && decide (ky = q1 ∧ wd = q2 ∧ sk = q3 ∧ mo = q4) && rngB sk mo && decide (k = 4 → mo ≤ 1000)
def pass16 (k : Int) (ky : ByteArray) (wd : Int) : Bool := decide (k = 3 ∨ k = 4 → Pure.keyB ky = true) && decide (5 ≤ k → 1 ≤ wd)
section
variable {n : Nat} {k : Int} {ky : ByteArray} {wd sk mo : Int} {q1 : ByteArray} {q2 q3 q4 : Int} {ns : List ND}
theorem p14_len (h : ¬ (1 ≤ n ∧ n ≤ 64)) : true = !pass14 n k ky wd sk mo q1 q2 q3 q4 := by unfold pass14; rw [decide_eq_false h]; rfl
theorem p14_sb (h : decide (ky = q1 ∧ wd = q2 ∧ sk = q3 ∧ mo = q4) = false) : true = !pass14 n k ky wd sk mo q1 q2 q3 q4 := by unfold pass14; rw [h, Bool.and_false]; rfl
theorem p14_rng (h : ¬ (0 ≤ sk ∧ 0 ≤ mo ∧ sk ≤ 2147483647 ∧ mo ≤ 2147483647)) : true = !pass14 n k ky wd sk mo q1 q2 q3 q4 := by unfold pass14 rngB; rw [decide_eq_false h, Bool.and_false]; rfl
theorem p14_mo (h : ¬ (k = 4 → mo ≤ 1000)) : true = !pass14 n k ky wd sk mo q1 q2 q3 q4 := by unfold pass14; rw [decide_eq_false h, Bool.and_false]; rfl
theorem p14_ok (h0 : 1 ≤ n ∧ n ≤ 64) (h1 : decide (ky = q1 ∧ wd = q2 ∧ sk = q3 ∧ mo = q4) = true) (h2 : 0 ≤ sk ∧ 0 ≤ mo ∧ sk ≤ 2147483647 ∧ mo ≤ 2147483647) (h3 : k = 4 → mo ≤ 1000) : false = !pass14 n k ky wd sk mo q1 q2 q3 q4 := by unfold pass14 rngB; rw [decide_eq_true h0, h1, decide_eq_true h2, decide_eq_true h3]; rfl
theorem p16_key {kb : Bool} (h : k = 3 ∨ k = 4) (hk : Pure.keyB ky = kb) : (!kb) = !pass16 k ky wd := by
 unfold pass16
 rw [hk, decide_eq_true (show 5 ≤ k → 1 ≤ wd by omega), Bool.and_true]
 cases kb
 ·rw [decide_eq_false (fun e => absurd (e h) (by decide))]
 ·rw [decide_eq_true (fun _ => rfl)]
theorem p16_wd (h : ¬ (k = 3 ∨ k = 4)) (h5 : 5 ≤ k) : decide (wd < 1) = !pass16 k ky wd := by
 unfold pass16
 rw [decide_eq_true (show k = 3 ∨ k = 4 → Pure.keyB ky = true from fun e => absurd e h), Bool.true_and]
 by_cases hw : wd < 1
 ·rw [decide_eq_true hw, decide_eq_false (fun e => by have := e h5; omega)]; rfl
 ·rw [decide_eq_false hw, decide_eq_true (fun _ => by omega)]; rfl
theorem p16_no (h : ¬ (k = 3 ∨ k = 4)) (h5 : ¬ 5 ≤ k) : false = !pass16 k ky wd := by
 unfold pass16
 rw [decide_eq_true (show k = 3 ∨ k = 4 → Pure.keyB ky = true from fun e => absurd e h), decide_eq_true (show 5 ≤ k → 1 ≤ wd from fun e => absurd e h5)]
 rfl
theorem form_of (hx : xOf k ky wd sk mo (q1, q2, q3, q4)) : formedB ns k ky wd sk mo = (pass14 ns.length k ky wd sk mo q1 q2 q3 q4 && pass16 k ky wd && (match formL 0 ns (List.replicate ns.length 0) with | none => false | some u => onesB u)) := by
 unfold formedB
 rw [asked_of hx]
 unfold pass14 pass16
 simp only [Bool.and_assoc]; try rfl
theorem form_no14 (hx : xOf k ky wd sk mo (q1, q2, q3, q4)) (h : true = !pass14 ns.length k ky wd sk mo q1 q2 q3 q4) : formedB ns k ky wd sk mo = false := by
 rw [form_of hx]
 cases hp : pass14 ns.length k ky wd sk mo q1 q2 q3 q4 with
 | true => rw [hp] at h; cases h
 | false => rfl
theorem form_no16 (hx : xOf k ky wd sk mo (q1, q2, q3, q4)) (h : true = !pass16 k ky wd) : formedB ns k ky wd sk mo = false := by
 rw [form_of hx]
 cases hp : pass16 k ky wd with
 | true => rw [hp] at h; cases h
 | false => rw [Bool.and_false]; rfl
theorem form_yes (hx : xOf k ky wd sk mo (q1, q2, q3, q4)) (h : false = !pass14 ns.length k ky wd sk mo q1 q2 q3 q4) (h2 : false = !pass16 k ky wd) : formedB ns k ky wd sk mo = (match formL 0 ns (List.replicate ns.length 0) with | none => false | some u => onesB u) := by
 rw [form_of hx]
 cases hp : pass14 ns.length k ky wd sk mo q1 q2 q3 q4 with
 | false => rw [hp] at h; cases h
 | true =>
  cases hp2 : pass16 k ky wd with
  | false => rw [hp2] at h2; cases h2
  | true => rfl
theorem form_len (h : false = !pass14 n k ky wd sk mo q1 q2 q3 q4) : 1 ≤ n ∧ n ≤ 64 := by
 unfold pass14 at h
 by_cases h0 : 1 ≤ n ∧ n ≤ 64
 ·exact h0
 ·rw [decide_eq_false h0] at h; cases h
end
theorem ones_no {u : List Int} {j : Nat} {z : Int} (hj : j < u.length - 1) (hz : u.getD j 0 = z) (h1 : z ≠ 1) : onesB u = false := by
 unfold onesB
 rw [List.all_eq_false]
 refine ⟨z, ?_, by simpa using h1⟩
 rw [List.getD_eq_getElem?_getD, List.getElem?_eq_getElem (by omega)] at hz
 rw [← hz]
 exact List.mem_take_iff_getElem.2 ⟨j, by omega, rfl⟩
theorem ones_yes {u : List Int} (h : ∀ q, q < u.length - 1 → u.getD q 0 = 1) : onesB u = true := by
 unfold onesB
 rw [List.all_eq_true]
 intro x hx
 obtain ⟨q, hq, rfl⟩ := List.mem_take_iff_getElem.1 hx
 have h2 := h q (by omega)
 rw [List.getD_eq_getElem?_getD, List.getElem?_eq_getElem (by omega)] at h2
 exact beq_iff_eq.2 h2
theorem formL_step2 (i : Nat) (n : ND) (r : List ND) (u : List Int) (h : rightN n = true) (ha : (partsN n).all (inN i) = true) : formL i (n :: r) u = formL (i + 1) r (bump u (partsN n)) := by rw [formL, if_pos ⟨h, ha⟩]
theorem right_lt {n : ND} (h : rightN n = true) (h10 : n.f0 ≠ 10) (h11 : n.f0 ≠ 11) (h12 : n.f0 ≠ 12) : n.f0 < 10 := by
 rcases Int.lt_or_le n.f0 10 with hl | hl
 ·exact hl
 ·exfalso
  unfold rightN rightB at h
  rw [if_neg (by omega), if_neg (by omega), if_neg (by omega), if_neg (by omega), if_neg (by omega), if_neg (by omega), if_neg (by omega), if_neg (by omega), if_neg h12] at h
  cases h
noncomputable def sndSeq : Code → Code
 | .seq _ b => b
 | c => c
noncomputable def rf14C : Code := sndSeq (sndSeq (sndSeq ((Tryz.f16.body).getD .skip)))
noncomputable def rf16C : Code := sndSeq rf14C
noncomputable def rf18C : Code := sndSeq rf16C
theorem rf18 (A : Option Addr) (c : Nat) (ns : List ND) (k : Int) (ky : ByteArray) (wd sk mo : Int) (w : World) (r : Bool) (wc : World) (HR : Aside0 ((match formL 0 ns (List.replicate ns.length 0) with | none => false | some u => onesB u) = r)) (HLEN : Aside0 (1 ≤ ns.length ∧ ns.length ≤ 64)) (HC : Aside0 (Kd.C k37 w A ns.length ns)) (hc : ns.length ≤ c) (H4 : Aside0 (∀ n ∈ ns, n.f4.length ≤ 1099511627776)) (H5 : Aside0 (∀ n ∈ ns, n.f5.size ≤ 9223372036854775807)) (HAB : Aside0 (wc.heap[w.heap.size]? = some (.cells #[.slice A ns.length c, .int .i64 k, .string ky, .int .i64 wd, .int .i64 sk, .int .i64 mo] 24 (0, 0)))) (HB : Aside0 (Below w.heap.size w wc)) (u0 u2 u3 u4 u5 u6 u7 u8 u9 u10 u11 u12 u13 u14 u15 u16 u17 u18 u19 u20 u21 u22 u23 u24 u25 u26 u27 u28 u29 u30 u31 u32 u33 u34 u35 u36 u37 u38 u39 u40 u41 u42 u43 u44 u45 u46 u47 u48 u49 u50 u51 u52 u53 u54 u55 u56 u57 u58 u59 u60 u61 u62 u63 u64 u65 u66 u67 u68 u69 u70 u71 u72 u73 u74 u75 u76 u77 u78 u79 u80 u81 u82 u83 u84 u85 u86 u87 u88 u89 u90 u91 u92 u93 u94 u95 u96 u97 u98 u99 u100 u101 u102 u103 u104 u105 u106 u107 u108 u109 u110 u111 u112 u113 u114 u115 u116 u117 u118 u119 u120 u121 u122 u123 u124 u125 u126 u127 u128 u129 u130 u131 u132 u133 u134 u135 u136 u137 u138 u139 u140 u141 u142 u143 u144 u145 u146 u147 u148 u149 u150 u151 u152 u153 u154 u155 u156 u157 u158 u159 u160 u161 u162 u163 u164 u165 u166 u167 u168 u169 u170 u171 u172 u173 u174 u175 u176 u177 u178 u179 u180 u181 : Value) :
  Code.wp Tryz.prog rf18C (bodyPost Tryz.prog Tryz.f16 (fun e w' => e = .returned (.bool r) ∧ Below w.heap.size w w')) ⟨List.toArray (u0 :: .pointer (some ⟨w.heap.size, 0, none⟩) :: u2 :: u3 :: u4 :: u5 :: u6 :: u7 :: u8 :: u9 :: u10 :: u11 :: u12 :: u13 :: u14 :: u15 :: u16 :: u17 :: u18 :: u19 :: u20 :: u21 :: u22 :: u23 :: u24 :: u25 :: u26 :: u27 :: u28 :: u29 :: u30 :: u31 :: u32 :: u33 :: u34 :: u35 :: u36 :: u37 :: u38 :: u39 :: u40 :: u41 :: u42 :: u43 :: u44 :: u45 :: u46 :: u47 :: u48 :: u49 :: u50 :: u51 :: u52 :: u53 :: u54 :: u55 :: u56 :: u57 :: u58 :: u59 :: u60 :: u61 :: u62 :: u63 :: u64 :: u65 :: u66 :: u67 :: u68 :: u69 :: u70 :: u71 :: u72 :: u73 :: u74 :: u75 :: u76 :: u77 :: u78 :: u79 :: u80 :: u81 :: u82 :: u83 :: u84 :: u85 :: u86 :: u87 :: u88 :: u89 :: u90 :: u91 :: u92 :: u93 :: u94 :: u95 :: u96 :: u97 :: u98 :: u99 :: u100 :: u101 :: u102 :: u103 :: u104 :: u105 :: u106 :: u107 :: u108 :: u109 :: u110 :: u111 :: u112 :: u113 :: u114 :: u115 :: u116 :: u117 :: u118 :: u119 :: u120 :: u121 :: u122 :: u123 :: u124 :: u125 :: u126 :: u127 :: u128 :: u129 :: u130 :: u131 :: u132 :: u133 :: u134 :: u135 :: u136 :: u137 :: u138 :: u139 :: u140 :: u141 :: u142 :: u143 :: u144 :: u145 :: u146 :: u147 :: u148 :: u149 :: u150 :: u151 :: u152 :: u153 :: u154 :: u155 :: u156 :: u157 :: u158 :: u159 :: u160 :: u161 :: u162 :: u163 :: u164 :: u165 :: u166 :: u167 :: u168 :: u169 :: u170 :: u171 :: u172 :: u173 :: u174 :: u175 :: u176 :: u177 :: u178 :: u179 :: u180 :: u181 :: []), []⟩ wc := by
 conv => arg 2; whnf
 have HWA := Aside0.mk (show w.heap.size < wc.heap.size from blk_lt HAB.out)
 have HWC := Aside0.mk HB.out.size
 have HU0 := Aside0.mk (show (wc.alloc (Obj.cells #[.int .i64 0, .int .i64 0, .int .i64 0, .int .i64 0, .int .i64 0, .int .i64 0, .int .i64 0, .int .i64 0, .int .i64 0, .int .i64 0, .int .i64 0, .int .i64 0, .int .i64 0, .int .i64 0, .int .i64 0, .int .i64 0, .int .i64 0, .int .i64 0, .int .i64 0, .int .i64 0, .int .i64 0, .int .i64 0, .int .i64 0, .int .i64 0, .int .i64 0, .int .i64 0, .int .i64 0, .int .i64 0, .int .i64 0, .int .i64 0, .int .i64 0, .int .i64 0, .int .i64 0, .int .i64 0, .int .i64 0, .int .i64 0, .int .i64 0, .int .i64 0, .int .i64 0, .int .i64 0, .int .i64 0, .int .i64 0, .int .i64 0, .int .i64 0, .int .i64 0, .int .i64 0, .int .i64 0, .int .i64 0, .int .i64 0, .int .i64 0, .int .i64 0, .int .i64 0, .int .i64 0, .int .i64 0, .int .i64 0, .int .i64 0, .int .i64 0, .int .i64 0, .int .i64 0, .int .i64 0, .int .i64 0, .int .i64 0, .int .i64 0, .int .i64 0] 80)).heap[wc.heap.size]? = some (.cells (nums .i64 (List.replicate ns.length 0 ++ List.replicate (64 - ns.length) 0)).toArray 80 (0, 0)) by rw [List.replicate_append_replicate, show ns.length + (64 - ns.length) = 64 by have := HLEN.out; omega]; exact blk_new wc _)
 have HAB0 := Aside0.mk (blk_alloc HAB.out (Obj.cells #[.int .i64 0, .int .i64 0, .int .i64 0, .int .i64 0, .int .i64 0, .int .i64 0, .int .i64 0, .int .i64 0, .int .i64 0, .int .i64 0, .int .i64 0, .int .i64 0, .int .i64 0, .int .i64 0, .int .i64 0, .int .i64 0, .int .i64 0, .int .i64 0, .int .i64 0, .int .i64 0, .int .i64 0, .int .i64 0, .int .i64 0, .int .i64 0, .int .i64 0, .int .i64 0, .int .i64 0, .int .i64 0, .int .i64 0, .int .i64 0, .int .i64 0, .int .i64 0, .int .i64 0, .int .i64 0, .int .i64 0, .int .i64 0, .int .i64 0, .int .i64 0, .int .i64 0, .int .i64 0, .int .i64 0, .int .i64 0, .int .i64 0, .int .i64 0, .int .i64 0, .int .i64 0, .int .i64 0, .int .i64 0, .int .i64 0, .int .i64 0, .int .i64 0, .int .i64 0, .int .i64 0, .int .i64 0, .int .i64 0, .int .i64 0, .int .i64 0, .int .i64 0, .int .i64 0, .int .i64 0, .int .i64 0, .int .i64 0, .int .i64 0, .int .i64 0] 80))
 have HB0 := Aside0.mk (below_alloc HB.out (Obj.cells #[.int .i64 0, .int .i64 0, .int .i64 0, .int .i64 0, .int .i64 0, .int .i64 0, .int .i64 0, .int .i64 0, .int .i64 0, .int .i64 0, .int .i64 0, .int .i64 0, .int .i64 0, .int .i64 0, .int .i64 0, .int .i64 0, .int .i64 0, .int .i64 0, .int .i64 0, .int .i64 0, .int .i64 0, .int .i64 0, .int .i64 0, .int .i64 0, .int .i64 0, .int .i64 0, .int .i64 0, .int .i64 0, .int .i64 0, .int .i64 0, .int .i64 0, .int .i64 0, .int .i64 0, .int .i64 0, .int .i64 0, .int .i64 0, .int .i64 0, .int .i64 0, .int .i64 0, .int .i64 0, .int .i64 0, .int .i64 0, .int .i64 0, .int .i64 0, .int .i64 0, .int .i64 0, .int .i64 0, .int .i64 0, .int .i64 0, .int .i64 0, .int .i64 0, .int .i64 0, .int .i64 0, .int .i64 0, .int .i64 0, .int .i64 0, .int .i64 0, .int .i64 0, .int .i64 0, .int .i64 0, .int .i64 0, .int .i64 0, .int .i64 0, .int .i64 0] 80))
 clear HAB HB
 go_wp2_with fail
 go_loopg [5] ns.length (fun kq v5 wr => ∃ (i : Nat) (u : List Int), v5 = .int .i64 (i : Int) ∧ Aside0 (kq + i = ns.length) ∧ Aside0 (u.length = ns.length) ∧ Aside0 ((match formL i (ns.drop i) u with | none => false | some u => onesB u) = r) ∧ Aside0 (wr.heap[w.heap.size]? = some (.cells #[.slice A ns.length c, .int .i64 k, .string ky, .int .i64 wd, .int .i64 sk, .int .i64 mo] 24 (0, 0))) ∧ Aside0 (wr.heap[wc.heap.size]? = some (.cells (nums .i64 (u ++ List.replicate (64 - ns.length) 0)).toArray 80 (0, 0))) ∧ Aside0 (Below w.heap.size w wr))
 case atStart => exact ⟨0, List.replicate ns.length 0, rfl, ⟨rfl⟩, ⟨by simp⟩, ⟨HR.out⟩, HAB0, HU0, HB0⟩
 case round =>
  clear HAB0 HU0 HB0
  obtain ⟨i, u, rfl, HI, HUL, HS, HAB, HU, HB⟩ := hrel
  have a0 : wr.cell? ⟨w.heap.size, 0, none⟩ = some (.slice A ns.length c) := (blk_cell HAB.out 0).trans rfl
  by_cases hi : i < ns.length
  ·have d3 : decide ((i : Int) < (ns.length : Int)) = true := decide_eq_true (by omega)
   have d4 : decide (i < ns.length) = true := decide_eq_true hi
   have dp : 0 ≤ (i : Int) := by omega
   obtain ⟨ad, A4, c4, hAe, k0, k1, k2, k3, k4, k5, k6, k7, l4, g4⟩ := at_T37 (Kd.C_below HC.out HB.out) (i : Int) (by omega) (by omega)
   subst hAe
   obtain ⟨n, hn⟩ : ∃ n, ns[i]? = some n := ⟨_, List.getElem?_eq_getElem hi⟩
   have hrd : rd_T37 ns (i : Int) = n := by simp [rd_T37, List.getD_eq_getElem?_getD, hn]
   rw [hrd, Int.toNat_natCast] at k0 k1 k2 k3 k4 k5 k6 k7
   rw [hrd] at l4 g4
   have HN := Aside0.mk hn
   have HDR := Aside0.mk (show ns.drop i = n :: ns.drop (i + 1) by rw [List.drop_eq_getElem_cons hi]; rw [List.getElem?_eq_getElem hi] at hn; rw [Option.some.inj hn])
   have HI2 := Aside0.mk hi
   have hip : i < ns.length := hi
   have HNB := Aside0.mk (blk_new wr (Obj.cells #[.int .i64 n.f0, .int .i64 n.f1, .int .i64 n.f2, .string n.f3, .slice A4 n.f4.length c4, .string n.f5, .int .i64 n.f6, .int .i64 n.f7] 37))
   have HBn := Aside0.mk (below_alloc HB.out (Obj.cells #[.int .i64 n.f0, .int .i64 n.f1, .int .i64 n.f2, .string n.f3, .slice A4 n.f4.length c4, .string n.f5, .int .i64 n.f6, .int .i64 n.f7] 37))
   have HABn := Aside0.mk (blk_alloc HAB.out (Obj.cells #[.int .i64 n.f0, .int .i64 n.f1, .int .i64 n.f2, .string n.f3, .slice A4 n.f4.length c4, .string n.f5, .int .i64 n.f6, .int .i64 n.f7] 37))
   have HUn := Aside0.mk (blk_alloc HU.out (Obj.cells #[.int .i64 n.f0, .int .i64 n.f1, .int .i64 n.f2, .string n.f3, .slice A4 n.f4.length c4, .string n.f5, .int .i64 n.f6, .int .i64 n.f7] 37))
   have HRG := Aside0.mk (rright_calls n (wr.alloc (Obj.cells #[.int .i64 n.f0, .int .i64 n.f1, .int .i64 n.f2, .string n.f3, .slice A4 n.f4.length c4, .string n.f5, .int .i64 n.f6, .int .i64 n.f7] 37)) A4 c4 (Kd.C_below g4 (below_alloc (Below.refl _ _) _)) l4 (H4.out n (List.mem_of_getElem? hn)) (H5.out n (List.mem_of_getElem? hn)))
   obtain ⟨rb, hrb⟩ : ∃ rb, rightN n = rb := ⟨_, rfl⟩
   rw [hrb] at HRG
   have HRB := Aside0.mk hrb
   clear hrb hrd hn l4 g4 hi
   go_wp2_with fail
   refine HRG.out.mono ?_
   rintro e w2 ⟨rfl, hb⟩
   have HB2 := Aside0.mk (below_step HBn.out hb)
   have HNB2 := Aside0.mk (blk_below HNB.out hb)
   have HAB2 := Aside0.mk (blk_below HABn.out hb)
   have HU2 := Aside0.mk (blk_below HUn.out hb)
   have HWL := Aside0.mk (blk_lt HU.out)
   clear HAB HU HB HBn HABn HUn HNB hb HRG
   cases rb
   ·go_wp2_with fail
    go_ret
    exact ⟨by rw [← HS.out, HDR.out, formL, if_neg (fun h => by rw [HRB.out] at h; exact absurd h.1 (by decide))]; rfl, HB2.out⟩
   ·skip
    by_cases k10 : n.f0 = 10
    ·have HK := Aside0.mk k10
     clear k10
     have m0 : w2.cell? ⟨wr.heap.size, 0, none⟩ = some (.int .i64 10) := by rw [← HK.out]; exact (blk_cell HNB2.out 0).trans rfl
     have HPS := Aside0.mk (show partsN n = [n.f1, n.f2] by unfold partsN; rw [if_pos (by have := HK.out; omega)])
     by_cases hf10 : n.f1 < 0
     ·have m1 : w2.cell? ⟨wr.heap.size, 1, none⟩ = some (.int .i64 n.f1) := (blk_cell HNB2.out 1).trans rfl
      have d_f10 : decide (n.f1 < 0) = true := decide_eq_true hf10
      have HQ := Aside0.mk hf10
      clear hf10
      go_wp2_with fail
      go_ret
      exact ⟨by rw [← HS.out, HDR.out, formL_stop _ _ _ _ (p := n.f1) (by rw [HPS.out]; simp) (by have := HQ.out; unfold inN; exact decide_eq_false (by omega))]; rfl, HB2.out⟩
     ·by_cases hf11 : (i : Int) ≤ n.f1
      ·have m1 : w2.cell? ⟨wr.heap.size, 1, none⟩ = some (.int .i64 n.f1) := (blk_cell HNB2.out 1).trans rfl
       have d_f10 : decide (n.f1 < 0) = false := decide_eq_false hf10
       have d_f11 : decide ((i : Int) ≤ n.f1) = true := decide_eq_true hf11
       have HQ := Aside0.mk hf11
       clear hf10 hf11
       go_wp2_with fail
       go_ret
       exact ⟨by rw [← HS.out, HDR.out, formL_stop _ _ _ _ (p := n.f1) (by rw [HPS.out]; simp) (by have := HQ.out; unfold inN; exact decide_eq_false (by omega))]; rfl, HB2.out⟩
      ·obtain ⟨pf1, hpf1⟩ : ∃ q : Nat, n.f1 = (q : Int) := ⟨n.f1.toNat, by omega⟩
       have m1 : w2.cell? ⟨wr.heap.size, 1, none⟩ = some (.int .i64 (pf1 : Int)) := by rw [← hpf1]; exact (blk_cell HNB2.out 1).trans rfl
       have HPf1 := Aside0.mk hpf1
       have HInf1 := Aside0.mk (show inN i n.f1 = true by unfold inN; exact decide_eq_true (by omega))
       have ef10 : decide ((pf1 : Int) < 0) = false := decide_eq_false (by omega)
       have ef11 : decide ((i : Int) ≤ (pf1 : Int)) = false := decide_eq_false (by omega)
       have ef15 : decide (i ≤ pf1) = false := decide_eq_false (by omega)
       have hi_ := HI2.out
       have hl_ := HLEN.out
       have hu_ := HUL.out
       have hp64f1 : pf1 < 64 := by omega
       have hpu_ : pf1 < u.length := by omega
       have ef12 : decide ((pf1 : Int) < 64) = true := decide_eq_true (by omega)
       have ef13 : decide (pf1 < 64) = true := decide_eq_true hp64f1
       have ef14 : 0 ≤ (pf1 : Int) := by omega
       obtain ⟨zf1, hz_⟩ : ∃ z, u.getD pf1 0 = z := ⟨_, rfl⟩
       have HZf1 := Aside0.mk hz_
       have kuf1 : w2.cell? ⟨wc.heap.size, pf1, none⟩ = some (.int .i64 zf1) := nums_cell HU2.out (by rw [← hz_, List.getElem?_append_left hpu_, List.getD_eq_getElem?_getD, List.getElem?_eq_getElem hpu_]; rfl)
       have kzf1 := blk_frozen HU2.out pf1
       have hput_ := nums_put HU2.out pf1 (wrap64 (zf1 + 1))
       rw [List.set_append_left _ _ hpu_] at hput_
       have HS1 := Aside0.mk hput_
       have HNS1 := Aside0.mk (blk_far (p := ⟨wc.heap.size, pf1, none⟩) HNB2.out (by show wr.heap.size ≠ wc.heap.size; have := HWL.out; omega) (.int .i64 (wrap64 (zf1 + 1))))
       have HAS1 := Aside0.mk (blk_far (p := ⟨wc.heap.size, pf1, none⟩) HAB2.out (by show w.heap.size ≠ wc.heap.size; have := HWA.out; omega) (.int .i64 (wrap64 (zf1 + 1))))
       have HBS1 := Aside0.mk (Below.setCell (p := ⟨wc.heap.size, pf1, none⟩) HB2.out HWC.out (.int .i64 (wrap64 (zf1 + 1))))
       clear hf10 hf11 hpf1 hi_ hl_ hu_ hpu_ hput_ hz_
       have n0_ : (w2.setCell ⟨wc.heap.size, pf1, none⟩ (.int .i64 (wrap64 (zf1 + 1)))).cell? ⟨wr.heap.size, 0, none⟩ = some (.int .i64 10) := by rw [← HK.out]; exact (blk_cell HNS1.out 0).trans rfl
       by_cases hf20 : n.f2 < 0
       ·have m2 : (w2.setCell ⟨wc.heap.size, pf1, none⟩ (.int .i64 (wrap64 (zf1 + 1)))).cell? ⟨wr.heap.size, 2, none⟩ = some (.int .i64 n.f2) := (blk_cell HNS1.out 2).trans rfl
        have d_f20 : decide (n.f2 < 0) = true := decide_eq_true hf20
        have HQ := Aside0.mk hf20
        clear hf20
        go_wp2_with fail
        go_ret
        exact ⟨by rw [← HS.out, HDR.out, formL_stop _ _ _ _ (p := n.f2) (by rw [HPS.out]; simp) (by have := HQ.out; unfold inN; exact decide_eq_false (by omega))]; rfl, HBS1.out⟩
       ·by_cases hf21 : (i : Int) ≤ n.f2
        ·have m2 : (w2.setCell ⟨wc.heap.size, pf1, none⟩ (.int .i64 (wrap64 (zf1 + 1)))).cell? ⟨wr.heap.size, 2, none⟩ = some (.int .i64 n.f2) := (blk_cell HNS1.out 2).trans rfl
         have d_f20 : decide (n.f2 < 0) = false := decide_eq_false hf20
         have d_f21 : decide ((i : Int) ≤ n.f2) = true := decide_eq_true hf21
         have HQ := Aside0.mk hf21
         clear hf20 hf21
         go_wp2_with fail
         go_ret
         exact ⟨by rw [← HS.out, HDR.out, formL_stop _ _ _ _ (p := n.f2) (by rw [HPS.out]; simp) (by have := HQ.out; unfold inN; exact decide_eq_false (by omega))]; rfl, HBS1.out⟩
        ·obtain ⟨pf2, hpf2⟩ : ∃ q : Nat, n.f2 = (q : Int) := ⟨n.f2.toNat, by omega⟩
         have m2 : (w2.setCell ⟨wc.heap.size, pf1, none⟩ (.int .i64 (wrap64 (zf1 + 1)))).cell? ⟨wr.heap.size, 2, none⟩ = some (.int .i64 (pf2 : Int)) := by rw [← hpf2]; exact (blk_cell HNS1.out 2).trans rfl
         have HPf2 := Aside0.mk hpf2
         have HInf2 := Aside0.mk (show inN i n.f2 = true by unfold inN; exact decide_eq_true (by omega))
         have ef20 : decide ((pf2 : Int) < 0) = false := decide_eq_false (by omega)
         have ef21 : decide ((i : Int) ≤ (pf2 : Int)) = false := decide_eq_false (by omega)
         have ef25 : decide (i ≤ pf2) = false := decide_eq_false (by omega)
         have hi_ := HI2.out
         have hl_ := HLEN.out
         have hu_ := HUL.out
         have hp64f2 : pf2 < 64 := by omega
         have hpu_ : pf2 < (u.set pf1 (wrap64 (zf1 + 1))).length := by rw [List.length_set]; omega
         have ef22 : decide ((pf2 : Int) < 64) = true := decide_eq_true (by omega)
         have ef23 : decide (pf2 < 64) = true := decide_eq_true hp64f2
         have ef24 : 0 ≤ (pf2 : Int) := by omega
         obtain ⟨zf2, hz_⟩ : ∃ z, (u.set pf1 (wrap64 (zf1 + 1))).getD pf2 0 = z := ⟨_, rfl⟩
         have HZf2 := Aside0.mk hz_
         have kuf2 : (w2.setCell ⟨wc.heap.size, pf1, none⟩ (.int .i64 (wrap64 (zf1 + 1)))).cell? ⟨wc.heap.size, pf2, none⟩ = some (.int .i64 zf2) := nums_cell HS1.out (by rw [← hz_, List.getElem?_append_left hpu_, List.getD_eq_getElem?_getD, List.getElem?_eq_getElem hpu_]; rfl)
         have kzf2 := blk_frozen HS1.out pf2
         have hput_ := nums_put HS1.out pf2 (wrap64 (zf2 + 1))
         rw [List.set_append_left _ _ hpu_] at hput_
         have HS2 := Aside0.mk hput_
         have HNS2 := Aside0.mk (blk_far (p := ⟨wc.heap.size, pf2, none⟩) HNS1.out (by show wr.heap.size ≠ wc.heap.size; have := HWL.out; omega) (.int .i64 (wrap64 (zf2 + 1))))
         have HAS2 := Aside0.mk (blk_far (p := ⟨wc.heap.size, pf2, none⟩) HAS1.out (by show w.heap.size ≠ wc.heap.size; have := HWA.out; omega) (.int .i64 (wrap64 (zf2 + 1))))
         have HBS2 := Aside0.mk (Below.setCell (p := ⟨wc.heap.size, pf2, none⟩) HBS1.out HWC.out (.int .i64 (wrap64 (zf2 + 1))))
         clear hf20 hf21 hpf2 hi_ hl_ hu_ hpu_ hput_ hz_
         go_wp2_with fail
         try rw [show wrap64 ((i : Int) + 1) = ((i + 1 : Nat) : Int) by have := HI2.out; have := HLEN.out; unfold wrap64; omega]
         go_roundg (ns.length - i - 1)
         case measure => have := HI.out; have := HI2.out; omega
         case rel => exact ⟨i + 1, ((u.set pf1 (wrap64 (zf1 + 1))).set pf2 (wrap64 (zf2 + 1))), rfl, ⟨by have := HI.out; have := HI2.out; omega⟩, ⟨by simp [HUL.out]⟩, ⟨by rw [show ((u.set pf1 (wrap64 (zf1 + 1))).set pf2 (wrap64 (zf2 + 1))) = bump u (partsN n) by rw [HPS.out]; rw [HPf1.out, HPf2.out, ← HZf2.out, ← HZf1.out]; rfl, ← HS.out, HDR.out, formL_step2 _ _ _ _ HRB.out (by rw [HPS.out]; simp only [List.all_cons, List.all_nil, HInf1.out, HInf2.out, Bool.and_true])]⟩, HAS2, HS2, HBS2⟩
    by_cases k11 : n.f0 = 11
    ·have HK := Aside0.mk k11
     clear k11 k10
     have m0 : w2.cell? ⟨wr.heap.size, 0, none⟩ = some (.int .i64 11) := by rw [← HK.out]; exact (blk_cell HNB2.out 0).trans rfl
     have HPS := Aside0.mk (show partsN n = [n.f1, n.f2] by unfold partsN; rw [if_pos (by have := HK.out; omega)])
     by_cases hf10 : n.f1 < 0
     ·have m1 : w2.cell? ⟨wr.heap.size, 1, none⟩ = some (.int .i64 n.f1) := (blk_cell HNB2.out 1).trans rfl
      have d_f10 : decide (n.f1 < 0) = true := decide_eq_true hf10
      have HQ := Aside0.mk hf10
      clear hf10
      go_wp2_with fail
      go_ret
      exact ⟨by rw [← HS.out, HDR.out, formL_stop _ _ _ _ (p := n.f1) (by rw [HPS.out]; simp) (by have := HQ.out; unfold inN; exact decide_eq_false (by omega))]; rfl, HB2.out⟩
     ·by_cases hf11 : (i : Int) ≤ n.f1
      ·have m1 : w2.cell? ⟨wr.heap.size, 1, none⟩ = some (.int .i64 n.f1) := (blk_cell HNB2.out 1).trans rfl
       have d_f10 : decide (n.f1 < 0) = false := decide_eq_false hf10
       have d_f11 : decide ((i : Int) ≤ n.f1) = true := decide_eq_true hf11
       have HQ := Aside0.mk hf11
       clear hf10 hf11
       go_wp2_with fail
       go_ret
       exact ⟨by rw [← HS.out, HDR.out, formL_stop _ _ _ _ (p := n.f1) (by rw [HPS.out]; simp) (by have := HQ.out; unfold inN; exact decide_eq_false (by omega))]; rfl, HB2.out⟩
      ·obtain ⟨pf1, hpf1⟩ : ∃ q : Nat, n.f1 = (q : Int) := ⟨n.f1.toNat, by omega⟩
       have m1 : w2.cell? ⟨wr.heap.size, 1, none⟩ = some (.int .i64 (pf1 : Int)) := by rw [← hpf1]; exact (blk_cell HNB2.out 1).trans rfl
       have HPf1 := Aside0.mk hpf1
       have HInf1 := Aside0.mk (show inN i n.f1 = true by unfold inN; exact decide_eq_true (by omega))
       have ef10 : decide ((pf1 : Int) < 0) = false := decide_eq_false (by omega)
       have ef11 : decide ((i : Int) ≤ (pf1 : Int)) = false := decide_eq_false (by omega)
       have ef15 : decide (i ≤ pf1) = false := decide_eq_false (by omega)
       have hi_ := HI2.out
       have hl_ := HLEN.out
       have hu_ := HUL.out
       have hp64f1 : pf1 < 64 := by omega
       have hpu_ : pf1 < u.length := by omega
       have ef12 : decide ((pf1 : Int) < 64) = true := decide_eq_true (by omega)
       have ef13 : decide (pf1 < 64) = true := decide_eq_true hp64f1
       have ef14 : 0 ≤ (pf1 : Int) := by omega
       obtain ⟨zf1, hz_⟩ : ∃ z, u.getD pf1 0 = z := ⟨_, rfl⟩
       have HZf1 := Aside0.mk hz_
       have kuf1 : w2.cell? ⟨wc.heap.size, pf1, none⟩ = some (.int .i64 zf1) := nums_cell HU2.out (by rw [← hz_, List.getElem?_append_left hpu_, List.getD_eq_getElem?_getD, List.getElem?_eq_getElem hpu_]; rfl)
       have kzf1 := blk_frozen HU2.out pf1
       have hput_ := nums_put HU2.out pf1 (wrap64 (zf1 + 1))
       rw [List.set_append_left _ _ hpu_] at hput_
       have HS1 := Aside0.mk hput_
       have HNS1 := Aside0.mk (blk_far (p := ⟨wc.heap.size, pf1, none⟩) HNB2.out (by show wr.heap.size ≠ wc.heap.size; have := HWL.out; omega) (.int .i64 (wrap64 (zf1 + 1))))
       have HAS1 := Aside0.mk (blk_far (p := ⟨wc.heap.size, pf1, none⟩) HAB2.out (by show w.heap.size ≠ wc.heap.size; have := HWA.out; omega) (.int .i64 (wrap64 (zf1 + 1))))
       have HBS1 := Aside0.mk (Below.setCell (p := ⟨wc.heap.size, pf1, none⟩) HB2.out HWC.out (.int .i64 (wrap64 (zf1 + 1))))
       clear hf10 hf11 hpf1 hi_ hl_ hu_ hpu_ hput_ hz_
       have n0_ : (w2.setCell ⟨wc.heap.size, pf1, none⟩ (.int .i64 (wrap64 (zf1 + 1)))).cell? ⟨wr.heap.size, 0, none⟩ = some (.int .i64 11) := by rw [← HK.out]; exact (blk_cell HNS1.out 0).trans rfl
       by_cases hf20 : n.f2 < 0
       ·have m2 : (w2.setCell ⟨wc.heap.size, pf1, none⟩ (.int .i64 (wrap64 (zf1 + 1)))).cell? ⟨wr.heap.size, 2, none⟩ = some (.int .i64 n.f2) := (blk_cell HNS1.out 2).trans rfl
        have d_f20 : decide (n.f2 < 0) = true := decide_eq_true hf20
        have HQ := Aside0.mk hf20
        clear hf20
        go_wp2_with fail
        go_ret
        exact ⟨by rw [← HS.out, HDR.out, formL_stop _ _ _ _ (p := n.f2) (by rw [HPS.out]; simp) (by have := HQ.out; unfold inN; exact decide_eq_false (by omega))]; rfl, HBS1.out⟩
       ·by_cases hf21 : (i : Int) ≤ n.f2
        ·have m2 : (w2.setCell ⟨wc.heap.size, pf1, none⟩ (.int .i64 (wrap64 (zf1 + 1)))).cell? ⟨wr.heap.size, 2, none⟩ = some (.int .i64 n.f2) := (blk_cell HNS1.out 2).trans rfl
         have d_f20 : decide (n.f2 < 0) = false := decide_eq_false hf20
         have d_f21 : decide ((i : Int) ≤ n.f2) = true := decide_eq_true hf21
         have HQ := Aside0.mk hf21
         clear hf20 hf21
         go_wp2_with fail
         go_ret
         exact ⟨by rw [← HS.out, HDR.out, formL_stop _ _ _ _ (p := n.f2) (by rw [HPS.out]; simp) (by have := HQ.out; unfold inN; exact decide_eq_false (by omega))]; rfl, HBS1.out⟩
        ·obtain ⟨pf2, hpf2⟩ : ∃ q : Nat, n.f2 = (q : Int) := ⟨n.f2.toNat, by omega⟩
         have m2 : (w2.setCell ⟨wc.heap.size, pf1, none⟩ (.int .i64 (wrap64 (zf1 + 1)))).cell? ⟨wr.heap.size, 2, none⟩ = some (.int .i64 (pf2 : Int)) := by rw [← hpf2]; exact (blk_cell HNS1.out 2).trans rfl
         have HPf2 := Aside0.mk hpf2
         have HInf2 := Aside0.mk (show inN i n.f2 = true by unfold inN; exact decide_eq_true (by omega))
         have ef20 : decide ((pf2 : Int) < 0) = false := decide_eq_false (by omega)
         have ef21 : decide ((i : Int) ≤ (pf2 : Int)) = false := decide_eq_false (by omega)
         have ef25 : decide (i ≤ pf2) = false := decide_eq_false (by omega)
         have hi_ := HI2.out
         have hl_ := HLEN.out
         have hu_ := HUL.out
         have hp64f2 : pf2 < 64 := by omega
         have hpu_ : pf2 < (u.set pf1 (wrap64 (zf1 + 1))).length := by rw [List.length_set]; omega
         have ef22 : decide ((pf2 : Int) < 64) = true := decide_eq_true (by omega)
         have ef23 : decide (pf2 < 64) = true := decide_eq_true hp64f2
         have ef24 : 0 ≤ (pf2 : Int) := by omega
         obtain ⟨zf2, hz_⟩ : ∃ z, (u.set pf1 (wrap64 (zf1 + 1))).getD pf2 0 = z := ⟨_, rfl⟩
         have HZf2 := Aside0.mk hz_
         have kuf2 : (w2.setCell ⟨wc.heap.size, pf1, none⟩ (.int .i64 (wrap64 (zf1 + 1)))).cell? ⟨wc.heap.size, pf2, none⟩ = some (.int .i64 zf2) := nums_cell HS1.out (by rw [← hz_, List.getElem?_append_left hpu_, List.getD_eq_getElem?_getD, List.getElem?_eq_getElem hpu_]; rfl)
         have kzf2 := blk_frozen HS1.out pf2
         have hput_ := nums_put HS1.out pf2 (wrap64 (zf2 + 1))
         rw [List.set_append_left _ _ hpu_] at hput_
         have HS2 := Aside0.mk hput_
         have HNS2 := Aside0.mk (blk_far (p := ⟨wc.heap.size, pf2, none⟩) HNS1.out (by show wr.heap.size ≠ wc.heap.size; have := HWL.out; omega) (.int .i64 (wrap64 (zf2 + 1))))
         have HAS2 := Aside0.mk (blk_far (p := ⟨wc.heap.size, pf2, none⟩) HAS1.out (by show w.heap.size ≠ wc.heap.size; have := HWA.out; omega) (.int .i64 (wrap64 (zf2 + 1))))
         have HBS2 := Aside0.mk (Below.setCell (p := ⟨wc.heap.size, pf2, none⟩) HBS1.out HWC.out (.int .i64 (wrap64 (zf2 + 1))))
         clear hf20 hf21 hpf2 hi_ hl_ hu_ hpu_ hput_ hz_
         go_wp2_with fail
         try rw [show wrap64 ((i : Int) + 1) = ((i + 1 : Nat) : Int) by have := HI2.out; have := HLEN.out; unfold wrap64; omega]
         go_roundg (ns.length - i - 1)
         case measure => have := HI.out; have := HI2.out; omega
         case rel => exact ⟨i + 1, ((u.set pf1 (wrap64 (zf1 + 1))).set pf2 (wrap64 (zf2 + 1))), rfl, ⟨by have := HI.out; have := HI2.out; omega⟩, ⟨by simp [HUL.out]⟩, ⟨by rw [show ((u.set pf1 (wrap64 (zf1 + 1))).set pf2 (wrap64 (zf2 + 1))) = bump u (partsN n) by rw [HPS.out]; rw [HPf1.out, HPf2.out, ← HZf2.out, ← HZf1.out]; rfl, ← HS.out, HDR.out, formL_step2 _ _ _ _ HRB.out (by rw [HPS.out]; simp only [List.all_cons, List.all_nil, HInf1.out, HInf2.out, Bool.and_true])]⟩, HAS2, HS2, HBS2⟩
    by_cases k12 : n.f0 = 12
    ·have HK := Aside0.mk k12
     clear k12 k10 k11
     have m0 : w2.cell? ⟨wr.heap.size, 0, none⟩ = some (.int .i64 12) := by rw [← HK.out]; exact (blk_cell HNB2.out 0).trans rfl
     have HPS := Aside0.mk (show partsN n = [n.f1] by unfold partsN; rw [if_neg (by have := HK.out; omega), if_pos HK.out])
     by_cases hf10 : n.f1 < 0
     ·have m1 : w2.cell? ⟨wr.heap.size, 1, none⟩ = some (.int .i64 n.f1) := (blk_cell HNB2.out 1).trans rfl
      have d_f10 : decide (n.f1 < 0) = true := decide_eq_true hf10
      have HQ := Aside0.mk hf10
      clear hf10
      go_wp2_with fail
      go_ret
      exact ⟨by rw [← HS.out, HDR.out, formL_stop _ _ _ _ (p := n.f1) (by rw [HPS.out]; simp) (by have := HQ.out; unfold inN; exact decide_eq_false (by omega))]; rfl, HB2.out⟩
     ·by_cases hf11 : (i : Int) ≤ n.f1
      ·have m1 : w2.cell? ⟨wr.heap.size, 1, none⟩ = some (.int .i64 n.f1) := (blk_cell HNB2.out 1).trans rfl
       have d_f10 : decide (n.f1 < 0) = false := decide_eq_false hf10
       have d_f11 : decide ((i : Int) ≤ n.f1) = true := decide_eq_true hf11
       have HQ := Aside0.mk hf11
       clear hf10 hf11
       go_wp2_with fail
       go_ret
       exact ⟨by rw [← HS.out, HDR.out, formL_stop _ _ _ _ (p := n.f1) (by rw [HPS.out]; simp) (by have := HQ.out; unfold inN; exact decide_eq_false (by omega))]; rfl, HB2.out⟩
      ·obtain ⟨pf1, hpf1⟩ : ∃ q : Nat, n.f1 = (q : Int) := ⟨n.f1.toNat, by omega⟩
       have m1 : w2.cell? ⟨wr.heap.size, 1, none⟩ = some (.int .i64 (pf1 : Int)) := by rw [← hpf1]; exact (blk_cell HNB2.out 1).trans rfl
       have HPf1 := Aside0.mk hpf1
       have HInf1 := Aside0.mk (show inN i n.f1 = true by unfold inN; exact decide_eq_true (by omega))
       have ef10 : decide ((pf1 : Int) < 0) = false := decide_eq_false (by omega)
       have ef11 : decide ((i : Int) ≤ (pf1 : Int)) = false := decide_eq_false (by omega)
       have ef15 : decide (i ≤ pf1) = false := decide_eq_false (by omega)
       have hi_ := HI2.out
       have hl_ := HLEN.out
       have hu_ := HUL.out
       have hp64f1 : pf1 < 64 := by omega
       have hpu_ : pf1 < u.length := by omega
       have ef12 : decide ((pf1 : Int) < 64) = true := decide_eq_true (by omega)
       have ef13 : decide (pf1 < 64) = true := decide_eq_true hp64f1
       have ef14 : 0 ≤ (pf1 : Int) := by omega
       obtain ⟨zf1, hz_⟩ : ∃ z, u.getD pf1 0 = z := ⟨_, rfl⟩
       have HZf1 := Aside0.mk hz_
       have kuf1 : w2.cell? ⟨wc.heap.size, pf1, none⟩ = some (.int .i64 zf1) := nums_cell HU2.out (by rw [← hz_, List.getElem?_append_left hpu_, List.getD_eq_getElem?_getD, List.getElem?_eq_getElem hpu_]; rfl)
       have kzf1 := blk_frozen HU2.out pf1
       have hput_ := nums_put HU2.out pf1 (wrap64 (zf1 + 1))
       rw [List.set_append_left _ _ hpu_] at hput_
       have HS1 := Aside0.mk hput_
       have HNS1 := Aside0.mk (blk_far (p := ⟨wc.heap.size, pf1, none⟩) HNB2.out (by show wr.heap.size ≠ wc.heap.size; have := HWL.out; omega) (.int .i64 (wrap64 (zf1 + 1))))
       have HAS1 := Aside0.mk (blk_far (p := ⟨wc.heap.size, pf1, none⟩) HAB2.out (by show w.heap.size ≠ wc.heap.size; have := HWA.out; omega) (.int .i64 (wrap64 (zf1 + 1))))
       have HBS1 := Aside0.mk (Below.setCell (p := ⟨wc.heap.size, pf1, none⟩) HB2.out HWC.out (.int .i64 (wrap64 (zf1 + 1))))
       clear hf10 hf11 hpf1 hi_ hl_ hu_ hpu_ hput_ hz_
       have n0_ : (w2.setCell ⟨wc.heap.size, pf1, none⟩ (.int .i64 (wrap64 (zf1 + 1)))).cell? ⟨wr.heap.size, 0, none⟩ = some (.int .i64 12) := by rw [← HK.out]; exact (blk_cell HNS1.out 0).trans rfl
       go_wp2_with fail
       try rw [show wrap64 ((i : Int) + 1) = ((i + 1 : Nat) : Int) by have := HI2.out; have := HLEN.out; unfold wrap64; omega]
       go_roundg (ns.length - i - 1)
       case measure => have := HI.out; have := HI2.out; omega
       case rel => exact ⟨i + 1, (u.set pf1 (wrap64 (zf1 + 1))), rfl, ⟨by have := HI.out; have := HI2.out; omega⟩, ⟨by simp [HUL.out]⟩, ⟨by rw [show (u.set pf1 (wrap64 (zf1 + 1))) = bump u (partsN n) by rw [HPS.out]; rw [HPf1.out, ← HZf1.out]; rfl, ← HS.out, HDR.out, formL_step2 _ _ _ _ HRB.out (by rw [HPS.out]; simp only [List.all_cons, List.all_nil, HInf1.out, Bool.and_true])]⟩, HAS1, HS1, HBS1⟩
    have m0 : w2.cell? ⟨wr.heap.size, 0, none⟩ = some (.int .i64 n.f0) := (blk_cell HNB2.out 0).trans rfl
    have HPS := Aside0.mk (show partsN n = [] by unfold partsN; rw [if_neg (by omega), if_neg k12])
    have dk : decide (10 ≤ n.f0) = false := decide_eq_false (by have := right_lt HRB.out k10 k11 k12; omega)
    have dk10 : (n.f0 == 10) = false := beq_eq_false_iff_ne.2 k10
    have dk11 : (n.f0 == 11) = false := beq_eq_false_iff_ne.2 k11
    clear k10 k11 k12
    go_wp2_with fail
    try rw [show wrap64 ((i : Int) + 1) = ((i + 1 : Nat) : Int) by have := HI2.out; have := HLEN.out; unfold wrap64; omega]
    go_roundg (ns.length - i - 1)
    case measure => have := HI.out; have := HI2.out; omega
    case rel => exact ⟨i + 1, u, rfl, ⟨by have := HI.out; have := HI2.out; omega⟩, ⟨by exact HUL.out⟩, ⟨by rw [show u = bump u (partsN n) by rw [HPS.out]; rfl, ← HS.out, HDR.out, formL_step2 _ _ _ _ HRB.out (by rw [HPS.out]; rfl)]⟩, HAB2, HU2, HB2⟩
  ·have hie : i = ns.length := by have := HI.out; omega
   have d3 : decide ((i : Int) < (ns.length : Int)) = false := decide_eq_false (by omega)
   have d4 : decide (i < ns.length) = false := decide_eq_false (by omega)
   have HSu := Aside0.mk (show onesB u = r by have h_ := HS.out; rw [hie, List.drop_length] at h_; exact h_)
   clear hie hi HS
   go_wp2_with fail
   go_loopg [7] ns.length (fun kq v7 wq => ∃ (j : Nat), v7 = .int .i64 (j : Int) ∧ Aside0 (kq + j = ns.length) ∧ wq = wr ∧ Aside0 (∀ q, q < j → u.getD q 0 = 1))
   case atStart => exact ⟨0, rfl, ⟨rfl⟩, rfl, ⟨fun q hq => by omega⟩⟩
   case round =>
    obtain ⟨j, rfl, HJ, rfl, HON⟩ := hrel
    have hlen_ := HLEN.out
    by_cases hj : j < ns.length - 1
    ·have d5 : decide ((j : Int) < wrap64 ((ns.length : Int) - 1)) = true := decide_eq_true (by unfold wrap64; omega)
     have hul_ := HUL.out
     have hju_ : j < u.length := by omega
     obtain ⟨z, hz⟩ : ∃ z, u.getD j 0 = z := ⟨_, rfl⟩
     have kj : wr.cell? ⟨wc.heap.size, j, none⟩ = some (.int .i64 z) := nums_cell HU.out (by rw [← hz, List.getElem?_append_left hju_, List.getD_eq_getElem?_getD, List.getElem?_eq_getElem hju_]; rfl)
     have hj64 : j < 64 := by omega
     have f2 : decide ((j : Int) < 64) = true := decide_eq_true (by omega)
     have f3 : decide (j < 64) = true := decide_eq_true hj64
     have f4 : 0 ≤ (j : Int) := by omega
     have HZ := Aside0.mk hz
     have HJ2 := Aside0.mk hj
     clear hz hj hlen_ hul_
     by_cases hz1 : z = 1
     ·have g1 : (z == 1) = true := beq_iff_eq.2 hz1
      have g2 : (z != 1) = false := by rw [bne, g1]; rfl
      have HZ1 := Aside0.mk hz1
      clear hz1 hju_
      go_wp2_with fail
      try rw [show wrap64 ((j : Int) + 1) = ((j + 1 : Nat) : Int) by have := HJ2.out; have := HLEN.out; unfold wrap64; omega]
      go_roundg (ns.length - j - 1)
      case measure => have := HJ.out; have := HJ2.out; omega
      case rel =>
       refine ⟨j + 1, rfl, ⟨by have := HJ.out; have := HJ2.out; omega⟩, rfl, ⟨fun q hq => ?_⟩⟩
       rcases Nat.lt_or_ge q j with h_ | h_
       ·exact HON.out q h_
       ·obtain rfl : q = j := by omega
        rw [HZ.out, HZ1.out]
     ·have g1 : (z == 1) = false := beq_eq_false_iff_ne.2 hz1
      have g2 : (z != 1) = true := by rw [bne, g1]; rfl
      have HZ1 := Aside0.mk hz1
      clear hz1
      go_wp2_with fail
      go_ret
      refine ⟨?_, HB.out⟩
      rw [← HSu.out, ones_no (by have := HJ2.out; have := HUL.out; omega) HZ.out HZ1.out]; rfl
    ·have d5 : decide ((j : Int) < wrap64 ((ns.length : Int) - 1)) = false := decide_eq_false (by unfold wrap64; omega)
     have HJE := Aside0.mk (show ns.length - 1 ≤ j by omega)
     clear hlen_
     go_wp2_with fail
     go_ret
     refine ⟨?_, HB.out⟩
     rw [← HSu.out, ones_yes (fun q hq => HON.out q (by have := HJE.out; have := HUL.out; omega))]; rfl
noncomputable def fstSeq : Code → Code
 | .seq a _ => a
 | c => c
noncomputable def rf14A : Code := fstSeq rf14C
noncomputable def rf16A : Code := fstSeq rf16C
theorem rf14_eq : rf14C = Code.seq rf14A rf16C := by kernel_rfl
theorem rf16_eq : rf16C = Code.seq rf16A rf18C := by kernel_rfl
theorem rf16 (A : Option Addr) (c : Nat) (ns : List ND) (k : Int) (ky : ByteArray) (wd sk mo : Int) (w : World) (r : Bool) (q1 : ByteArray) (q2 q3 q4 : Int) (wc : World) (HR : Aside0 (formedB ns k ky wd sk mo = r)) (HXQ : Aside0 (xOf k ky wd sk mo (q1, q2, q3, q4))) (HBAD : Aside0 (false = !pass14 ns.length k ky wd sk mo q1 q2 q3 q4)) (HC : Aside0 (Kd.C k37 w A ns.length ns)) (hc : ns.length ≤ c) (H4 : Aside0 (∀ n ∈ ns, n.f4.length ≤ 1099511627776)) (H5 : Aside0 (∀ n ∈ ns, n.f5.size ≤ 9223372036854775807)) (HKY : Aside0 (ky.size ≤ 9223372036854775807)) (HAB : Aside0 (wc.heap[w.heap.size]? = some (.cells #[.slice A ns.length c, .int .i64 k, .string ky, .int .i64 wd, .int .i64 sk, .int .i64 mo] 24 (0, 0)))) (HB : Aside0 (Below w.heap.size w wc)) (u0 u2 u3 u4 u5 u6 u7 u8 u9 u10 u11 u12 u13 u14 u15 u16 u17 u18 u19 u20 u21 u22 u23 u24 u25 u26 u27 u28 u29 u30 u31 u32 u33 u34 u35 u36 u37 u38 u39 u40 u41 u42 u43 u44 u45 u46 u47 u48 u49 u50 u51 u52 u53 u54 u55 u56 u57 u58 u59 u60 u61 u62 u63 u64 u65 u66 u67 u68 u69 u70 u71 u72 u73 u74 u75 u76 u77 u78 u79 u80 u81 u82 u83 u84 u85 u86 u87 u88 u89 u90 u91 u92 u93 u94 u95 u96 u97 u98 u99 u100 u101 u102 u103 u104 u105 u106 u107 u108 u109 u110 u111 u112 u113 u114 u115 u116 u117 u118 u119 u120 u121 u122 u123 u124 u125 u126 u127 u128 u129 u130 u131 u132 u133 u134 u135 u136 u137 u138 u139 u140 u141 u142 u143 u144 u145 u146 u147 u148 u149 u150 u151 u152 u153 u154 u155 u156 u157 u158 u159 u160 u161 u162 u163 u164 u165 u166 u167 u168 u169 u170 u171 u172 u173 u174 u175 u176 u177 u178 u179 u180 u181 : Value) :
  Code.wp Tryz.prog rf16C (bodyPost Tryz.prog Tryz.f16 (fun e w' => e = .returned (.bool r) ∧ Below w.heap.size w w')) ⟨List.toArray (u0 :: .pointer (some ⟨w.heap.size, 0, none⟩) :: u2 :: u3 :: u4 :: u5 :: u6 :: u7 :: u8 :: u9 :: u10 :: u11 :: u12 :: u13 :: u14 :: u15 :: u16 :: u17 :: u18 :: u19 :: u20 :: u21 :: u22 :: u23 :: u24 :: u25 :: u26 :: u27 :: u28 :: u29 :: u30 :: u31 :: u32 :: u33 :: u34 :: u35 :: u36 :: u37 :: u38 :: u39 :: u40 :: u41 :: u42 :: u43 :: u44 :: u45 :: u46 :: u47 :: u48 :: u49 :: u50 :: u51 :: u52 :: u53 :: u54 :: u55 :: u56 :: u57 :: u58 :: u59 :: u60 :: u61 :: u62 :: u63 :: u64 :: u65 :: u66 :: u67 :: u68 :: u69 :: u70 :: u71 :: u72 :: u73 :: u74 :: u75 :: u76 :: u77 :: u78 :: u79 :: u80 :: u81 :: u82 :: u83 :: u84 :: u85 :: u86 :: u87 :: u88 :: u89 :: u90 :: u91 :: u92 :: u93 :: u94 :: u95 :: u96 :: u97 :: u98 :: u99 :: u100 :: u101 :: u102 :: u103 :: u104 :: u105 :: u106 :: u107 :: u108 :: u109 :: u110 :: u111 :: u112 :: u113 :: u114 :: u115 :: u116 :: u117 :: u118 :: u119 :: u120 :: u121 :: u122 :: u123 :: u124 :: u125 :: u126 :: u127 :: u128 :: u129 :: u130 :: u131 :: u132 :: u133 :: u134 :: u135 :: u136 :: u137 :: u138 :: u139 :: u140 :: u141 :: u142 :: u143 :: u144 :: u145 :: u146 :: u147 :: u148 :: u149 :: u150 :: u151 :: u152 :: u153 :: u154 :: u155 :: u156 :: u157 :: u158 :: u159 :: u160 :: u161 :: u162 :: u163 :: u164 :: u165 :: u166 :: u167 :: u168 :: u169 :: u170 :: u171 :: u172 :: u173 :: u174 :: u175 :: u176 :: u177 :: u178 :: u179 :: u180 :: u181 :: []), []⟩ wc := by
 rw [rf16_eq]
 refine wp_seq_k (fun K hK => ?_)
 conv => arg 2; whnf
 obtain ⟨kb, hkb⟩ : ∃ kb, Pure.keyB ky = kb := ⟨_, rfl⟩
 obtain ⟨kk, hkk⟩ := Pure.refKey_ev ky HKY.out
 have HKK := Aside0.mk (fun W => dragnetref08_IsKey.calls kk ky _ W (hkk kk (Nat.le_refl _)))
 rw [hkb] at HKK
 have HKB := Aside0.mk hkb
 clear hkb hkk
 have hA_ := HAB.out
 have a0 : wc.cell? ⟨w.heap.size, 0, none⟩ = some (.slice A ns.length c) := (blk_cell hA_ 0).trans rfl
 have a1 : wc.cell? ⟨w.heap.size, 1, none⟩ = some (.int .i64 k) := (blk_cell hA_ 1).trans rfl
 have a2 : wc.cell? ⟨w.heap.size, 2, none⟩ = some (.string ky) := (blk_cell hA_ 2).trans rfl
 have a3 : wc.cell? ⟨w.heap.size, 3, none⟩ = some (.int .i64 wd) := (blk_cell hA_ 3).trans rfl
 have a4 : wc.cell? ⟨w.heap.size, 4, none⟩ = some (.int .i64 sk) := (blk_cell hA_ 4).trans rfl
 have a5 : wc.cell? ⟨w.heap.size, 5, none⟩ = some (.int .i64 mo) := (blk_cell hA_ 5).trans rfl
 clear hA_
 go_upto_region 16 with fail
 go_cut [113] (fun s113 wx => ∃ bad : Bool, s113 = .bool bad ∧ Aside0 (bad = !pass16 k ky wd) ∧ Aside0 (wx.heap[w.heap.size]? = some (.cells #[.slice A ns.length c, .int .i64 k, .string ky, .int .i64 wd, .int .i64 sk, .int .i64 mo] 24 (0, 0))) ∧ Aside0 (Below w.heap.size w wx))
 case first =>
  by_cases k3 : k = 3
  ·have e3 : (k == 3) = true := beq_iff_eq.2 k3
   have HKQ := Aside0.mk k3
   have e5 : decide (5 ≤ k) = false := decide_eq_false (by omega)
   clear k3
   cases kb
   ·skip
    go_wp2_with fail
    refine (HKK.out wc).mono ?_
    rintro e w4 ⟨rfl, ⟨⟨nd, rfl⟩⟩⟩
    have HB4 := Aside0.mk (pw_below_drewN HB.out nd)
    have HAB4 := Aside0.mk (show (wc.drewN nd).heap[w.heap.size]? = some (.cells #[.slice A ns.length c, .int .i64 k, .string ky, .int .i64 wd, .int .i64 sk, .int .i64 mo] 24 (0, 0)) from HAB.out)
    go_wp2_with fail
    go_meet
    exact ⟨true, rfl, ⟨by exact p16_key (by have := HKQ.out; omega) HKB.out⟩, HAB4, HB4⟩
   ·skip
    go_wp2_with fail
    refine (HKK.out wc).mono ?_
    rintro e w4 ⟨rfl, ⟨⟨nd, rfl⟩⟩⟩
    have HB4 := Aside0.mk (pw_below_drewN HB.out nd)
    have HAB4 := Aside0.mk (show (wc.drewN nd).heap[w.heap.size]? = some (.cells #[.slice A ns.length c, .int .i64 k, .string ky, .int .i64 wd, .int .i64 sk, .int .i64 mo] 24 (0, 0)) from HAB.out)
    go_wp2_with fail
    go_meet
    exact ⟨false, rfl, ⟨by exact p16_key (by have := HKQ.out; omega) HKB.out⟩, HAB4, HB4⟩
  have e3 : (k == 3) = false := beq_eq_false_iff_ne.2 k3
  by_cases k4 : k = 4
  ·have e4 : (k == 4) = true := beq_iff_eq.2 k4
   have HKQ := Aside0.mk k4
   have e5 : decide (5 ≤ k) = false := decide_eq_false (by omega)
   have e3 := e3
   clear k4
   clear k3
   cases kb
   ·skip
    go_wp2_with fail
    refine (HKK.out wc).mono ?_
    rintro e w4 ⟨rfl, ⟨⟨nd, rfl⟩⟩⟩
    have HB4 := Aside0.mk (pw_below_drewN HB.out nd)
    have HAB4 := Aside0.mk (show (wc.drewN nd).heap[w.heap.size]? = some (.cells #[.slice A ns.length c, .int .i64 k, .string ky, .int .i64 wd, .int .i64 sk, .int .i64 mo] 24 (0, 0)) from HAB.out)
    go_wp2_with fail
    go_meet
    exact ⟨true, rfl, ⟨by exact p16_key (by have := HKQ.out; omega) HKB.out⟩, HAB4, HB4⟩
   ·skip
    go_wp2_with fail
    refine (HKK.out wc).mono ?_
    rintro e w4 ⟨rfl, ⟨⟨nd, rfl⟩⟩⟩
    have HB4 := Aside0.mk (pw_below_drewN HB.out nd)
    have HAB4 := Aside0.mk (show (wc.drewN nd).heap[w.heap.size]? = some (.cells #[.slice A ns.length c, .int .i64 k, .string ky, .int .i64 wd, .int .i64 sk, .int .i64 mo] 24 (0, 0)) from HAB.out)
    go_wp2_with fail
    go_meet
    exact ⟨false, rfl, ⟨by exact p16_key (by have := HKQ.out; omega) HKB.out⟩, HAB4, HB4⟩
  have e4 : (k == 4) = false := beq_eq_false_iff_ne.2 k4
  by_cases k5 : 5 ≤ k
  ·have e5 : decide (5 ≤ k) = true := decide_eq_true k5
   by_cases w1 : wd < 1
   ·have e6 : decide (wd < 1) = true := decide_eq_true w1
    have Hk3 := Aside0.mk k3
    have Hk4 := Aside0.mk k4
    have Hk5 := Aside0.mk k5
    have Hw1 := Aside0.mk w1
    clear k3 k4 k5 w1
    go_wp2_with fail
    go_meet
    exact ⟨true, rfl, ⟨by rw [← p16_wd (by have := Hk3.out; have := Hk4.out; omega) (by have := Hk5.out; omega), decide_eq_true (show wd < 1 by have := Hw1.out; omega)]⟩, HAB, HB⟩
   ·have e6 : decide (wd < 1) = false := decide_eq_false w1
    have Hk3 := Aside0.mk k3
    have Hk4 := Aside0.mk k4
    have Hk5 := Aside0.mk k5
    have Hw1 := Aside0.mk w1
    clear k3 k4 k5 w1
    go_wp2_with fail
    go_meet
    exact ⟨false, rfl, ⟨by rw [← p16_wd (by have := Hk3.out; have := Hk4.out; omega) (by have := Hk5.out; omega), decide_eq_false (show ¬ wd < 1 by have := Hw1.out; omega)]⟩, HAB, HB⟩
  ·have e5 : decide (5 ≤ k) = false := decide_eq_false k5
   have Hk3 := Aside0.mk k3
   have Hk4 := Aside0.mk k4
   have Hk5 := Aside0.mk k5
   clear k3 k4 k5
   go_wp2_with fail
   go_meet
   exact ⟨false, rfl, ⟨by exact p16_no (by have := Hk3.out; have := Hk4.out; omega) (by have := Hk5.out; omega)⟩, HAB, HB⟩
 case rest =>
  clear a0 a1 a2 a3 a4 a5
  clear HAB HB
  obtain ⟨bad, rfl, HBAD2, HAB, HB⟩ := hcut
  cases bad
  rotate_left
  ·have HF := Aside0.mk (form_no16 (ns := ns) HXQ.out HBAD2.out)
   go_wp2_with fail
   go_ret
   exact ⟨by rw [← HR.out, HF.out]; rfl, HB.out⟩
  go_wp2_with fail
  exact rf18 A c ns k ky wd sk mo w r wc ⟨by rw [← form_yes (ns := ns) HXQ.out HBAD.out HBAD2.out]; exact HR.out⟩ ⟨form_len HBAD.out⟩ HC hc H4 H5 HAB HB _ _ _ _ _ _ _ _ _ _ _ _ _ _ _ _ _ _ _ _ _ _ _ _ _ _ _ _ _ _ _ _ _ _ _ _ _ _ _ _ _ _ _ _ _ _ _ _ _ _ _ _ _ _ _ _ _ _ _ _ _ _ _ _ _ _ _ _ _ _ _ _ _ _ _ _ _ _ _ _ _ _ _ _ _ _ _ _ _ _ _ _ _ _ _ _ _ _ _ _ _ _ _ _ _ _ _ _ _ _ _ _ _ _ _ _ _ _ _ _ _ _ _ _ _ _ _ _ _ _ _ _ _ _ _ _ _ _ _ _ _ _ _ _ _ _ _ _ _ _ _ _ _ _ _ _ _ _ _ _ _ _ _ _ _ _ _ _ _ _ _ _ _ _ _ _ _ _ _ _ _
theorem rf14 (A : Option Addr) (c : Nat) (ns : List ND) (k : Int) (ky : ByteArray) (wd sk mo : Int) (w : World) (r : Bool) (q1 : ByteArray) (q2 q3 q4 : Int) (wc : World) (hN : ns.length ≤ 1099511627776) (HR : Aside0 (formedB ns k ky wd sk mo = r)) (HXQ : Aside0 (xOf k ky wd sk mo (q1, q2, q3, q4))) (HC : Aside0 (Kd.C k37 w A ns.length ns)) (hc : ns.length ≤ c) (H4 : Aside0 (∀ n ∈ ns, n.f4.length ≤ 1099511627776)) (H5 : Aside0 (∀ n ∈ ns, n.f5.size ≤ 9223372036854775807)) (HKY : Aside0 (ky.size ≤ 9223372036854775807)) (HAB : Aside0 (wc.heap[w.heap.size]? = some (.cells #[.slice A ns.length c, .int .i64 k, .string ky, .int .i64 wd, .int .i64 sk, .int .i64 mo] 24 (0, 0)))) (HXB : Aside0 (wc.heap[w.heap.size + 1]? = some (.cells #[.slice A ns.length c, .int .i64 k, .string q1, .int .i64 q2, .int .i64 q3, .int .i64 q4] 24 (0, 0)))) (HB : Aside0 (Below w.heap.size w wc)) (u0 u2 u4 u5 u6 u7 u8 u9 u10 u11 u12 u13 u14 u15 u16 u17 u18 u19 u20 u21 u22 u23 u24 u25 u26 u27 u28 u29 u30 u31 u32 u33 u34 u35 u36 u37 u38 u39 u40 u41 u42 u43 u44 u45 u46 u47 u48 u49 u50 u51 u52 u53 u54 u55 u56 u57 u58 u59 u60 u61 u62 u63 u64 u65 u66 u67 u68 u69 u70 u71 u72 u73 u74 u75 u76 u77 u78 u79 u80 u81 u82 u83 u84 u85 u86 u87 u88 u89 u90 u91 u92 u93 u94 u95 u96 u97 u98 u99 u100 u101 u102 u103 u104 u105 u106 u107 u108 u109 u110 u111 u112 u113 u114 u115 u116 u117 u118 u119 u120 u121 u122 u123 u124 u125 u126 u127 u128 u129 u130 u131 u132 u133 u134 u135 u136 u137 u138 u139 u140 u141 u142 u143 u144 u145 u146 u147 u148 u149 u150 u151 u152 u153 u154 u155 u156 u157 u158 u159 u160 u161 u162 u163 u164 u165 u166 u167 u168 u169 u170 u171 u172 u173 u174 u175 u176 u177 u178 u179 u180 u181 : Value) :
  Code.wp Tryz.prog rf14C (bodyPost Tryz.prog Tryz.f16 (fun e w' => e = .returned (.bool r) ∧ Below w.heap.size w w')) ⟨List.toArray (u0 :: .pointer (some ⟨w.heap.size, 0, none⟩) :: u2 :: .pointer (some ⟨w.heap.size + 1, 0, none⟩) :: u4 :: u5 :: u6 :: u7 :: u8 :: u9 :: u10 :: u11 :: u12 :: u13 :: u14 :: u15 :: u16 :: u17 :: u18 :: u19 :: u20 :: u21 :: u22 :: u23 :: u24 :: u25 :: u26 :: u27 :: u28 :: u29 :: u30 :: u31 :: u32 :: u33 :: u34 :: u35 :: u36 :: u37 :: u38 :: u39 :: u40 :: u41 :: u42 :: u43 :: u44 :: u45 :: u46 :: u47 :: u48 :: u49 :: u50 :: u51 :: u52 :: u53 :: u54 :: u55 :: u56 :: u57 :: u58 :: u59 :: u60 :: u61 :: u62 :: u63 :: u64 :: u65 :: u66 :: u67 :: u68 :: u69 :: u70 :: u71 :: u72 :: u73 :: u74 :: u75 :: u76 :: u77 :: u78 :: u79 :: u80 :: u81 :: u82 :: u83 :: u84 :: u85 :: u86 :: u87 :: u88 :: u89 :: u90 :: u91 :: u92 :: u93 :: u94 :: u95 :: u96 :: u97 :: u98 :: u99 :: u100 :: u101 :: u102 :: u103 :: u104 :: u105 :: u106 :: u107 :: u108 :: u109 :: u110 :: u111 :: u112 :: u113 :: u114 :: u115 :: u116 :: u117 :: u118 :: u119 :: u120 :: u121 :: u122 :: u123 :: u124 :: u125 :: u126 :: u127 :: u128 :: u129 :: u130 :: u131 :: u132 :: u133 :: u134 :: u135 :: u136 :: u137 :: u138 :: u139 :: u140 :: u141 :: u142 :: u143 :: u144 :: u145 :: u146 :: u147 :: u148 :: u149 :: u150 :: u151 :: u152 :: u153 :: u154 :: u155 :: u156 :: u157 :: u158 :: u159 :: u160 :: u161 :: u162 :: u163 :: u164 :: u165 :: u166 :: u167 :: u168 :: u169 :: u170 :: u171 :: u172 :: u173 :: u174 :: u175 :: u176 :: u177 :: u178 :: u179 :: u180 :: u181 :: []), []⟩ wc := by
 rw [rf14_eq]
 refine wp_seq_k (fun K hK => ?_)
 conv => arg 2; whnf
 have HSM := Aside0.mk (fun (W : World) (hW : Below w.heap.size w W) => askSame_calls A c A c ns hN H4.out k ky wd sk mo k q1 q2 q3 q4 W (Kd.C_below HC.out hW) hc (Kd.C_below HC.out hW) hc)
 simp only [true_and] at HSM
 obtain ⟨sb, hsb⟩ : ∃ sb, decide (ky = q1 ∧ wd = q2 ∧ sk = q3 ∧ mo = q4) = sb := ⟨_, rfl⟩
 rw [hsb] at HSM
 have HSB := Aside0.mk hsb
 clear hsb
 have hA_ := HAB.out
 have hX_ := HXB.out
 have a0 : wc.cell? ⟨w.heap.size, 0, none⟩ = some (.slice A ns.length c) := (blk_cell hA_ 0).trans rfl
 have a1 : wc.cell? ⟨w.heap.size, 1, none⟩ = some (.int .i64 k) := (blk_cell hA_ 1).trans rfl
 have a2 : wc.cell? ⟨w.heap.size, 2, none⟩ = some (.string ky) := (blk_cell hA_ 2).trans rfl
 have a3 : wc.cell? ⟨w.heap.size, 3, none⟩ = some (.int .i64 wd) := (blk_cell hA_ 3).trans rfl
 have a4 : wc.cell? ⟨w.heap.size, 4, none⟩ = some (.int .i64 sk) := (blk_cell hA_ 4).trans rfl
 have a5 : wc.cell? ⟨w.heap.size, 5, none⟩ = some (.int .i64 mo) := (blk_cell hA_ 5).trans rfl
 have x0 : wc.cell? ⟨w.heap.size + 1, 0, none⟩ = some (.slice A ns.length c) := (blk_cell hX_ 0).trans rfl
 have x1 : wc.cell? ⟨w.heap.size + 1, 1, none⟩ = some (.int .i64 k) := (blk_cell hX_ 1).trans rfl
 have x2 : wc.cell? ⟨w.heap.size + 1, 2, none⟩ = some (.string q1) := (blk_cell hX_ 2).trans rfl
 have x3 : wc.cell? ⟨w.heap.size + 1, 3, none⟩ = some (.int .i64 q2) := (blk_cell hX_ 3).trans rfl
 have x4 : wc.cell? ⟨w.heap.size + 1, 4, none⟩ = some (.int .i64 q3) := (blk_cell hX_ 4).trans rfl
 have x5 : wc.cell? ⟨w.heap.size + 1, 5, none⟩ = some (.int .i64 q4) := (blk_cell hX_ 5).trans rfl
 clear hA_ hX_
 go_upto_region 14 with fail
 go_cut [89] (fun s89 wx => ∃ bad : Bool, s89 = .bool bad ∧ Aside0 (bad = !pass14 ns.length k ky wd sk mo q1 q2 q3 q4) ∧ Aside0 (wx.heap[w.heap.size]? = some (.cells #[.slice A ns.length c, .int .i64 k, .string ky, .int .i64 wd, .int .i64 sk, .int .i64 mo] 24 (0, 0))) ∧ Aside0 (wx.heap[w.heap.size + 1]? = some (.cells #[.slice A ns.length c, .int .i64 k, .string q1, .int .i64 q2, .int .i64 q3, .int .i64 q4] 24 (0, 0))) ∧ Aside0 (Below w.heap.size w wx))
 case first =>
  by_cases g0 : ns.length < 1
  ·have d0 : decide ((ns.length : Int) < 1) = true := decide_eq_true (by omega)
   have Hg0 := Aside0.mk g0
   clear g0
   go_wp2_with fail
   go_meet
   exact ⟨true, rfl, ⟨by exact p14_len (by have := Hg0.out; omega)⟩, HAB, HXB, HB⟩
  ·have d0 : decide ((ns.length : Int) < 1) = false := decide_eq_false (by omega)
   by_cases g1 : 64 < ns.length
   ·have d1 : decide ((64 : Int) < (ns.length : Int)) = true := decide_eq_true (by omega)
    have Hg0 := Aside0.mk g0
    have Hg1 := Aside0.mk g1
    clear g0 g1
    go_wp2_with fail
    go_meet
    exact ⟨true, rfl, ⟨by exact p14_len (by have := Hg1.out; omega)⟩, HAB, HXB, HB⟩
   ·have d1 : decide ((64 : Int) < (ns.length : Int)) = false := decide_eq_false (by omega)
    cases sb
    ·have Hg0 := Aside0.mk g0
     have Hg1 := Aside0.mk g1
     clear g0 g1
     go_wp2_with fail
     refine (HSM.out wc HB.out).mono ?_
     rintro e w4 ⟨rfl, hb⟩
     have HB4 := Aside0.mk (below_step HB.out hb)
     have HAB4 := Aside0.mk (blk_below HAB.out hb)
     have HXB4 := Aside0.mk (blk_below HXB.out hb)
     have b1 : w4.cell? ⟨w.heap.size, 1, none⟩ = some (.int .i64 k) := (blk_cell HAB4.out 1).trans rfl
     have b4 : w4.cell? ⟨w.heap.size, 4, none⟩ = some (.int .i64 sk) := (blk_cell HAB4.out 4).trans rfl
     have b5 : w4.cell? ⟨w.heap.size, 5, none⟩ = some (.int .i64 mo) := (blk_cell HAB4.out 5).trans rfl
     clear hb
     go_wp2_with fail
     go_meet
     exact ⟨true, rfl, ⟨by exact p14_sb HSB.out⟩, HAB4, HXB4, HB4⟩
    ·skip
     by_cases g3 : sk < 0
     ·have d3 : decide (sk < 0) = true := decide_eq_true (by omega)
      have Hg0 := Aside0.mk g0
      have Hg1 := Aside0.mk g1
      have Hg3 := Aside0.mk g3
      clear g0 g1 g3
      go_wp2_with fail
      refine (HSM.out wc HB.out).mono ?_
      rintro e w4 ⟨rfl, hb⟩
      have HB4 := Aside0.mk (below_step HB.out hb)
      have HAB4 := Aside0.mk (blk_below HAB.out hb)
      have HXB4 := Aside0.mk (blk_below HXB.out hb)
      have b1 : w4.cell? ⟨w.heap.size, 1, none⟩ = some (.int .i64 k) := (blk_cell HAB4.out 1).trans rfl
      have b4 : w4.cell? ⟨w.heap.size, 4, none⟩ = some (.int .i64 sk) := (blk_cell HAB4.out 4).trans rfl
      have b5 : w4.cell? ⟨w.heap.size, 5, none⟩ = some (.int .i64 mo) := (blk_cell HAB4.out 5).trans rfl
      clear hb
      go_wp2_with fail
      go_meet
      exact ⟨true, rfl, ⟨by exact p14_rng (by have := Hg3.out; omega)⟩, HAB4, HXB4, HB4⟩
     ·have d3 : decide (sk < 0) = false := decide_eq_false (by omega)
      by_cases g4 : 2147483647 < sk
      ·have d4 : decide (2147483647 < sk) = true := decide_eq_true (by omega)
       have Hg0 := Aside0.mk g0
       have Hg1 := Aside0.mk g1
       have Hg3 := Aside0.mk g3
       have Hg4 := Aside0.mk g4
       clear g0 g1 g3 g4
       go_wp2_with fail
       refine (HSM.out wc HB.out).mono ?_
       rintro e w4 ⟨rfl, hb⟩
       have HB4 := Aside0.mk (below_step HB.out hb)
       have HAB4 := Aside0.mk (blk_below HAB.out hb)
       have HXB4 := Aside0.mk (blk_below HXB.out hb)
       have b1 : w4.cell? ⟨w.heap.size, 1, none⟩ = some (.int .i64 k) := (blk_cell HAB4.out 1).trans rfl
       have b4 : w4.cell? ⟨w.heap.size, 4, none⟩ = some (.int .i64 sk) := (blk_cell HAB4.out 4).trans rfl
       have b5 : w4.cell? ⟨w.heap.size, 5, none⟩ = some (.int .i64 mo) := (blk_cell HAB4.out 5).trans rfl
       clear hb
       go_wp2_with fail
       go_meet
       exact ⟨true, rfl, ⟨by exact p14_rng (by have := Hg4.out; omega)⟩, HAB4, HXB4, HB4⟩
      ·have d4 : decide (2147483647 < sk) = false := decide_eq_false (by omega)
       by_cases g5 : mo < 0
       ·have d5 : decide (mo < 0) = true := decide_eq_true (by omega)
        have Hg0 := Aside0.mk g0
        have Hg1 := Aside0.mk g1
        have Hg3 := Aside0.mk g3
        have Hg4 := Aside0.mk g4
        have Hg5 := Aside0.mk g5
        clear g0 g1 g3 g4 g5
        go_wp2_with fail
        refine (HSM.out wc HB.out).mono ?_
        rintro e w4 ⟨rfl, hb⟩
        have HB4 := Aside0.mk (below_step HB.out hb)
        have HAB4 := Aside0.mk (blk_below HAB.out hb)
        have HXB4 := Aside0.mk (blk_below HXB.out hb)
        have b1 : w4.cell? ⟨w.heap.size, 1, none⟩ = some (.int .i64 k) := (blk_cell HAB4.out 1).trans rfl
        have b4 : w4.cell? ⟨w.heap.size, 4, none⟩ = some (.int .i64 sk) := (blk_cell HAB4.out 4).trans rfl
        have b5 : w4.cell? ⟨w.heap.size, 5, none⟩ = some (.int .i64 mo) := (blk_cell HAB4.out 5).trans rfl
        clear hb
        go_wp2_with fail
        go_meet
        exact ⟨true, rfl, ⟨by exact p14_rng (by have := Hg5.out; omega)⟩, HAB4, HXB4, HB4⟩
       ·have d5 : decide (mo < 0) = false := decide_eq_false (by omega)
        by_cases g6 : 2147483647 < mo
        ·have d6 : decide (2147483647 < mo) = true := decide_eq_true (by omega)
         have Hg0 := Aside0.mk g0
         have Hg1 := Aside0.mk g1
         have Hg3 := Aside0.mk g3
         have Hg4 := Aside0.mk g4
         have Hg5 := Aside0.mk g5
         have Hg6 := Aside0.mk g6
         clear g0 g1 g3 g4 g5 g6
         go_wp2_with fail
         refine (HSM.out wc HB.out).mono ?_
         rintro e w4 ⟨rfl, hb⟩
         have HB4 := Aside0.mk (below_step HB.out hb)
         have HAB4 := Aside0.mk (blk_below HAB.out hb)
         have HXB4 := Aside0.mk (blk_below HXB.out hb)
         have b1 : w4.cell? ⟨w.heap.size, 1, none⟩ = some (.int .i64 k) := (blk_cell HAB4.out 1).trans rfl
         have b4 : w4.cell? ⟨w.heap.size, 4, none⟩ = some (.int .i64 sk) := (blk_cell HAB4.out 4).trans rfl
         have b5 : w4.cell? ⟨w.heap.size, 5, none⟩ = some (.int .i64 mo) := (blk_cell HAB4.out 5).trans rfl
         clear hb
         go_wp2_with fail
         go_meet
         exact ⟨true, rfl, ⟨by exact p14_rng (by have := Hg6.out; omega)⟩, HAB4, HXB4, HB4⟩
        ·have d6 : decide (2147483647 < mo) = false := decide_eq_false (by omega)
         by_cases g8 : k = 4
         ·have d8 : (k == 4) = true := beq_iff_eq.2 g8
          by_cases g9 : 1000 < mo
          ·have d9 : decide (1000 < mo) = true := decide_eq_true g9
           have Hg0 := Aside0.mk g0
           have Hg1 := Aside0.mk g1
           have Hg3 := Aside0.mk g3
           have Hg4 := Aside0.mk g4
           have Hg5 := Aside0.mk g5
           have Hg6 := Aside0.mk g6
           have Hg8 := Aside0.mk g8
           have Hg9 := Aside0.mk g9
           clear g0 g1 g3 g4 g5 g6 g8 g9
           go_wp2_with fail
           refine (HSM.out wc HB.out).mono ?_
           rintro e w4 ⟨rfl, hb⟩
           have HB4 := Aside0.mk (below_step HB.out hb)
           have HAB4 := Aside0.mk (blk_below HAB.out hb)
           have HXB4 := Aside0.mk (blk_below HXB.out hb)
           have b1 : w4.cell? ⟨w.heap.size, 1, none⟩ = some (.int .i64 k) := (blk_cell HAB4.out 1).trans rfl
           have b4 : w4.cell? ⟨w.heap.size, 4, none⟩ = some (.int .i64 sk) := (blk_cell HAB4.out 4).trans rfl
           have b5 : w4.cell? ⟨w.heap.size, 5, none⟩ = some (.int .i64 mo) := (blk_cell HAB4.out 5).trans rfl
           clear hb
           go_wp2_with fail
           go_meet
           exact ⟨true, rfl, ⟨by exact p14_mo (fun e => by have := e Hg8.out; have := Hg9.out; omega)⟩, HAB4, HXB4, HB4⟩
          ·have d9 : decide (1000 < mo) = false := decide_eq_false g9
           have Hg0 := Aside0.mk g0
           have Hg1 := Aside0.mk g1
           have Hg3 := Aside0.mk g3
           have Hg4 := Aside0.mk g4
           have Hg5 := Aside0.mk g5
           have Hg6 := Aside0.mk g6
           have Hg8 := Aside0.mk g8
           have Hg9 := Aside0.mk g9
           clear g0 g1 g3 g4 g5 g6 g8 g9
           go_wp2_with fail
           refine (HSM.out wc HB.out).mono ?_
           rintro e w4 ⟨rfl, hb⟩
           have HB4 := Aside0.mk (below_step HB.out hb)
           have HAB4 := Aside0.mk (blk_below HAB.out hb)
           have HXB4 := Aside0.mk (blk_below HXB.out hb)
           have b1 : w4.cell? ⟨w.heap.size, 1, none⟩ = some (.int .i64 k) := (blk_cell HAB4.out 1).trans rfl
           have b4 : w4.cell? ⟨w.heap.size, 4, none⟩ = some (.int .i64 sk) := (blk_cell HAB4.out 4).trans rfl
           have b5 : w4.cell? ⟨w.heap.size, 5, none⟩ = some (.int .i64 mo) := (blk_cell HAB4.out 5).trans rfl
           clear hb
           go_wp2_with fail
           go_meet
           exact ⟨false, rfl, ⟨by exact p14_ok (by have := Hg0.out; have := Hg1.out; omega) HSB.out (by have := Hg3.out; have := Hg4.out; have := Hg5.out; have := Hg6.out; omega) (fun _ => by have := Hg9.out; omega)⟩, HAB4, HXB4, HB4⟩
         ·have d8 : (k == 4) = false := beq_eq_false_iff_ne.2 g8
          have Hg0 := Aside0.mk g0
          have Hg1 := Aside0.mk g1
          have Hg3 := Aside0.mk g3
          have Hg4 := Aside0.mk g4
          have Hg5 := Aside0.mk g5
          have Hg6 := Aside0.mk g6
          have Hg8 := Aside0.mk g8
          clear g0 g1 g3 g4 g5 g6 g8
          go_wp2_with fail
          refine (HSM.out wc HB.out).mono ?_
          rintro e w4 ⟨rfl, hb⟩
          have HB4 := Aside0.mk (below_step HB.out hb)
          have HAB4 := Aside0.mk (blk_below HAB.out hb)
          have HXB4 := Aside0.mk (blk_below HXB.out hb)
          have b1 : w4.cell? ⟨w.heap.size, 1, none⟩ = some (.int .i64 k) := (blk_cell HAB4.out 1).trans rfl
          have b4 : w4.cell? ⟨w.heap.size, 4, none⟩ = some (.int .i64 sk) := (blk_cell HAB4.out 4).trans rfl
          have b5 : w4.cell? ⟨w.heap.size, 5, none⟩ = some (.int .i64 mo) := (blk_cell HAB4.out 5).trans rfl
          clear hb
          go_wp2_with fail
          go_meet
          exact ⟨false, rfl, ⟨by exact p14_ok (by have := Hg0.out; have := Hg1.out; omega) HSB.out (by have := Hg3.out; have := Hg4.out; have := Hg5.out; have := Hg6.out; omega) (fun h => absurd h (Hg8.out))⟩, HAB4, HXB4, HB4⟩
 case rest =>
  clear a0 x0 a1 x1 a2 x2 a3 x3 a4 x4 a5 x5
  clear HAB HXB HB HSM
  obtain ⟨bad, rfl, HBAD, HAB, HXB, HB⟩ := hcut
  cases bad
  rotate_left
  ·have HF := Aside0.mk (form_no14 HXQ.out HBAD.out)
   go_wp2_with fail
   go_ret
   exact ⟨by rw [← HR.out, HF.out]; rfl, HB.out⟩
  go_wp2_with fail
  exact rf16 A c ns k ky wd sk mo w r q1 q2 q3 q4 wc HR HXQ HBAD HC hc H4 H5 HKY HAB HB _ _ _ _ _ _ _ _ _ _ _ _ _ _ _ _ _ _ _ _ _ _ _ _ _ _ _ _ _ _ _ _ _ _ _ _ _ _ _ _ _ _ _ _ _ _ _ _ _ _ _ _ _ _ _ _ _ _ _ _ _ _ _ _ _ _ _ _ _ _ _ _ _ _ _ _ _ _ _ _ _ _ _ _ _ _ _ _ _ _ _ _ _ _ _ _ _ _ _ _ _ _ _ _ _ _ _ _ _ _ _ _ _ _ _ _ _ _ _ _ _ _ _ _ _ _ _ _ _ _ _ _ _ _ _ _ _ _ _ _ _ _ _ _ _ _ _ _ _ _ _ _ _ _ _ _ _ _ _ _ _ _ _ _ _ _ _ _ _ _ _ _ _ _ _ _ _ _ _ _ _
theorem rformed_calls (A : Option Addr) (c : Nat) (ns : List ND) (k : Int) (ky : ByteArray) (wd sk mo : Int) (w : World) (hC : Kd.C k37 w A ns.length ns) (hc : ns.length ≤ c) (hN : ns.length ≤ 1099511627776) (h4 : ∀ n ∈ ns, n.f4.length ≤ 1099511627776) (h5 : ∀ n ∈ ns, n.f5.size ≤ 9223372036854775807) (hky : ky.size ≤ 9223372036854775807) :
  Calls Tryz.prog 16 #[.agg #[.slice A ns.length c, .int .i64 k, .string ky, .int .i64 wd, .int .i64 sk, .int .i64 mo]] w fun e w' => e = .returned (.bool (formedB ns k ky wd sk mo)) ∧ Below w.heap.size w w' := by
 obtain ⟨r, hr⟩ : ∃ r, formedB ns k ky wd sk mo = r := ⟨_, rfl⟩
 rw [hr]
 have HR := Aside0.mk hr
 have HC := Aside0.mk hC
 have H4 := Aside0.mk h4
 have H5 := Aside0.mk h5
 have HKY := Aside0.mk hky
 clear hr hC h4 h5 hky
 go_enter Tryz.func16, Tryz.ntmps16
 go_upto_block 0 with fail
 go_cut [] (fun wx => ∃ q, xOf k ky wd sk mo q ∧ Aside0 (wx.heap[w.heap.size]? = some (.cells #[.slice A ns.length c, .int .i64 k, .string ky, .int .i64 wd, .int .i64 sk, .int .i64 mo] 24 (0, 0))) ∧ Aside0 (wx.heap[w.heap.size + 1]? = some (.cells #[.slice A ns.length c, .int .i64 k, .string q.1, .int .i64 q.2.1, .int .i64 q.2.2.1, .int .i64 q.2.2.2] 24 (0, 0))) ∧ Aside0 (Below w.heap.size w wx))
 case first =>
  by_cases k1 : k = 1
  ·have d1 : (k == 1) = true := beq_iff_eq.2 k1
   have HK := Aside0.mk k1
   clear k1
   go_wp2_with fail
   go_region
   all_goals (go_wp2_with fail)
   all_goals go_meet
   all_goals refine ⟨(⟨#[]⟩, 0, sk, mo), .inl ⟨HK.out, rfl⟩, ⟨?_⟩, ⟨?_⟩, ⟨?_⟩⟩
   all_goals first
    | (have h := blk_alloc (blk_new w (.cells #[.slice A ns.length c, .int .i64 k, .string ky, .int .i64 wd, .int .i64 sk, .int .i64 mo] 24)) (.cells #[.slice A ns.length c, .int .i64 k, .string ⟨#[]⟩, .int .i64 0, .int .i64 sk, .int .i64 mo] 24); exact h)
    | (have h := blk_new (w.alloc (.cells #[.slice A ns.length c, .int .i64 k, .string ky, .int .i64 wd, .int .i64 sk, .int .i64 mo] 24)) (.cells #[.slice A ns.length c, .int .i64 k, .string ⟨#[]⟩, .int .i64 0, .int .i64 sk, .int .i64 mo] 24); rw [World.size_alloc] at h; exact h)
    | (repeat (first | exact Below.refl _ _ | apply pw_below_drewN | apply below_drew | apply below_alloc))
  have d1 : (k == 1) = false := beq_eq_false_iff_ne.2 k1
  by_cases k2 : k = 2
  ·have d2 : (k == 2) = true := beq_iff_eq.2 k2
   have HK := Aside0.mk k2
   clear k2
   go_wp2_with fail
   all_goals go_meet
   all_goals refine ⟨(⟨#[]⟩, 0, 0, 0), .inr (.inl ⟨HK.out, rfl⟩), ⟨?_⟩, ⟨?_⟩, ⟨?_⟩⟩
   all_goals first
    | (have h := blk_alloc (blk_new w (.cells #[.slice A ns.length c, .int .i64 k, .string ky, .int .i64 wd, .int .i64 sk, .int .i64 mo] 24)) (.cells #[.slice A ns.length c, .int .i64 k, .string ⟨#[]⟩, .int .i64 0, .int .i64 0, .int .i64 0] 24); exact h)
    | (have h := blk_new (w.alloc (.cells #[.slice A ns.length c, .int .i64 k, .string ky, .int .i64 wd, .int .i64 sk, .int .i64 mo] 24)) (.cells #[.slice A ns.length c, .int .i64 k, .string ⟨#[]⟩, .int .i64 0, .int .i64 0, .int .i64 0] 24); rw [World.size_alloc] at h; exact h)
    | (repeat (first | exact Below.refl _ _ | apply pw_below_drewN | apply below_drew | apply below_alloc))
  have d2 : (k == 2) = false := beq_eq_false_iff_ne.2 k2
  by_cases k3 : k = 3
  ·have d3 : (k == 3) = true := beq_iff_eq.2 k3
   have HK := Aside0.mk k3
   clear k3
   go_wp2_with fail
   all_goals go_meet
   all_goals refine ⟨(ky, 0, 0, 0), .inr (.inr (.inl ⟨HK.out, rfl⟩)), ⟨?_⟩, ⟨?_⟩, ⟨?_⟩⟩
   all_goals first
    | (have h := blk_alloc (blk_new w (.cells #[.slice A ns.length c, .int .i64 k, .string ky, .int .i64 wd, .int .i64 sk, .int .i64 mo] 24)) (.cells #[.slice A ns.length c, .int .i64 k, .string ky, .int .i64 0, .int .i64 0, .int .i64 0] 24); exact h)
    | (have h := blk_new (w.alloc (.cells #[.slice A ns.length c, .int .i64 k, .string ky, .int .i64 wd, .int .i64 sk, .int .i64 mo] 24)) (.cells #[.slice A ns.length c, .int .i64 k, .string ky, .int .i64 0, .int .i64 0, .int .i64 0] 24); rw [World.size_alloc] at h; exact h)
    | (repeat (first | exact Below.refl _ _ | apply pw_below_drewN | apply below_drew | apply below_alloc))
  have d3 : (k == 3) = false := beq_eq_false_iff_ne.2 k3
  by_cases k4 : k = 4
  ·have d4 : (k == 4) = true := beq_iff_eq.2 k4
   have HK := Aside0.mk k4
   clear k4
   go_wp2_with fail
   go_region
   all_goals (go_wp2_with fail)
   all_goals go_meet
   all_goals refine ⟨(ky, 0, 0, mo), .inr (.inr (.inr (.inl ⟨HK.out, rfl⟩))), ⟨?_⟩, ⟨?_⟩, ⟨?_⟩⟩
   all_goals first
    | (have h := blk_alloc (blk_new w (.cells #[.slice A ns.length c, .int .i64 k, .string ky, .int .i64 wd, .int .i64 sk, .int .i64 mo] 24)) (.cells #[.slice A ns.length c, .int .i64 k, .string ky, .int .i64 0, .int .i64 0, .int .i64 mo] 24); exact h)
    | (have h := blk_new (w.alloc (.cells #[.slice A ns.length c, .int .i64 k, .string ky, .int .i64 wd, .int .i64 sk, .int .i64 mo] 24)) (.cells #[.slice A ns.length c, .int .i64 k, .string ky, .int .i64 0, .int .i64 0, .int .i64 mo] 24); rw [World.size_alloc] at h; exact h)
    | (repeat (first | exact Below.refl _ _ | apply pw_below_drewN | apply below_drew | apply below_alloc))
  have d4 : (k == 4) = false := beq_eq_false_iff_ne.2 k4
  by_cases k5 : k = 5
  ·have d5 : (k == 5) = true := beq_iff_eq.2 k5
   have HK := Aside0.mk k5
   clear k5
   go_wp2_with fail
   all_goals go_meet
   all_goals refine ⟨(⟨#[]⟩, wd, 0, 0), .inr (.inr (.inr (.inr ⟨.inl HK.out, rfl⟩))), ⟨?_⟩, ⟨?_⟩, ⟨?_⟩⟩
   all_goals first
    | (have h := blk_alloc (blk_new w (.cells #[.slice A ns.length c, .int .i64 k, .string ky, .int .i64 wd, .int .i64 sk, .int .i64 mo] 24)) (.cells #[.slice A ns.length c, .int .i64 k, .string ⟨#[]⟩, .int .i64 wd, .int .i64 0, .int .i64 0] 24); exact h)
    | (have h := blk_new (w.alloc (.cells #[.slice A ns.length c, .int .i64 k, .string ky, .int .i64 wd, .int .i64 sk, .int .i64 mo] 24)) (.cells #[.slice A ns.length c, .int .i64 k, .string ⟨#[]⟩, .int .i64 wd, .int .i64 0, .int .i64 0] 24); rw [World.size_alloc] at h; exact h)
    | (repeat (first | exact Below.refl _ _ | apply pw_below_drewN | apply below_drew | apply below_alloc))
  have d5 : (k == 5) = false := beq_eq_false_iff_ne.2 k5
  by_cases k6 : k = 6
  ·have d6 : (k == 6) = true := beq_iff_eq.2 k6
   have HK := Aside0.mk k6
   clear k6
   go_wp2_with fail
   all_goals go_meet
   all_goals refine ⟨(⟨#[]⟩, wd, 0, 0), .inr (.inr (.inr (.inr ⟨.inr HK.out, rfl⟩))), ⟨?_⟩, ⟨?_⟩, ⟨?_⟩⟩
   all_goals first
    | (have h := blk_alloc (blk_new w (.cells #[.slice A ns.length c, .int .i64 k, .string ky, .int .i64 wd, .int .i64 sk, .int .i64 mo] 24)) (.cells #[.slice A ns.length c, .int .i64 k, .string ⟨#[]⟩, .int .i64 wd, .int .i64 0, .int .i64 0] 24); exact h)
    | (have h := blk_new (w.alloc (.cells #[.slice A ns.length c, .int .i64 k, .string ky, .int .i64 wd, .int .i64 sk, .int .i64 mo] 24)) (.cells #[.slice A ns.length c, .int .i64 k, .string ⟨#[]⟩, .int .i64 wd, .int .i64 0, .int .i64 0] 24); rw [World.size_alloc] at h; exact h)
    | (repeat (first | exact Below.refl _ _ | apply pw_below_drewN | apply below_drew | apply below_alloc))
  have d6 : (k == 6) = false := beq_eq_false_iff_ne.2 k6
  have HF := Aside0.mk (show formedB ns k ky wd sk mo = false by unfold formedB askedB; rw [if_neg k1, if_neg k2, if_neg k3, if_neg k4, if_neg (by omega)]; simp)
  clear k1 k2 k3 k4 k5 k6
  go_wp2_with fail
  go_ret
  exact ⟨by rw [← HR.out, HF.out]; rfl, by repeat (first | exact Below.refl _ _ | apply pw_below_drewN | apply below_drew | apply below_alloc)⟩
 case rest =>
  obtain ⟨⟨q1, q2, q3, q4⟩, hxq, HAB, HXB, HB⟩ := hcut
  dsimp only at hxq HXB
  exact ‹∀ (a : Act) (w' : World), Code.wp Tryz.prog _ _ a w' → _› _ _ (rf14 A c ns k ky wd sk mo w r q1 q2 q3 q4 _ hN HR ⟨hxq⟩ HC hc H4 H5 HKY HAB HXB HB _ _ _ _ _ _ _ _ _ _ _ _ _ _ _ _ _ _ _ _ _ _ _ _ _ _ _ _ _ _ _ _ _ _ _ _ _ _ _ _ _ _ _ _ _ _ _ _ _ _ _ _ _ _ _ _ _ _ _ _ _ _ _ _ _ _ _ _ _ _ _ _ _ _ _ _ _ _ _ _ _ _ _ _ _ _ _ _ _ _ _ _ _ _ _ _ _ _ _ _ _ _ _ _ _ _ _ _ _ _ _ _ _ _ _ _ _ _ _ _ _ _ _ _ _ _ _ _ _ _ _ _ _ _ _ _ _ _ _ _ _ _ _ _ _ _ _ _ _ _ _ _ _ _ _ _ _ _ _ _ _ _ _ _ _ _ _ _ _ _ _ _ _ _ _ _ _ _ _ _)
end Go.Proofs.YtehaodbheifokaaGreatDoor.P
end
section
namespace Go.Proofs.YtehaodbheifokaaGreatDoor.P
open Go Go.RowKit Go.Proofs.YtehaodbheifokaaGreatDoorW.PrintWords Go.Proofs.YtehaodbheifokaaGreatDoorW.PrintLast Go.Proofs.YtehaodbheifokaaGreatDoorW.PrintMore
theorem heldL_app (lv : ND → Bool) : ∀ (xs ys : List ND) (h : List Bool), heldL lv (xs ++ ys) h = heldL lv ys (heldL lv xs h)
 | [], ys, h => rfl
 | x :: xs, ys, h => heldL_app lv xs ys _
theorem heldL_len (lv : ND → Bool) : ∀ (xs : List ND) (h : List Bool), (heldL lv xs h).length = h.length + xs.length
 | [], h => rfl
 | x :: xs, h => by rw [heldL, heldL_len lv xs]; simp; omega
theorem heldL_old (lv : ND → Bool) : ∀ (xs : List ND) (h : List Bool) (p : Nat), p < h.length → (heldL lv xs h).getD p false = h.getD p false
 | [], h, p, _ => rfl
 | x :: xs, h, p, hp => by
  rw [heldL, heldL_old lv xs _ p (by simp; omega)]
  simp [List.getD_eq_getElem?_getD, List.getElem?_append_left hp]
def treeB (lv : ND → Bool) (ns : List ND) (i : Nat) : Bool := (heldL lv ns []).getD i false
theorem treeB_eq (lv : ND → Bool) (ns : List ND) (i : Nat) (n : ND) (hi : ns[i]? = some n) (hp : (partsN n).all (inN i) = true) :
  treeB lv ns i = if n.f0 = 10 then treeB lv ns n.f1.toNat && treeB lv ns n.f2.toNat else if n.f0 = 11 then treeB lv ns n.f1.toNat || treeB lv ns n.f2.toNat else if n.f0 = 12 then !treeB lv ns n.f1.toNat else lv n := by
 obtain ⟨hl, he⟩ := List.getElem?_eq_some_iff.1 hi
 have hs : ns = ns.take i ++ n :: ns.drop (i + 1) := by
  rw [← he, ← List.drop_eq_getElem_cons hl, List.take_append_drop]
 obtain ⟨g, hg⟩ : ∃ g, heldL lv (ns.take i) [] = g := ⟨_, rfl⟩
 have hgl : g.length = i := by rw [← hg, heldL_len]; simp; omega
 have hh : heldL lv ns [] = heldL lv (ns.drop (i + 1)) (g ++ [valN lv g n]) := by
  conv => lhs; rw [hs]
  rw [heldL_app, hg]
  rfl
 have hlow : ∀ p, p < i → treeB lv ns p = g.getD p false := fun p hpi => by
  unfold treeB
  rw [hh, heldL_old lv _ _ p (by simp; omega)]
  simp [List.getD_eq_getElem?_getD, List.getElem?_append_left (show p < g.length by omega)]
 have hat : treeB lv ns i = valN lv g n := by
  unfold treeB
  rw [hh, heldL_old lv _ _ i (by simp; omega)]
  simp [List.getD_eq_getElem?_getD, ← hgl]
 rw [hat]
 unfold valN
 unfold partsN at hp
 by_cases h10 : n.f0 = 10
 ·rw [if_pos (.inl h10)] at hp
  simp only [List.all_cons, List.all_nil, inN, Bool.and_true, Bool.and_eq_true, decide_eq_true_eq] at hp
  rw [if_pos h10, if_pos h10, hlow _ (by omega), hlow _ (by omega)]
 ·rw [if_neg h10, if_neg h10]
  by_cases h11 : n.f0 = 11
  ·rw [if_pos (.inr h11)] at hp
   simp only [List.all_cons, List.all_nil, inN, Bool.and_true, Bool.and_eq_true, decide_eq_true_eq] at hp
   rw [if_pos h11, if_pos h11, hlow _ (by omega), hlow _ (by omega)]
  ·rw [if_neg h11, if_neg h11]
   by_cases h12 : n.f0 = 12
   ·rw [if_neg (by omega), if_pos h12] at hp
    simp only [List.all_cons, List.all_nil, inN, Bool.and_true, decide_eq_true_eq] at hp
    rw [if_pos h12, if_pos h12, hlow _ (by omega)]
   ·rw [if_neg h12, if_neg h12]
theorem treeB_last (lv : ND → Bool) (ns : List ND) : holdsB lv ns = treeB lv ns (ns.length - 1) := rfl
end Go.Proofs.YtehaodbheifokaaGreatDoor.P
end
