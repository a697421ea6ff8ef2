/- sym.Formed: a table is formed just if it has at most 32 texts, all of 2 to 8 bytes, none twice. -/
import Derived.Test.YtnmidkjmflnolaaP0
import Derived.Test.YtnmidkjmflnolaaWords
namespace Go.Proofs.Ytnmidkjmflnolaa.P
open Go.RowKit Go.Proofs.YtnmidkjmflnolaaW.PrintWords Go.Proofs.YtnmidkjmflnolaaW.PrintLast Go.Proofs.YtnmidkjmflnolaaW.PrintMore Go.Proofs.Ytnmidkjmflnolaa.Maps
attribute [local go_sem] max2_int min2_int max_two min_two max_three min_three max_four min_four
set_option linter.unusedVariables false
set_option linter.unusedSimpArgs false

def okSym (s : ByteArray) : Bool := decide (2 ≤ s.size) && decide (s.size ≤ 8)
def freshIn : List ByteArray → List ByteArray → Bool
  | _, [] => true
  | seen, s :: r => okSym s && !memB s seen && freshIn (seen ++ [s]) r
def formedB (l : List ByteArray) : Bool := decide (l.length ≤ 32) && freshIn [] l
def sym_Formed.f (l0 : List ByteArray) : Option Bool := some (formedB l0)
def seenF (l : List ByteArray) : ByteArray → Option Bool := fun s => if memB s l = true then some true else none
theorem seenF_nil : seenF [] = fun _ => none := by funext s; simp [seenF, memB]
theorem seenF_snoc (l : List ByteArray) (s : ByteArray) : upd (seenF l) s true = seenF (l ++ [s]) := by
  funext t
  simp only [upd, seenF, memB_snoc]
  by_cases h1 : t = s
  · simp [h1]
  · simp [h1, Ne.symm h1]
theorem take_succ_rd (l : List ByteArray) (k : Nat) (h : k < l.length) : l.take (k + 1) = l.take k ++ [rdOf ByteArray.empty l k] := by
  rw [List.take_succ_eq_append_getElem h]
  simp [rdOf, List.getD, h]
theorem drop_rd (l : List ByteArray) (k : Nat) (h : k < l.length) : l.drop k = rdOf ByteArray.empty l k :: l.drop (k + 1) := by
  rw [List.drop_eq_getElem_cons h]
  simp [rdOf, List.getD, h]

theorem zero_bool (w : World) : (zeroValue 4).run Try.prog w = .ok (.bool false) w := by kernel_rfl

set_option maxHeartbeats 1000000 in
set_option maxRecDepth 100000 in
theorem sym_Formed.calls (A0 : Option Addr) (c0 : Nat) (l0 : List ByteArray) (r : Bool) (w : World) (hr0 : Kd.C Kd.string w A0 l0.length l0) (hc0 : l0.length ≤ c0) (h : sym_Formed.f l0 = some r) :
    Calls Try.prog 19 #[.slice A0 l0.length c0] w fun e w' => e = .returned (.bool r) ∧ Below w.heap.size w w' := by
  have HR0 := Aside0.mk hr0
  have HC0 := Aside0.mk hc0
  clear hr0 hc0
  have HF := Aside0.mk (Option.some.inj h)
  clear h
  by_cases hl : (l0.length : Int) > 32
  · have hfin := Aside0.mk (show r = false by rw [← HF.out]; simp only [formedB]; rw [decide_eq_false (by omega)]; rfl)
    clear HF
    have c2b0 : decide (32 < (l0.length : Int)) = true := decide_eq_true hl
    have c2b1 : decide (32 < l0.length) = true := decide_eq_true (by omega)
    go_enter Try.func19, Try.ntmps19
    go_wp2
    go_ret
    exact ⟨by rw [hfin.out]; rfl, Below.refl _ _⟩
  · have HL := Aside0.mk (show l0.length ≤ 32 by omega)
    have HF2 := Aside0.mk (show freshIn [] l0 = r by rw [← HF.out]; simp only [formedB]; rw [decide_eq_true HL.out]; rfl)
    clear HF
    have c2b0 : decide (32 < (l0.length : Int)) = false := decide_eq_false hl
    have c2b1 : decide (32 < l0.length) = false := decide_eq_false (by omega)
    clear hl
    have hmm := @run_makeMap Try.prog
    go_enter Try.func19, Try.ntmps19
    go_wp2
    go_loopg [12] l0.length (fun kq v12 wr => ∃ k : Nat, v12 = .int .i64 (k : Int) ∧ Aside0 (k ≤ l0.length) ∧ Aside0 (kq = l0.length - k) ∧ Aside0 (MapIs Try.prog 9 4 .bool wr w.heap.size k (seenF (l0.take k))) ∧ Aside0 (freshIn (l0.take k) (l0.drop k) = r) ∧ Aside0 (Below w.heap.size w wr))
    case atStart => exact ⟨0, rfl, ⟨Nat.zero_le _⟩, ⟨by omega⟩, ⟨by rw [List.take_zero, seenF_nil]; exact MapIs.made _ _ _ _ _⟩, ⟨by simpa using HF2.out⟩, ⟨(Below.refl _ _).alloc (Nat.le_refl _) _⟩⟩
    case round =>
      obtain ⟨k, rfl, HK, HN, HM, HS, HB⟩ := hrel
      clear HF2 hmm
      by_cases hk : k < l0.length
      · have hk0 : decide ((k : Int) < (l0.length : Int)) = true := decide_eq_true (by omega)
        have hk1 : decide (k < l0.length) = true := decide_eq_true (by omega)
        have p1 : 0 ≤ (k : Int) := by omega
        have q1 : (k : Int) < (l0.length : Int) := by omega
        obtain ⟨ad, e1, hx⟩ := Kd.at_string HR0.out (k : Int) p1 q1
        cases e1
        replace hx := (HB.out.cell (World.block_lt_of_cell? w _ hx)).trans hx
        simp only [Int.toNat_natCast] at hx
        have HS2 := Aside0.mk (show freshIn (l0.take k) (rdOf ByteArray.empty l0 k :: l0.drop (k + 1)) = r by rw [← drop_rd l0 k hk]; exact HS.out)
        have HT := Aside0.mk (take_succ_rd l0 k hk)
        clear HS
        generalize hs : rdOf ByteArray.empty l0 (k : Int) = s at hx HS2 HT
        clear hs
        have HL2 := Aside0.mk hk
        clear hk
        by_cases h2 : (s.size : Int) < 2
        · have hfin := Aside0.mk (show r = false by rw [← HS2.out]; simp only [freshIn, okSym]; rw [decide_eq_false (by omega)]; rfl)
          have d0 : decide ((s.size : Int) < 2) = true := decide_eq_true h2
          have d1 : decide (s.size < 2) = true := decide_eq_true (by omega)
          go_wp2
          go_ret
          exact ⟨by rw [hfin.out]; rfl, HB.out⟩
        · have d0 : decide ((s.size : Int) < 2) = false := decide_eq_false h2
          have d1 : decide (s.size < 2) = false := decide_eq_false (by omega)
          by_cases h8 : (8 : Int) < (s.size : Int)
          · have hfin := Aside0.mk (show r = false by rw [← HS2.out]; simp only [freshIn, okSym]; rw [decide_eq_false (show ¬ s.size ≤ 8 by omega)]; simp)
            have d2 : decide ((8 : Int) < (s.size : Int)) = true := decide_eq_true h8
            have d3 : decide (8 < s.size) = true := decide_eq_true (by omega)
            go_wp2
            go_ret
            exact ⟨by rw [hfin.out]; rfl, HB.out⟩
          · have d2 : decide ((8 : Int) < (s.size : Int)) = false := decide_eq_false h8
            have d3 : decide (8 < s.size) = false := decide_eq_false (by omega)
            have hm : s.size ≤ maxLen := by unfold maxLen; omega
            have hrun := HM.out.look Try.underlying9 Try.underlying4 Try.underlying58 (zero_bool wr) hm
            have HH := Aside0.mk (show okSym s = true by simp only [okSym]; rw [decide_eq_true (by omega), decide_eq_true (by omega)]; rfl)
            clear h2 h8
            by_cases hin : memB s (l0.take k) = true
            · have hfin := Aside0.mk (show r = false by rw [← HS2.out]; simp only [freshIn]; rw [hin, HH.out]; rfl)
              have hv : (seenF (l0.take k) s).getD (El.zero .bool) = true := by simp only [seenF]; rw [if_pos hin]; rfl
              rw [hv] at hrun
              simp only [El.val] at hrun
              clear hin hv
              go_wp2
              go_ret
              exact ⟨by rw [hfin.out]; rfl, HB.out⟩
            · have hv : (seenF (l0.take k) s).getD (El.zero .bool) = false := by simp only [seenF]; rw [if_neg hin]; rfl
              have HI := Aside0.mk (Bool.eq_false_iff.2 hin)
              have hkb : (k : Int) ≤ 31 := by have := HL2.out; have := HL.out; omega
              rw [hv] at hrun
              simp only [El.val] at hrun
              clear hv hin
              have HM2 := HM
              go_wp2_with (at_mapUpdate; refine wpList_store rfl _ _ _ 58 rfl Try.underlying9 (show El.fits _ _ .bool from Try.underlying4) Try.underlying58 rfl HM2.out (by have := HL2.out; have := HL.out; unfold maxLen; omega) s rfl hm true rfl rfl ?_; intro w1 hm1 hg1; have HM3 := Aside0.mk hm1; have HB3 := Aside0.mk (HB.out.grown hg1 HB.out.size (fun j hj => by cases hj; exact Nat.le_refl _)); clear hm1 hg1)
              go_roundg (l0.length - (k + 1))
              case measure => have := HL2.out; have := HN.out; omega
              case rel => exact ⟨k + 1, by go_num, ⟨HL2.out⟩, ⟨rfl⟩, ⟨by rw [HT.out, ← seenF_snoc]; exact HM3.out⟩, ⟨by have e := HS2.out; simp only [freshIn] at e; rw [HH.out, HI.out] at e; rw [HT.out]; simpa using e⟩, HB3⟩
      · have hk0 : decide ((k : Int) < (l0.length : Int)) = false := decide_eq_false (by omega)
        have hk1 : decide (k < l0.length) = false := decide_eq_false (by omega)
        have hfin := Aside0.mk (show r = true by rw [← HS.out, List.drop_of_length_le (by omega)]; rfl)
        clear hk
        go_wp2
        go_ret
        exact ⟨by rw [hfin.out]; rfl, HB.out⟩
end Go.Proofs.Ytnmidkjmflnolaa.P
