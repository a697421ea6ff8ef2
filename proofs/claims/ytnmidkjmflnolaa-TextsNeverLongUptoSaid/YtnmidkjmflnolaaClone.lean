/- slices.Clone, slices.Grow and num.Put on bytes. -/
import Derived.Test.YtnmidkjmflnolaaWords
import Derived.Test.YtnmidkjmflnolaaWZeros
import Derived.WalkSpells
namespace Go.Proofs.Ytnmidkjmflnolaa.P
open Go.RowKit Go.Proofs.YtnmidkjmflnolaaW.PrintWords Go.Proofs.YtnmidkjmflnolaaW.PrintLast Go.Proofs.YtnmidkjmflnolaaW.PrintMore Go.Proofs.Ytnmidkjmflnolaa.Maps
attribute [local go_sem] max2_int min2_int max_two min_two max_three min_three max_four min_four
set_option linter.unusedVariables false
set_option linter.unusedSimpArgs false

theorem eql_nil {P : Program} (w : World) (t e : TypeId) (a : Option Addr) (n c : Nat) (h : P.underlying t = some (.slice e)) :
    (binOp .eql t (.slice a n c) (.slice none 0 0)).run P w = .ok (.bool a.isNone) w := by
  simp only [binOp]
  simp [Op.equal, Op.maxDepth, Lib.run_equalIn_slice_nil w 9999 t e a n c 0 0 h]
def slices_Clone_byte.f (l0 : List Int) : Option (List Int) := if l0.length < 140737488355328 then some l0 else none

set_option maxHeartbeats 1000000 in
set_option maxRecDepth 100000 in
theorem slices_Clone_byte.calls (A0 : Option Addr) (c0 : Nat) (l0 : List Int) (r : List Int) (w : World) (hr0 : Kd.C (Kd.int .u8) w A0 l0.length l0) (hc0 : l0.length ≤ c0) (h : slices_Clone_byte.f l0 = some r) :
    Calls Try.prog 67 #[.slice A0 l0.length c0] w fun e w' => ∃ v0_ : Value, e = .returned (v0_) ∧ Kd.R (Kd.int .u8) 5 w' w.heap.size (fun _ => True) v0_ r ∧ Below w.heap.size w w' := by
  have HL := Aside0.mk (show l0.length < 140737488355328 by unfold slices_Clone_byte.f at h; split at h; assumption; cases h)
  obtain rfl : l0 = r := by unfold slices_Clone_byte.f at h; rw [if_pos HL.out] at h; exact Option.some.inj h
  have HR := Aside0.mk hr0
  clear h hr0
  have heq := eql_nil w 23 5 A0 l0.length c0 Try.underlying23
  cases A0 with
  | none =>
    have hnil : l0 = [] := by
      cases l0 with
      | nil => rfl
      | cons x l => obtain ⟨ad, h, _⟩ := HR.out.2.2 (by simp); cases h
    subst hnil
    simp only [List.length_nil, Option.isNone_none] at heq
    go_enter Try.func67, Try.ntmps67
    go_wp2
    go_ret
    exact ⟨_, rfl, Kd.R_nil _ _ _ _ _, Below.refl _ _⟩
  | some ad =>
    go_enter Try.func67, Try.ntmps67
    go_wp2_with (at_builtin; refine Kd.R_append_rows (Kd.int .u8) (w0 := w) w.heap.size rfl (.tmp 5) (.tmp 6) 23 5 (.int .u8 0) 1 rfl Try.underlying23 info_u8 rfl (by decide) (by omega) (.slice (some ⟨w.heap.size, 0, none⟩) 0 0) [] l0 (some ad) l0.length c0 (fun _ => True) (fun _ => False) rfl rfl ?aO ?aR (fun _ _ h => h) (fun _ h => h.elim) (fun _ _ => trivial) ?aB ?aS ?aL ?_; (case aO => exact R_empty w _); (case aR => exact Kd.C_alloc HR.out _); (case aB => exact below_alloc (Below.refl _ _) _); (case aS => exact below_size (below_alloc (Below.refl _ _) _)); (case aL => have := HL.out; simp; omega); intro v1 w2 ho hb hg hat; have HO := Aside0.mk ho; have HB := Aside0.mk hb; clear ho hb hg hat)
    go_ret
    exact ⟨_, rfl, HO.out, HB.out⟩

/-- The whole room of a slice. -/
theorem cut_cap {P : Program} (t e : TypeId) (kh : IntKind) {i : TypeInfo} (ht : P.underlying t = some (.slice e)) (hi : P.info? e = some i) (A : Option Addr) (n c : Nat) (j : Int) (h0 : 0 ≤ j) (hc : j ≤ c) :
    ∀ W : World, (Instr.slice t (.slice A n c) none (some (.int kh j)) none).run P W = .ok (.slice A j.toNat c) W := by
  intro W
  have hel : P.elem t = e := by simp [Program.elem, ht]
  have hu : P.underlying t = some (.slice (P.elem t)) := by rw [hel]; exact ht
  have ha : (A.map fun x => x.add 0) = A := by cases A <;> simp [Addr.add]
  rw [run_slice_h W t A n c hu kh j h0 (by omega), hel]
  simp [sizeOf, typeInfo, hi, sliced, Result.andThen, ha]
/-- A call of append whose run is known. -/
theorem at_run {P : Program} {ops : Array Oper} {rest : List Oper} {o : Oper} {a : Act} {Q : Exit → Act → World → Prop} {W : World} (hgd : o.guard = none) (s x : Operand) (t ti : TypeId)
    (ho : o.op = .call { callee := .builtin .append, args := #[s, x], argTypes := #[t, ti] }) (v xv v1 : Value) (w1 : World) (hs : a.eval s = v) (hx : a.eval x = xv)
    (hr : (Builtin.append_ #[t, ti] o.type #[v, xv]).run P W = .ok v1 w1) (h : wpList P ops Q rest (a.put o.dst v1) w1) : wpList P ops Q (o :: rest) a W := by
  refine wpList_plain hgd fun K hK => ?_
  unfold Oper.wp execOp
  simp only [ho, resolve, invoke, builtin, Sem.run_bind, Sem.run_pure, Result.andThen_ok, List.map_toArray, List.map_cons, List.map_nil, hs, hx, hr]
  exact hK _ _ h

theorem zeros_one (m : Nat) : ∀ u ∈ (Builtin.zeroCells (Value.int .u8 0).cells m).toList, u.oneCell' = true := by
  intro u hu
  rw [Array.mem_toList_iff] at hu
  simp [Builtin.zeroCells, Value.cells] at hu
  obtain ⟨j, _, h⟩ := hu
  rw [Nat.mod_one] at h
  simp at h
  subst h
  rfl

set_option maxHeartbeats 1000000 in
set_option maxRecDepth 100000 in
/-- Room for n more: the row is the same, and is still one's own. -/
theorem Grow_at (n : Nat) (hn : n ≤ 1048576) (base : Nat) (A : Option Addr) (c : Nat) (cells : List Value) (xs : List Int) (w : World) (hxc : xs.length ≤ c) (hall : w.ownsRow base 5 1 (.slice A c c) c cells) (hx : cells.take (xs.length * 1) = encs (Value.int .u8) xs) (hb : base ≤ w.heap.size) (hl : xs.length + n ≤ 140737488355328) (hr : Kd.R (Kd.int .u8) 5 w base (fun _ => True) (.slice A xs.length c) xs) :
    Calls Try.prog 66 #[.slice A xs.length c, .int .i64 (n : Int)] w fun e w' => ∃ v' : Value, e = .returned v' ∧ Kd.R (Kd.int .u8) 5 w' base (fun _ => True) v' xs ∧ w.grownBy w' (Value.slice A c c).ownBlock := by
  have HR := Aside0.mk hr
  clear hr
  have hcb : (c : Int) ≤ 9223372036854775807 := by
    rcases hall.2 with ⟨he, _⟩ | ⟨_, cap, _, he, _, _, _, hcm, _, _⟩
    · injection he with _ _ h; omega
    · injection he with _ _ h; unfold maxLen at hcm; omega
  have hxc' : (xs.length : Int) ≤ (c : Int) := by omega
  obtain ⟨i0, hi0, hz0, hz1, hz2⟩ := info_parts info_u8
  have hcut := cut_cap (P := Try.prog) 23 5 .i64 Try.underlying23 hi0 A xs.length c (c : Int) (by omega) (Int.le_refl _)
  simp only [Int.toNat_natCast] at hcut
  by_cases hm : (n : Int) - ((c : Int) - (xs.length : Int)) > 0
  · have d0 : decide ((0 : Int) < (n : Int) - ((c : Int) - (xs.length : Int))) = true := decide_eq_true hm
    obtain ⟨v1, w1, hrun, ho1, hg1, hat1⟩ := run_append_zeros (P := Try.prog) w base 23 3 23 5 i0 (.int .u8 0) 1 1 Try.underlying23 Try.underlying3 hi0 hz0 hz1 hz2 rfl (by decide) (by decide) _ c cells hall .i64 (n - (c - xs.length)) (zeros_one _) (by omega) hb
    rw [show ((n - (c - xs.length) : Nat) : Int) = (n : Int) - ((c : Int) - (xs.length : Int)) by omega] at hrun
    have hlen : cells.length = c * 1 := hall.1
    rcases ho1.2 with ⟨_, h0⟩ | ⟨g, cap, cur, rfl, hg, hh, hle, hcm, hcs, htk⟩
    · omega
    have ho2 := own_take (m := xs.length) ho1 (by omega)
    rw [List.take_append_of_le_length (by rw [hlen]; omega), hx] at ho2
    have hcut2 := cut_cap (P := Try.prog) 23 5 .i64 Try.underlying23 hi0 (some ⟨g, 0, none⟩) (c + (n - (c - xs.length))) cap (xs.length : Int) (by omega) (by omega)
    simp only [Int.toNat_natCast] at hcut2
    have HO := Aside0.mk ho2
    have HG1 := Aside0.mk hg1
    clear ho1 ho2 hg1 hat1 hh hcs htk hlen hx hg
    go_enter Try.func66, Try.ntmps66
    go_wp2_with (at_builtin; refine at_run rfl (.tmp 20) (.tmp 21) 23 3 rfl _ _ _ _ rfl rfl hrun ?_)
    go_ret
    exact ⟨_, rfl, Kd.R_of_own HO.out (fun _ _ => trivial), HG1.out⟩
  · have d0 : decide ((0 : Int) < (n : Int) - ((c : Int) - (xs.length : Int))) = false := decide_eq_false hm
    go_enter Try.func66, Try.ntmps66
    go_wp2
    go_ret
    exact ⟨_, rfl, HR.out, ⟨rfl, rfl, rfl, Nat.le_refl _, fun _ _ _ => rfl⟩⟩
/-- Grow of a row of one's own. -/
theorem Grow_calls (n : Nat) (hn : n ≤ 1048576) (base : Nat) (v : Value) (xs : List Int) (w : World) (hr : Kd.R (Kd.int .u8) 5 w base (fun _ => True) v xs) (hb : base ≤ w.heap.size) (hl : xs.length + n ≤ 140737488355328) :
    Calls Try.prog 66 #[v, .int .i64 (n : Int)] w fun e w' => ∃ v' : Value, e = .returned v' ∧ Kd.R (Kd.int .u8) 5 w' base (fun _ => True) v' xs ∧ w.grownBy w' v.ownBlock := by
  have hown := Kd.own_of_R hr
  rcases hown.2 with ⟨rfl, hx0⟩ | ⟨g, cap, cur, rfl, hg, hh, hle, hcm, hcs, htk⟩
  · obtain rfl : xs = [] := List.eq_nil_of_length_eq_zero hx0
    exact Grow_at n hn base none 0 [] [] w (Nat.le_refl _) ⟨rfl, .inl ⟨rfl, rfl⟩⟩ rfl hb hl hr
  · exact Grow_at n hn base (some ⟨g, 0, none⟩) cap cur.toList xs w hle ⟨by rw [Array.length_toList, hcs], .inr ⟨g, cap, cur, rfl, hg, hh, Nat.le_refl _, hcm, hcs, by rw [List.take_of_length_le (by rw [Array.length_toList, hcs]; exact Nat.le_refl _)]⟩⟩ htk hb hl hr
theorem Grow9_calls (base : Nat) (v : Value) (xs : List Int) (w : World) (hr : Kd.R (Kd.int .u8) 5 w base (fun _ => True) v xs) (hb : base ≤ w.heap.size) (hl : xs.length + 9 ≤ 140737488355328) :
    Calls Try.prog 66 #[v, .int .i64 9] w fun e w' => ∃ v' : Value, e = .returned v' ∧ Kd.R (Kd.int .u8) 5 w' base (fun _ => True) v' xs ∧ w.grownBy w' v.ownBlock := Grow_calls 9 (by decide) base v xs w hr hb hl
end Go.Proofs.Ytnmidkjmflnolaa.P
