/- Joined by wip/tools/pack.py, pruned: PureKey, TokCut, Spec20. -/
import Derived.Test.YtehaodbheifokaaGreatDoorMs5
import Derived.WalkMore
import Derived.Scope
import Derived.Laws.AppendOwn
import Derived.Laws.IdiomStrings
import Derived.Lib.BufferRead
set_option maxHeartbeats 8000000
set_option maxRecDepth 100000
set_option linter.unusedVariables false
set_option linter.unusedSimpArgs false
section
namespace Go.Proofs.YtehaodbheifokaaGreatDoor.Pure
open Go Go.RowKit Go.Proofs.YtehaodbheifokaaGreatDoorW.PrintWords Go.Proofs.YtehaodbheifokaaGreatDoorW.PrintLast Go.Proofs.YtehaodbheifokaaGreatDoorW.PrintMore Go.Proofs.YtehaodbheifokaaGreatDoor.P
def inK (c : Int) : Bool := decide (97 ≤ c ∧ c ≤ 122) || decide (65 ≤ c ∧ c ≤ 90) || decide (48 ≤ c ∧ c ≤ 57) || decide (c = 95) || decide (c = 46) || decide (c = 45)
theorem inK_true {c : Int} : inK c = true ↔ (97 ≤ c ∧ c ≤ 122) ∨ (65 ≤ c ∧ c ≤ 90) ∨ (48 ≤ c ∧ c ≤ 57) ∨ c = 95 ∨ c = 46 ∨ c = 45 := by
 unfold inK
 simp only [Bool.or_eq_true, decide_eq_true_eq]
 omega
theorem inKey_f (k : Nat) (c : Int) : field_inKey.f (k + 2) c = some (inK c) := by
 have h : field_inKey.f (k + 2) c = some true ∧ inK c = true ∨ field_inKey.f (k + 2) c = some false ∧ ¬ inK c = true := by
  rw [inK_true]
  simp only [field_inKey.f, field_inKey.j0, field_inKey.j1, decide_eq_true_eq]
  repeat' split
  all_goals first | (left; exact ⟨rfl, by omega⟩) | (right; exact ⟨rfl, by omega⟩) | skip
  all_goals (by_cases e : c = 45 <;> simp_all <;> omega)
 rcases h with ⟨h1, h2⟩ | ⟨h1, h2⟩
 ·rw [h1, h2]
 ·rw [h1, Bool.eq_false_iff.mpr h2]
def keyFrom (s : ByteArray) (i : Nat) : Bool := (List.range' i (s.size - i)).all fun (j : Nat) => inK (bt s (j : Int))
def keyB (s : ByteArray) : Bool := keyFrom s 0 && decide (1 ≤ s.size ∧ s.size ≤ 32)
theorem keyFrom_end (s : ByteArray) : keyFrom s s.size = true := by unfold keyFrom; rw [Nat.sub_self]; rfl
theorem keyFrom_step (s : ByteArray) (i : Nat) (h : i < s.size) : keyFrom s i = (inK (bt s (i : Int)) && keyFrom s (i + 1)) := by
 unfold keyFrom
 obtain ⟨d, hd⟩ : ∃ d, s.size - i = d + 1 := ⟨s.size - i - 1, by omega⟩
 rw [hd, show s.size - (i + 1) = d by omega, List.range'_succ, List.all_cons]
theorem isKey_loop (s : ByteArray) (hs : s.size ≤ 9223372036854775807) : ∀ (d i k : Nat), i + d = s.size → d + 3 ≤ k → field_IsKey.l0 k s (s.size : Int) (i : Int) = some (keyFrom s i && decide (1 ≤ s.size ∧ s.size ≤ 32))
 | 0, i, k, hi, hk => by
  obtain rfl : i = s.size := by omega
  obtain ⟨k, rfl⟩ : ∃ m, k = m + 1 := ⟨k - 1, by omega⟩
  rw [keyFrom_end, Bool.true_and]
  simp only [field_IsKey.l0]
  rw [if_neg (by omega)]
  by_cases h0 : (s.size : Int) > 0
  ·rw [if_pos h0]
   congr 1
   exact decide_eq_decide.2 (by omega)
  ·rw [if_neg h0]
   congr 1
   exact (decide_eq_false (by omega)).symm
 | d + 1, i, k, hi, hk => by
  obtain ⟨m, rfl⟩ : ∃ m, k = (m + 2) + 1 := ⟨k - 3, by omega⟩
  have ih := isKey_loop s hs d (i + 1) (m + 2) (by omega) (by omega)
  rw [keyFrom_step s i (by omega)]
  cases hc : inK (bt s (i : Int)) with
  | false =>
   simp only [field_IsKey.l0]
   rw [if_pos (by omega), if_pos (by omega), if_pos (by omega), inKey_f, hc]
   rfl
  | true =>
   rw [Bool.true_and]
   simp only [field_IsKey.l0]
   rw [if_pos (by omega), if_pos (by omega), if_pos (by omega), inKey_f, hc, Option.bind_some, if_pos rfl, wrap_in (by omega) (by omega), show ((i : Int) + 1) = ((i + 1 : Nat) : Int) by omega]
   exact ih
theorem isKey_f (s : ByteArray) (hs : s.size ≤ 9223372036854775807) (k : Nat) (hk : s.size + 3 ≤ k) : field_IsKey.f k s = some (keyB s) := isKey_loop s hs s.size 0 k (by omega) hk
end Go.Proofs.YtehaodbheifokaaGreatDoor.Pure
end
section
namespace Go.Proofs.YtehaodbheifokaaGreatDoor.P
open Go Go.RowKit Go.Proofs.YtehaodbheifokaaGreatDoorW.PrintWords Go.Proofs.YtehaodbheifokaaGreatDoorW.PrintLast Go.Proofs.YtehaodbheifokaaGreatDoorW.PrintMore
def jump2 (J0 J1 : Act → World → Prop) (Q : Exit → Act → World → Prop) : Exit → Act → World → Prop
  | .goto l', a, w => (l' = 0 ∧ J0 a w) ∨ (l' = 1 ∧ J1 a w)
  | e, a, w => Q e a w
theorem wp_scope_two {P : Program} {a : Act} {w : World} {Q : Exit → Act → World → Prop} {c r0 r1 : Code} (J0 J1 : Act → World → Prop) (m0 m1 : Act → Nat) (hf0 : findLabel c 0 = some r0) (hf1 : findLabel c 1 = some r1)
    (pass0 : ∀ a w, J0 a w → r0.wp P (jump2 (fun a' w' => J0 a' w' ∧ m0 a' < m0 a) (fun a' w' => J1 a' w' ∧ m1 a' < m0 a) Q) a w)
    (pass1 : ∀ a w, J1 a w → r1.wp P (jump2 (fun a' w' => J0 a' w' ∧ m0 a' < m1 a) (fun a' w' => J1 a' w' ∧ m1 a' < m1 a) Q) a w)
    (first : (∀ a w, J0 a w → r0.wp P (jump2 J0 J1 Q) a w) → c.wp P (jump2 J0 J1 Q) a w) : (Code.scope c).wp P Q a w := by
  replace first := first fun a w hJ b k cs => by
    obtain ⟨e, a₁, w₁, hq, harr⟩ := pass0 a w hJ b k cs
    refine ⟨e, a₁, w₁, ?_, harr⟩
    cases e with
    | goto l' => exact hq.imp (fun h => ⟨h.1, h.2.1⟩) (fun h => ⟨h.1, h.2.1⟩)
    | normal => exact hq
    | exit id => exact hq
    | ret => exact hq
    | panic ch => exact hq
    | outgrown => exact hq
  intro b k cs
  have hg0 : gotoIn 0 (.inScope c :: k) = some (.code r0 :: .inScope c :: k) := by simp [gotoIn, hf0]
  have hg1 : gotoIn 1 (.inScope c :: k) = some (.code r1 :: .inScope c :: k) := by simp [gotoIn, hf1]
  have key : ∀ n a w, (m0 a = n → J0 a w → ∃ e a' w', Q e a' w' ∧ Arrives P (lone (b.at a (.code r0 :: .inScope c :: k)) cs w) b k cs e a' w') ∧ (m1 a = n → J1 a w → ∃ e a' w', Q e a' w' ∧ Arrives P (lone (b.at a (.code r1 :: .inScope c :: k)) cs w) b k cs e a' w') := by
    intro n
    induction n using Nat.strongRecOn with
    | _ n ih =>
      intro a w
      constructor
      · intro hn hJ
        obtain ⟨e, a₁, w₁, hq, harr⟩ := pass0 a w hJ b (.inScope c :: k) cs
        cases e with
        | normal => exact ⟨.normal, a₁, w₁, hq, Steps.trans harr (.one step_inScope)⟩
        | exit id => exact ⟨.exit id, a₁, w₁, hq, fun k' hk => harr k' (by simp [exitTo, hk])⟩
        | goto l' =>
          obtain ⟨rfl, hJ', hlt⟩ | ⟨rfl, hJ', hlt⟩ := hq
          · obtain ⟨e₂, a₂, w₂, hq₂, harr₂⟩ := (ih _ (by omega) a₁ w₁).1 rfl hJ'
            exact ⟨e₂, a₂, w₂, hq₂, .of_steps (harr _ hg0) harr₂⟩
          · obtain ⟨e₂, a₂, w₂, hq₂, harr₂⟩ := (ih _ (by omega) a₁ w₁).2 rfl hJ'
            exact ⟨e₂, a₂, w₂, hq₂, .of_steps (harr _ hg1) harr₂⟩
        | ret => exact ⟨_, a₁, w₁, hq, harr⟩
        | panic ch => exact ⟨_, a₁, w₁, hq, harr⟩
        | outgrown => exact ⟨_, a₁, w₁, hq, harr⟩
      · intro hn hJ
        obtain ⟨e, a₁, w₁, hq, harr⟩ := pass1 a w hJ b (.inScope c :: k) cs
        cases e with
        | normal => exact ⟨.normal, a₁, w₁, hq, Steps.trans harr (.one step_inScope)⟩
        | exit id => exact ⟨.exit id, a₁, w₁, hq, fun k' hk => harr k' (by simp [exitTo, hk])⟩
        | goto l' =>
          obtain ⟨rfl, hJ', hlt⟩ | ⟨rfl, hJ', hlt⟩ := hq
          · obtain ⟨e₂, a₂, w₂, hq₂, harr₂⟩ := (ih _ (by omega) a₁ w₁).1 rfl hJ'
            exact ⟨e₂, a₂, w₂, hq₂, .of_steps (harr _ hg0) harr₂⟩
          · obtain ⟨e₂, a₂, w₂, hq₂, harr₂⟩ := (ih _ (by omega) a₁ w₁).2 rfl hJ'
            exact ⟨e₂, a₂, w₂, hq₂, .of_steps (harr _ hg1) harr₂⟩
        | ret => exact ⟨_, a₁, w₁, hq, harr⟩
        | panic ch => exact ⟨_, a₁, w₁, hq, harr⟩
        | outgrown => exact ⟨_, a₁, w₁, hq, harr⟩
  obtain ⟨e, a₁, w₁, hq, harr⟩ := first b (.inScope c :: k) cs
  cases e with
  | normal => exact ⟨.normal, a₁, w₁, hq, .head step_scope (Steps.trans harr (.one step_inScope))⟩
  | exit id => exact ⟨.exit id, a₁, w₁, hq, fun k' hk => .head step_scope (harr k' (by simp [exitTo, hk]))⟩
  | goto l' =>
    obtain ⟨rfl, hJ'⟩ | ⟨rfl, hJ'⟩ := hq
    · obtain ⟨e₂, a₂, w₂, hq₂, harr₂⟩ := (key _ a₁ w₁).1 rfl hJ'
      exact ⟨e₂, a₂, w₂, hq₂, .of_steps (.head step_scope (harr _ hg0)) harr₂⟩
    · obtain ⟨e₂, a₂, w₂, hq₂, harr₂⟩ := (key _ a₁ w₁).2 rfl hJ'
      exact ⟨e₂, a₂, w₂, hq₂, .of_steps (.head step_scope (harr _ hg1)) harr₂⟩
  | ret => exact ⟨_, a₁, w₁, hq, .of_steps (.one step_scope) harr⟩
  | panic ch => exact ⟨_, a₁, w₁, hq, .of_steps (.one step_scope) harr⟩
  | outgrown => exact ⟨_, a₁, w₁, hq, .of_steps (.one step_scope) harr⟩
def inB (c : Int) : Bool := decide (97 ≤ c ∧ c ≤ 122) || decide (65 ≤ c ∧ c ≤ 90) || decide (48 ≤ c ∧ c ≤ 57) || decide (128 ≤ c)
def lowB (c : Int) : Int := if 65 ≤ c ∧ c ≤ 90 then c + 32 else c
theorem in_f (c : Int) : token_in.f 2 c = some (inB c) := by
  unfold token_in.f inB
  by_cases a : 97 ≤ c <;> by_cases b : c ≤ 122 <;> by_cases d : 65 ≤ c <;> by_cases e : c ≤ 90 <;> by_cases f : 48 ≤ c <;> by_cases g : c ≤ 57 <;> by_cases h : 128 ≤ c <;> first | omega | simp [token_in.j0, token_in.j1, a, b, d, e, f, g, h]
theorem low_f (c : Int) (h : c < 256) : token_lower.f c = some (lowB c) := by
  unfold token_lower.f lowB
  repeat' split
  all_goals (try simp only [Option.some.injEq])
  all_goals omega
def finT (r : List Int) : List Int := if r.length > 64 then [] else r
def cutS : Option (List Int) → List Int → List (List Int)
  | none, [] => []
  | some r, [] => [finT r]
  | none, c :: l => if inB c = true then cutS (some [lowB c]) l else cutS none l
  | some r, c :: l => if inB c = true then cutS (some (r ++ [lowB c])) l else finT r :: cutS none l
def bT (t : List Int) : ByteArray := ⟨(t.map (fun x => UInt8.ofNat x.toNat)).toArray⟩
def tokV (j : Nat) (t : List Int) : List Value := [.int .i64 (j : Int), .string (bT t)]
def flatT (ts : List (List Int)) : List Value := (ts.zipIdx.map (fun x => tokV x.2 x.1)).flatten
theorem flatT_snoc (ts : List (List Int)) (t : List Int) : flatT (ts ++ [t]) = flatT ts ++ tokV ts.length t := by
  unfold flatT
  rw [List.zipIdx_append]
  simp
theorem own_emptied {w : World} {base : Nat} {e : TypeId} {A : Option Addr} {n c : Nat} {xs : List Value} (h : w.ownsRow base e 1 (.slice A n c) n xs) : w.ownsRow base e 1 (.slice A 0 c) 0 [] := by
  refine ⟨by simp, ?_⟩
  obtain ⟨_, h2 | ⟨g, cap, cur, hv, hg, hb, hn, hm, hs, ht⟩⟩ := h
  · left
    obtain ⟨h3, _⟩ := h2
    cases h3
    exact ⟨rfl, rfl⟩
  · right
    cases hv
    exact ⟨g, c, cur, rfl, hg, hb, Nat.zero_le _, hm, hs, by simp⟩
theorem own_sl {w : World} {base : Nat} {e : TypeId} {size n : Nat} {v : Value} {xs : List Value} (h : w.ownsRow base e size v n xs) : ∃ A c, v = .slice A n c ∧ n ≤ c := by
  rcases h.2 with ⟨rfl, rfl⟩ | ⟨g, cap, cur, rfl, _, _, h, _⟩
  · exact ⟨_, _, rfl, Nat.le_refl _⟩
  · exact ⟨_, _, rfl, h⟩
theorem own_bel {w w1 : World} {base : Nat} {e : TypeId} {size n : Nat} {v : Value} {xs : List Value} (h : w.ownsRow base e size v n xs) (hb : Below w.heap.size w w1) : w1.ownsRow base e size v n xs := by
  refine ⟨h.1, ?_⟩
  rcases h.2 with h2 | ⟨g, cap, cur, hv, hg, hbk, h3⟩
  · exact .inl h2
  · exact .inr ⟨g, cap, cur, hv, hg, (hb.block g (blk_lt hbk)).trans hbk, h3⟩
theorem conv_own {w : World} {base : Nat} {A : Option Addr} {c : Nat} {r : List Int} (h : w.ownsRow base 5 1 (.slice A r.length c) r.length (r.map (Value.int .u8))) (hb : ∀ x ∈ r, 0 ≤ x ∧ x < 256) :
    (convert 25 9 (.slice A r.length c)).run Tryz.prog w = .ok (.string (bT r)) w := by
  rcases h.2 with ⟨h1, h2⟩ | ⟨g, cap, cur, hv, _, hk, hle, _, hsz, ht⟩
  · have hr : r = [] := List.eq_nil_of_length_eq_zero h2
    subst hr
    cases h1
    exact Lib.run_convert_nil_bytes w 25 9 5 0 Tryz.underlying25 Tryz.underlying5 Tryz.underlying9
  · cases hv
    have hl : (r.map (fun x => UInt8.ofNat x.toNat)).length = r.length := by simp
    have key := run_convert_bytes_back (P := Tryz.prog) w 25 9 5 ⟨g, 0, none⟩ c (r.map (fun x => UInt8.ofNat x.toNat)) Tryz.underlying25 Tryz.underlying5 Tryz.underlying9 (fun j hj => by
      rw [hl] at hj
      rw [WideShapes.add_plain, Nat.zero_add, blk_cell hk]
      have e1 : (cur.toList.take (r.length * 1))[j]? = some (.int .u8 r[j]) := by rw [ht]; simp [hj]
      rw [List.getElem?_take_of_lt (by omega)] at e1
      rw [← Array.getElem?_toList, e1]
      have hx := hb r[j] (List.getElem_mem hj)
      congr 2
      simp only [List.getElem_map, UInt8.toNat_ofNat']
      omega)
    rw [hl] at key
    exact key
theorem tok_cells (w : World) (cs : List Value) (t : TypeId) : ∀ (j : Nat) u, cs[j]? = some u → (w.alloc (.cells cs.toArray t)).cell? ((⟨w.heap.size, 0, none⟩ : Addr).add j) = some u := fun j u h => by
  rw [WideShapes.add_plain, Nat.zero_add, blk_cell (blk_new w _)]
  simpa using h
theorem gTok : (Tryz.prog.info? 118).map (fun i => (i.zero, i.size, i.bytes)) = some (some (.agg #[.int .i64 0, .string ⟨#[]⟩]), 2, 24) := by kernel_rfl
theorem gByte : (Tryz.prog.info? 5).map (fun i => (i.zero, i.size, i.bytes)) = some (some (.int .u8 0), 1, 1) := by kernel_rfl
def iOf (a : Act) : Nat := match a.tmps.getD 5 undef with | .int _ q => q.toNat | _ => 0
def m0 (l : List Int) (a : Act) : Nat := 4 * (l.length - iOf a) + 1
def m1 (l : List Int) (a : Act) : Nat := if iOf a < l.length ∧ inB (l.getD (iOf a) 0) = true then 4 * (l.length - iOf a) else 4 * (l.length - iOf a) + 2
structure CutIn (w : World) (l : List Int) (toks : List (List Int)) (r : List Int) (i : Nat) (v3 v4 : Value) (w' : World) : Prop where
  own3 : w'.ownsRow w.heap.size 118 2 v3 toks.length (flatT toks)
  own4 : w'.ownsRow w.heap.size 5 1 v4 r.length (r.map (Value.int .u8))
  le : i ≤ l.length
  rl : r.length ≤ i
  rb : ∀ x ∈ r, 0 ≤ x ∧ x < 256
  bel : Below w.heap.size w w'
theorem CutIn.below {w w1 w2 : World} {l : List Int} {toks : List (List Int)} {r : List Int} {i : Nat} {v3 v4 : Value} (h : CutIn w l toks r i v3 v4 w1) (hb : Below w1.heap.size w1 w2) : CutIn w l toks r i v3 v4 w2 :=
  ⟨own_bel h.own3 hb, own_bel h.own4 hb, h.le, h.rl, h.rb, below_step h.bel hb⟩
theorem cutS_len : ∀ (l : List Int), (cutS none l).length ≤ l.length ∧ ∀ r, (cutS (some r) l).length ≤ l.length + 1
  | [] => ⟨by simp [cutS], fun r => by simp [cutS]⟩
  | c :: l => by
    obtain ⟨h0, h1⟩ := cutS_len l
    refine ⟨?_, fun r => ?_⟩
    · simp only [cutS]
      split
      · have := h1 [lowB c]; simp only [List.length_cons]; omega
      · simp only [List.length_cons]; omega
    · simp only [cutS]
      split
      · have := h1 (r ++ [lowB c]); simp only [List.length_cons]; omega
      · simp only [List.length_cons]; omega
theorem own_apart {w : World} {b1 b2 : Nat} {e1 e2 : TypeId} {s1 s2 n1 n2 : Nat} {v1 v2 : Value} {xs ys : List Value} (h1 : w.ownsRow b1 e1 s1 v1 n1 xs) (h2 : w.ownsRow b2 e2 s2 v2 n2 ys) (hne : e1 ≠ e2) : v1.ownBlock = none ∨ v1.ownBlock ≠ v2.ownBlock := by
  rcases h1.2 with ⟨rfl, _⟩ | ⟨g, cap, cur, rfl, _, hg, _⟩
  · exact .inl rfl
  · right
    rcases h2.2 with ⟨rfl, _⟩ | ⟨g', cap', cur', rfl, _, hg', _⟩
    · simp [Value.ownBlock]
    · intro e
      have : g = g' := by simpa [Value.ownBlock] using e
      subst this
      rw [hg] at hg'
      cases hg'
      exact hne rfl
theorem CutIn.put4 {w w3 w4 : World} {l : List Int} {toks : List (List Int)} {r : List Int} {i : Nat} {v3 v4 v' : Value} {x : Int} {o : Obj} (h : CutIn w l toks r i v3 v4 w3) (hi : i < l.length) (hx : 0 ≤ x ∧ x < 256)
    (hown : w4.ownsRow w.heap.size 5 1 v' (r.length + 1) (r.map (Value.int .u8) ++ [.int .u8 x])) (hg : (w3.alloc o).grownBy w4 v4.ownBlock) : CutIn w l toks (r ++ [x]) (i + 1) v3 v' w4 := by
  refine ⟨(h.own3.alloc o).kept hg (own_apart h.own3 h.own4 (by decide)), ?_, by omega, ?_, ?_, ?_⟩
  · simpa using hown
  · have := h.rl
    simp
    omega
  · intro y hy
    rcases List.mem_append.1 hy with hy | hy
    · exact h.rb y hy
    · obtain rfl := List.mem_singleton.1 hy
      exact hx
  · exact (h.bel.alloc h.bel.size o).grown hg (by have := h.bel.size; simp; omega) (fun j ej => own_base h.own4 j ej)
theorem CutIn.put3 {w w3 w4 : World} {l : List Int} {toks : List (List Int)} {r r' t : List Int} {i : Nat} {v3 v4 v4' v' : Value} {o : Obj} (h : CutIn w l toks r i v3 v4 w3) (h4 : w3.ownsRow w.heap.size 5 1 v4' r'.length (r'.map (Value.int .u8))) (hr : r' = [] ∨ r' = r)
    (hown : w4.ownsRow w.heap.size 118 2 v' (toks.length + 1) (flatT toks ++ tokV toks.length t)) (hg : (w3.alloc o).grownBy w4 v3.ownBlock) : CutIn w l (toks ++ [t]) r' i v' v4' w4 := by
  refine ⟨?_, (h4.alloc o).kept hg (own_apart h4 h.own3 (by decide)), h.le, ?_, ?_, ?_⟩
  · rw [flatT_snoc]
    simpa using hown
  · rcases hr with rfl | rfl
    · exact Nat.zero_le _
    · exact h.rl
  · rcases hr with rfl | rfl
    · simp
    · exact h.rb
  · exact (h.bel.alloc h.bel.size o).grown hg (by have := h.bel.size; simp; omega) (fun j ej => own_base h.own3 j ej)
def J0 (A : Option Addr) (c : Nat) (w : World) (l : List Int) : Act → World → Prop := fun a' w' => ∃ (v3 v4 : Value) (toks : List (List Int)) (r : List Int) (i : Nat) (u6 u7 u8 u9 u10 u11 u12 u13 u14 u15 u16 u17 u18 u19 u20 u21 u22 u23 u24 u25 u26 u27 u28 u29 u30 u31 u32 u33 u34 u35 u36 u37 u38 u39 u40 u41 u42 u43 u44 u45 u46 u47 u48 u49 u50 u51 u52 u53 : Value), a' = { tmps := #[.slice A l.length c, undef, .slice none 0 0, v3, v4, .int .i64 (i : Int), u6, u7, u8, u9, u10, u11, u12, u13, u14, u15, u16, u17, u18, u19, u20, u21, u22, u23, u24, u25, u26, u27, u28, u29, u30, u31, u32, u33, u34, u35, u36, u37, u38, u39, u40, u41, u42, u43, u44, u45, u46, u47, u48, u49, u50, u51, u52, u53], defers := [] } ∧ CutIn w l toks r i v3 v4 w' ∧ toks ++ cutS none (l.drop i) = cutS none l
def J1 (A : Option Addr) (c : Nat) (w : World) (l : List Int) : Act → World → Prop := fun a' w' => ∃ (v3 v4 : Value) (toks : List (List Int)) (r : List Int) (i : Nat) (u6 u7 u8 u9 u10 u11 u12 u13 u14 u15 u16 u17 u18 u19 u20 u21 u22 u23 u24 u25 u26 u27 u28 u29 u30 u31 u32 u33 u34 u35 u36 u37 u38 u39 u40 u41 u42 u43 u44 u45 u46 u47 u48 u49 u50 u51 u52 u53 : Value), a' = { tmps := #[.slice A l.length c, undef, .slice none 0 0, v3, v4, .int .i64 (i : Int), u6, u7, u8, u9, u10, u11, u12, u13, u14, u15, u16, u17, u18, u19, u20, u21, u22, u23, u24, u25, u26, u27, u28, u29, u30, u31, u32, u33, u34, u35, u36, u37, u38, u39, u40, u41, u42, u43, u44, u45, u46, u47, u48, u49, u50, u51, u52, u53], defers := [] } ∧ CutIn w l toks r i v3 v4 w' ∧ toks ++ cutS (some r) (l.drop i) = cutS none l
theorem token_Cut.calls (l : List Int) (A : Option Addr) (c : Nat) (w : World) (hC : (Kd.int .u8).C w A l.length l) (hc : l.length ≤ c) (hb : ∀ x ∈ l, 0 ≤ x ∧ x < 256) (hn : l.length ≤ 1099511627776) :
    Calls Tryz.prog 107 #[.slice A l.length c] w fun e w' => ∃ v, e = .returned v ∧ w'.ownsRow w.heap.size 118 2 v (cutS none l).length (flatT (cutS none l)) ∧ Below w.heap.size w w' := by
  go_enter Tryz.func107, Tryz.ntmps107
  go_wp2_with fail
  refine wp_scope_two (J0 A c w l) (J1 A c w l) (m0 l) (m1 l) rfl rfl ?pass0 ?pass1 ?first
  case pass0 =>
    rintro a' w' ⟨v3, v4, toks, r, i, u6, u7, u8, u9, u10, u11, u12, u13, u14, u15, u16, u17, u18, u19, u20, u21, u22, u23, u24, u25, u26, u27, u28, u29, u30, u31, u32, u33, u34, u35, u36, u37, u38, u39, u40, u41, u42, u43, u44, u45, u46, u47, u48, u49, u50, u51, u52, u53, rfl, hI, htot⟩
    by_cases hi2 : i = l.length
    · have d0 : ((i : Int) == (l.length : Int)) = true := by rw [hi2]; exact beq_self_eq_true _
      have HI := Aside0.mk hI
      have HT : toks = cutS none l := by rw [hi2, List.drop_length] at htot; simpa [cutS] using htot
      clear hI htot
      go_wp2_with fail
      simp only [jump2]
      go_ret
      exact ⟨v3, rfl, by rw [← HT]; exact HI.out.own3, HI.out.bel⟩
    · have d0 : ((i : Int) == (l.length : Int)) = false := beq_eq_false_iff_ne.2 (by omega)
      have hil : i < l.length := by have := hI.le; omega
      obtain ⟨ad, rfl, hx⟩ := Kd.at_int (Kd.C_below hC hI.bel) (i : Int) (by omega) (by omega)
      have hp : 0 ≤ (i : Int) := by omega
      have hq : (i : Int) < (l.length : Int) := by omega
      obtain ⟨x, hxe⟩ : ∃ x, rd l (i : Int) = x := ⟨_, rfl⟩
      have hdr : l.drop i = x :: l.drop (i + 1) := by
        rw [List.drop_eq_getElem_cons hil]
        congr 1
        rw [← hxe]
        simp [rd, List.getD, hil]
      rw [hxe, Int.toNat_natCast] at hx
      rw [hdr] at htot
      have hxm : x ∈ l := by have : x ∈ l.drop i := by rw [hdr]; exact List.mem_cons_self; 
                             exact List.mem_of_mem_drop this
      obtain ⟨A4, c4, rfl, hc4⟩ := own_sl hI.own4
      have hgx : l.getD i 0 = x := by rw [← hxe]; simp [rd]
      have HI := Aside0.mk hI
      have HT := Aside0.mk htot
      have HD := Aside0.mk hdr
      clear hI htot hdr
      replace hp := eq_true hp
      replace hq := eq_true hq
      go_wp2_with fail
      refine (token_in.calls 2 x (inB x) _ (in_f x)).mono ?_
      rintro e w2 ⟨rfl, hd⟩
      have HI2 := Aside0.mk (HI.out.below hd.below)
      clear hd
      cases hin : inB x
      · go_wp2_with fail
        go_step3
        have e1 : (i : Int) + 1 = ((i + 1 : Nat) : Int) := rfl
        rw [e1]
        refine Or.inl ⟨rfl, ⟨v3, _, toks, r, i + 1, _, _, _, _, _, _, _, _, _, _, _, _, _, _, _, _, _, _, _, _, _, _, _, _, _, _, _, _, _, _, _, _, _, _, _, _, _, _, _, _, _, _, _, _, _, _, _, _, rfl, ⟨HI2.out.own3, HI2.out.own4, by omega, by have := HI2.out.rl; omega, HI2.out.rb, HI2.out.bel⟩, ?_⟩, ?_⟩
        · rw [← HT.out]
          simp only [cutS, hin, Bool.false_eq_true, if_false]
        · show 4 * (l.length - ((i + 1 : Nat) : Int).toNat) + 1 < 4 * (l.length - (i : Int).toNat) + 1
          omega
      · go_wp2_with fail
        go_step3
        refine Or.inr ⟨rfl, ⟨v3, _, toks, [], i, _, _, _, _, _, _, _, _, _, _, _, _, _, _, _, _, _, _, _, _, _, _, _, _, _, _, _, _, _, _, _, _, _, _, _, _, _, _, _, _, _, _, _, _, _, _, _, _, rfl, ⟨HI2.out.own3, own_emptied HI2.out.own4, by omega, Nat.zero_le _, by simp, HI2.out.bel⟩, ?_⟩, ?_⟩
        · rw [← HT.out, HD.out]
          simp only [cutS, hin, if_true, List.nil_append]
        · show (if (i : Int).toNat < l.length ∧ inB (l.getD (i : Int).toNat 0) = true then 4 * (l.length - (i : Int).toNat) else 4 * (l.length - (i : Int).toNat) + 2) < 4 * (l.length - (i : Int).toNat) + 1
          rw [Int.toNat_natCast, hgx, if_pos ⟨hil, hin⟩]
          omega
  case pass1 =>
    rintro a' w' ⟨v3, v4, toks, r, i, u6, u7, u8, u9, u10, u11, u12, u13, u14, u15, u16, u17, u18, u19, u20, u21, u22, u23, u24, u25, u26, u27, u28, u29, u30, u31, u32, u33, u34, u35, u36, u37, u38, u39, u40, u41, u42, u43, u44, u45, u46, u47, u48, u49, u50, u51, u52, u53, rfl, hI, htot⟩
    obtain ⟨A4, c4, rfl, hc4⟩ := own_sl hI.own4
    by_cases hil : i < l.length
    · obtain ⟨ad, rfl, hx⟩ := Kd.at_int (Kd.C_below hC hI.bel) (i : Int) (by omega) (by omega)
      have hp : 0 ≤ (i : Int) := by omega
      have hq : (i : Int) < (l.length : Int) := by omega
      obtain ⟨x, hxe⟩ : ∃ x, rd l (i : Int) = x := ⟨_, rfl⟩
      have hdr : l.drop i = x :: l.drop (i + 1) := by
        rw [List.drop_eq_getElem_cons hil]
        congr 1
        rw [← hxe]
        simp [rd, List.getD, hil]
      rw [hxe, Int.toNat_natCast] at hx
      rw [hdr] at htot
      have hxm : x ∈ l := by have : x ∈ l.drop i := by rw [hdr]; exact List.mem_cons_self; 
                             exact List.mem_of_mem_drop this
      have hgx : l.getD i 0 = x := by rw [← hxe]; simp [rd]
      have HI := Aside0.mk hI
      have HT := Aside0.mk htot
      have HD := Aside0.mk hdr
      clear hI htot hdr
      have d0 : decide ((i : Int) < (l.length : Int)) = true := decide_eq_true hq
      replace hp := eq_true hp
      replace hq := eq_true hq
      go_wp2_with fail
      refine (token_in.calls 2 x (inB x) _ (in_f x)).mono ?_
      rintro e w2 ⟨rfl, hd⟩
      have HI2 := Aside0.mk (HI.out.below hd.below)
      have hx2 := (hd.below.cell (World.block_lt_of_cell? _ _ hx)).trans hx
      clear hd hx
      cases hin : inB x
      · have finish : toks ++ (finT r :: cutS none (l.drop i)) = cutS none l := by
          rw [← HT.out, HD.out]
          simp only [cutS, hin, Bool.false_eq_true, if_false]
        have HNI := Aside0.mk (show ¬ (i < l.length ∧ inB (l.getD i 0) = true) by rw [hgx, hin]; simp)
        clear hx2
        have HX := Aside0.mk (finish : toks ++ (finT r :: cutS none (l.drop i)) = cutS none l)
        clear finish
        have HTL := Aside0.mk (show toks.length + 1 ≤ l.length by
          have h1 := (cutS_len l).1
          have h2 := congrArg List.length HX.out
          rw [List.length_append, List.length_cons] at h2
          omega)
        obtain ⟨A3, c3, rfl, hc3⟩ := own_sl HI2.out.own3
        obtain ⟨i0, hi, hz0, hz1, hz2⟩ := info_parts gTok
        by_cases h64 : 64 < r.length
        · have d64 : decide ((64 : Int) < (r.length : Int)) = true := decide_eq_true (by omega)
          have hcv : (convert 25 9 (.slice A4 0 c4)).run Tryz.prog w2 = .ok (.string (bT [])) w2 := conv_own (r := []) (own_emptied HI2.out.own4) (by simp)
          have HF := Aside0.mk (show finT r = [] from if_pos h64)
          clear h64
          go_wp2_with ((with_reducible refine gate_dst (N := 53) rfl ?_); refine wpList_append_own _ rfl _ _ 114 rfl w.heap.size 118 i0 (.agg #[.int .i64 0, .string ⟨#[]⟩]) 2 24 Tryz.underlying114 hi hz0 hz1 hz2 rfl (by decide) _ toks.length (flatT toks) rfl (HI2.out.own3.alloc _) ⟨w2.heap.size, 0, none⟩ 1 1 (tokV toks.length []) rfl rfl (tok_cells _ _ _) (by simp [Value.oneCell', tokV]) (by have := HTL.out; unfold maxLen; omega) (by have := HTL.out; omega) (by have := HI2.out.bel.size; rw [World.size_alloc]; omega) ?_; intro v' w4 hown' hgrow _; have HI4 := Aside0.mk (HI2.out.put3 (r' := []) (own_emptied HI2.out.own4) (.inl rfl) hown' hgrow); clear hown' hgrow)
          go_step3
          refine Or.inl ⟨rfl, ⟨_, _, toks ++ [[]], [], i, _, _, _, _, _, _, _, _, _, _, _, _, _, _, _, _, _, _, _, _, _, _, _, _, _, _, _, _, _, _, _, _, _, _, _, _, _, _, _, _, _, _, _, _, _, _, _, _, rfl, HI4.out, ?_⟩, ?_⟩
          · rw [← HX.out, HF.out, List.append_assoc]
            rfl
          · show 4 * (l.length - (i : Int).toNat) + 1 < (if (i : Int).toNat < l.length ∧ inB (l.getD (i : Int).toNat 0) = true then 4 * (l.length - (i : Int).toNat) else 4 * (l.length - (i : Int).toNat) + 2)
            rw [Int.toNat_natCast, if_neg HNI.out]
            omega
        · have d64 : decide ((64 : Int) < (r.length : Int)) = false := decide_eq_false (by omega)
          have hcv := conv_own HI2.out.own4 HI2.out.rb
          have HF := Aside0.mk (show finT r = r from if_neg h64)
          clear h64
          go_wp2_with ((with_reducible refine gate_dst (N := 53) rfl ?_); refine wpList_append_own _ rfl _ _ 114 rfl w.heap.size 118 i0 (.agg #[.int .i64 0, .string ⟨#[]⟩]) 2 24 Tryz.underlying114 hi hz0 hz1 hz2 rfl (by decide) _ toks.length (flatT toks) rfl (HI2.out.own3.alloc _) ⟨w2.heap.size, 0, none⟩ 1 1 (tokV toks.length r) rfl rfl (tok_cells _ _ _) (by simp [Value.oneCell', tokV]) (by have := HTL.out; unfold maxLen; omega) (by have := HTL.out; omega) (by have := HI2.out.bel.size; rw [World.size_alloc]; omega) ?_; intro v' w4 hown' hgrow _; have HI4 := Aside0.mk (HI2.out.put3 (r' := r) HI2.out.own4 (.inr rfl) hown' hgrow); clear hown' hgrow)
          go_step3
          refine Or.inl ⟨rfl, ⟨_, _, toks ++ [r], r, i, _, _, _, _, _, _, _, _, _, _, _, _, _, _, _, _, _, _, _, _, _, _, _, _, _, _, _, _, _, _, _, _, _, _, _, _, _, _, _, _, _, _, _, _, _, _, _, _, rfl, HI4.out, ?_⟩, ?_⟩
          · rw [← HX.out, HF.out, List.append_assoc]
            rfl
          · show 4 * (l.length - (i : Int).toNat) + 1 < (if (i : Int).toNat < l.length ∧ inB (l.getD (i : Int).toNat 0) = true then 4 * (l.length - (i : Int).toNat) else 4 * (l.length - (i : Int).toNat) + 2)
            rw [Int.toNat_natCast, if_neg HNI.out]
            omega
      · go_wp2_with fail
        refine (token_lower.calls x (lowB x) _ (low_f x (hb x hxm).2)).mono ?_
        rintro e w3 ⟨rfl, hd⟩
        have HI3 := Aside0.mk (HI2.out.below hd.below)
        clear hd hx2
        obtain ⟨i0, hi, hz0, hz1, hz2⟩ := info_parts gByte
        have hlw : 0 ≤ lowB x ∧ lowB x < 256 := by have := hb x hxm; unfold lowB; split <;> omega
        have HLW := Aside0.mk hlw
        clear hlw
        go_wp2_with ((with_reducible refine gate_dst (N := 38) rfl ?_); refine wpList_append_own _ rfl _ _ 25 rfl w.heap.size 5 i0 (.int .u8 0) 1 1 Tryz.underlying25 hi hz0 hz1 hz2 rfl (by decide) _ r.length (r.map (Value.int .u8)) rfl (HI3.out.own4.alloc _) ⟨w3.heap.size, 0, none⟩ 1 1 [.int .u8 (lowB x)] rfl rfl (tok_cells _ _ _) (by simp [Value.oneCell']) (by have := HI3.out.rl; unfold maxLen; omega) (by have := HI3.out.rl; omega) (by have := HI3.out.bel.size; rw [World.size_alloc]; omega) ?_; intro v' w4 hown' hgrow _; have HI4 := Aside0.mk (HI3.out.put4 hil HLW.out hown' hgrow); clear hown' hgrow)
        go_step3
        have e1 : (i : Int) + 1 = ((i + 1 : Nat) : Int) := rfl
        rw [e1]
        refine Or.inr ⟨rfl, ⟨v3, _, toks, r ++ [lowB x], i + 1, _, _, _, _, _, _, _, _, _, _, _, _, _, _, _, _, _, _, _, _, _, _, _, _, _, _, _, _, _, _, _, _, _, _, _, _, _, _, _, _, _, _, _, _, _, _, _, _, rfl, HI4.out, ?_⟩, ?_⟩
        · rw [← HT.out]
          simp only [cutS, hin, if_true]
        · show (if ((i + 1 : Nat) : Int).toNat < l.length ∧ inB (l.getD ((i + 1 : Nat) : Int).toNat 0) = true then 4 * (l.length - ((i + 1 : Nat) : Int).toNat) else 4 * (l.length - ((i + 1 : Nat) : Int).toNat) + 2) < (if (i : Int).toNat < l.length ∧ inB (l.getD (i : Int).toNat 0) = true then 4 * (l.length - (i : Int).toNat) else 4 * (l.length - (i : Int).toNat) + 2)
          rw [Int.toNat_natCast, Int.toNat_natCast, hgx, if_pos (show i < l.length ∧ inB x = true from ⟨hil, hin⟩)]
          split <;> omega
    · have hil2 : l.length = i := by have := hI.le; omega
      have d0 : decide ((i : Int) < (l.length : Int)) = false := decide_eq_false (by omega)
      have finish : toks ++ (finT r :: cutS none (l.drop i)) = cutS none l := by
        rw [← htot, ← hil2, List.drop_length]
        simp only [cutS]
      have HI2 := Aside0.mk hI
      have HNI := Aside0.mk (show ¬ (i < l.length ∧ inB (l.getD i 0) = true) by rintro ⟨h, _⟩; exact hil h)
      clear hI htot hil2
      have HX := Aside0.mk (finish : toks ++ (finT r :: cutS none (l.drop i)) = cutS none l)
      clear finish
      have HTL := Aside0.mk (show toks.length + 1 ≤ l.length by
        have h1 := (cutS_len l).1
        have h2 := congrArg List.length HX.out
        rw [List.length_append, List.length_cons] at h2
        omega)
      obtain ⟨A3, c3, rfl, hc3⟩ := own_sl HI2.out.own3
      obtain ⟨i0, hi, hz0, hz1, hz2⟩ := info_parts gTok
      by_cases h64 : 64 < r.length
      · have d64 : decide ((64 : Int) < (r.length : Int)) = true := decide_eq_true (by omega)
        have hcv : (convert 25 9 (.slice A4 0 c4)).run Tryz.prog w' = .ok (.string (bT [])) w' := conv_own (r := []) (own_emptied HI2.out.own4) (by simp)
        have HF := Aside0.mk (show finT r = [] from if_pos h64)
        clear h64
        go_wp2_with ((with_reducible refine gate_dst (N := 53) rfl ?_); refine wpList_append_own _ rfl _ _ 114 rfl w.heap.size 118 i0 (.agg #[.int .i64 0, .string ⟨#[]⟩]) 2 24 Tryz.underlying114 hi hz0 hz1 hz2 rfl (by decide) _ toks.length (flatT toks) rfl (HI2.out.own3.alloc _) ⟨w'.heap.size, 0, none⟩ 1 1 (tokV toks.length []) rfl rfl (tok_cells _ _ _) (by simp [Value.oneCell', tokV]) (by have := HTL.out; unfold maxLen; omega) (by have := HTL.out; omega) (by have := HI2.out.bel.size; rw [World.size_alloc]; omega) ?_; intro v' w4 hown' hgrow _; have HI4 := Aside0.mk (HI2.out.put3 (r' := []) (own_emptied HI2.out.own4) (.inl rfl) hown' hgrow); clear hown' hgrow)
        go_step3
        refine Or.inl ⟨rfl, ⟨_, _, toks ++ [[]], [], i, _, _, _, _, _, _, _, _, _, _, _, _, _, _, _, _, _, _, _, _, _, _, _, _, _, _, _, _, _, _, _, _, _, _, _, _, _, _, _, _, _, _, _, _, _, _, _, _, rfl, HI4.out, ?_⟩, ?_⟩
        · rw [← HX.out, HF.out, List.append_assoc]
          rfl
        · show 4 * (l.length - (i : Int).toNat) + 1 < (if (i : Int).toNat < l.length ∧ inB (l.getD (i : Int).toNat 0) = true then 4 * (l.length - (i : Int).toNat) else 4 * (l.length - (i : Int).toNat) + 2)
          rw [Int.toNat_natCast, if_neg HNI.out]
          omega
      · have d64 : decide ((64 : Int) < (r.length : Int)) = false := decide_eq_false (by omega)
        have hcv := conv_own HI2.out.own4 HI2.out.rb
        have HF := Aside0.mk (show finT r = r from if_neg h64)
        clear h64
        go_wp2_with ((with_reducible refine gate_dst (N := 53) rfl ?_); refine wpList_append_own _ rfl _ _ 114 rfl w.heap.size 118 i0 (.agg #[.int .i64 0, .string ⟨#[]⟩]) 2 24 Tryz.underlying114 hi hz0 hz1 hz2 rfl (by decide) _ toks.length (flatT toks) rfl (HI2.out.own3.alloc _) ⟨w'.heap.size, 0, none⟩ 1 1 (tokV toks.length r) rfl rfl (tok_cells _ _ _) (by simp [Value.oneCell', tokV]) (by have := HTL.out; unfold maxLen; omega) (by have := HTL.out; omega) (by have := HI2.out.bel.size; rw [World.size_alloc]; omega) ?_; intro v' w4 hown' hgrow _; have HI4 := Aside0.mk (HI2.out.put3 (r' := r) HI2.out.own4 (.inr rfl) hown' hgrow); clear hown' hgrow)
        go_step3
        refine Or.inl ⟨rfl, ⟨_, _, toks ++ [r], r, i, _, _, _, _, _, _, _, _, _, _, _, _, _, _, _, _, _, _, _, _, _, _, _, _, _, _, _, _, _, _, _, _, _, _, _, _, _, _, _, _, _, _, _, _, _, _, _, _, rfl, HI4.out, ?_⟩, ?_⟩
        · rw [← HX.out, HF.out, List.append_assoc]
          rfl
        · show 4 * (l.length - (i : Int).toNat) + 1 < (if (i : Int).toNat < l.length ∧ inB (l.getD (i : Int).toNat 0) = true then 4 * (l.length - (i : Int).toNat) else 4 * (l.length - (i : Int).toNat) + 2)
          rw [Int.toNat_natCast, if_neg HNI.out]
          omega
  case first =>
    intro hP
    clear hP
    go_wp2_with fail
    go_step3
    have hJ : J0 A c w l { tmps := #[.slice A l.length c, undef, .slice none 0 0, .slice none 0 0, .slice none 0 0, .int .i64 0, undef, undef, undef, undef, undef, undef, undef, undef, undef, undef, undef, undef, undef, undef, undef, undef, undef, undef, undef, undef, undef, undef, undef, undef, undef, undef, undef, undef, undef, undef, undef, undef, undef, undef, undef, undef, undef, undef, undef, undef, undef, undef, undef, undef, undef, undef, undef, undef], defers := [] } w := ⟨.slice none 0 0, .slice none 0 0, [], [], 0, _, _, _, _, _, _, _, _, _, _, _, _, _, _, _, _, _, _, _, _, _, _, _, _, _, _, _, _, _, _, _, _, _, _, _, _, _, _, _, _, _, _, _, _, _, _, _, _, rfl, ⟨World.ownsRow_nil _ _ _ _, World.ownsRow_nil _ _ _ _, Nat.zero_le _, Nat.zero_le _, by simp, Below.refl _ _⟩, rfl⟩
    generalize ({ tmps := #[.slice A l.length c, undef, .slice none 0 0, .slice none 0 0, .slice none 0 0, .int .i64 0, undef, undef, undef, undef, undef, undef, undef, undef, undef, undef, undef, undef, undef, undef, undef, undef, undef, undef, undef, undef, undef, undef, undef, undef, undef, undef, undef, undef, undef, undef, undef, undef, undef, undef, undef, undef, undef, undef, undef, undef, undef, undef, undef, undef, undef, undef, undef, undef], defers := [] } : Act) = a0 at hJ ⊢
    obtain ⟨v3, v4, toks, r, i, u6, u7, u8, u9, u10, u11, u12, u13, u14, u15, u16, u17, u18, u19, u20, u21, u22, u23, u24, u25, u26, u27, u28, u29, u30, u31, u32, u33, u34, u35, u36, u37, u38, u39, u40, u41, u42, u43, u44, u45, u46, u47, u48, u49, u50, u51, u52, u53, rfl, hI, htot⟩ := hJ
    by_cases hi2 : i = l.length
    · have d0 : ((i : Int) == (l.length : Int)) = true := by rw [hi2]; exact beq_self_eq_true _
      have HI := Aside0.mk hI
      have HT : toks = cutS none l := by rw [hi2, List.drop_length] at htot; simpa [cutS] using htot
      clear hI htot
      go_wp2_with fail
      simp only [jump2]
      go_ret
      exact ⟨v3, rfl, by rw [← HT]; exact HI.out.own3, HI.out.bel⟩
    · have d0 : ((i : Int) == (l.length : Int)) = false := beq_eq_false_iff_ne.2 (by omega)
      have hil : i < l.length := by have := hI.le; omega
      obtain ⟨ad, rfl, hx⟩ := Kd.at_int (Kd.C_below hC hI.bel) (i : Int) (by omega) (by omega)
      have hp : 0 ≤ (i : Int) := by omega
      have hq : (i : Int) < (l.length : Int) := by omega
      obtain ⟨x, hxe⟩ : ∃ x, rd l (i : Int) = x := ⟨_, rfl⟩
      have hdr : l.drop i = x :: l.drop (i + 1) := by
        rw [List.drop_eq_getElem_cons hil]
        congr 1
        rw [← hxe]
        simp [rd, List.getD, hil]
      rw [hxe, Int.toNat_natCast] at hx
      rw [hdr] at htot
      have hxm : x ∈ l := by have : x ∈ l.drop i := by rw [hdr]; exact List.mem_cons_self; 
                             exact List.mem_of_mem_drop this
      obtain ⟨A4, c4, rfl, hc4⟩ := own_sl hI.own4
      have hgx : l.getD i 0 = x := by rw [← hxe]; simp [rd]
      have HI := Aside0.mk hI
      have HT := Aside0.mk htot
      have HD := Aside0.mk hdr
      clear hI htot hdr
      replace hp := eq_true hp
      replace hq := eq_true hq
      go_wp2_with fail
      refine (token_in.calls 2 x (inB x) _ (in_f x)).mono ?_
      rintro e w2 ⟨rfl, hd⟩
      have HI2 := Aside0.mk (HI.out.below hd.below)
      clear hd
      cases hin : inB x
      · go_wp2_with fail
        go_step3
        have e1 : (i : Int) + 1 = ((i + 1 : Nat) : Int) := rfl
        rw [e1]
        refine Or.inl ⟨rfl, ⟨v3, _, toks, r, i + 1, _, _, _, _, _, _, _, _, _, _, _, _, _, _, _, _, _, _, _, _, _, _, _, _, _, _, _, _, _, _, _, _, _, _, _, _, _, _, _, _, _, _, _, _, _, _, _, _, rfl, ⟨HI2.out.own3, HI2.out.own4, by omega, by have := HI2.out.rl; omega, HI2.out.rb, HI2.out.bel⟩, ?_⟩⟩
        · rw [← HT.out]
          simp only [cutS, hin, Bool.false_eq_true, if_false]
      · go_wp2_with fail
        go_step3
        refine Or.inr ⟨rfl, ⟨v3, _, toks, [], i, _, _, _, _, _, _, _, _, _, _, _, _, _, _, _, _, _, _, _, _, _, _, _, _, _, _, _, _, _, _, _, _, _, _, _, _, _, _, _, _, _, _, _, _, _, _, _, _, rfl, ⟨HI2.out.own3, own_emptied HI2.out.own4, by omega, Nat.zero_le _, by simp, HI2.out.bel⟩, ?_⟩⟩
        · rw [← HT.out, HD.out]
          simp only [cutS, hin, if_true, List.nil_append]
theorem bytes_loop0 (s : ByteArray) : ∀ (d i : Nat) (r : List UInt8), s.size - i = d → ByteArray.toList.loop s i r = r.reverse ++ s.data.toList.drop i := by
 intro d
 induction d with
 | zero =>
  intro i r h
  rw [ByteArray.toList.loop.eq_1]
  have hs : s.data.toList.length = s.size := by rw [Array.length_toList]; rfl
  rw [if_neg (by omega), List.drop_of_length_le (by omega)]
  simp
 | succ d ih =>
  intro i r h
  rw [ByteArray.toList.loop.eq_1]
  have hs : s.data.toList.length = s.size := by rw [Array.length_toList]; rfl
  have hi : i < s.size := by omega
  have hi' : i < s.data.toList.length := by omega
  rw [if_pos hi, ih (i + 1) _ (by omega), List.drop_eq_getElem_cons hi']
  have e : s.get! i = s.data.toList[i] := by
   rw [Array.getElem_toList]
   show s.data[i]! = _
   exact getElem!_pos s.data i (by have : s.data.size = s.size := rfl; omega)
  rw [e]
  simp
theorem bytes_eq0 (s : ByteArray) : s.toList = s.data.toList := by
 show ByteArray.toList.loop s 0 [] = _
 rw [bytes_loop0 s s.size 0 [] rfl]
 simp
theorem bytes_inj0 {s t : ByteArray} : s.toList = t.toList ↔ s = t := by
 rw [bytes_eq0, bytes_eq0]
 constructor
 ·intro h
  cases s; cases t
  congr 1
  exact Array.toList_inj.1 h
 ·rintro rfl; rfl
theorem bytes_nil {s : ByteArray} : s.toList = [] ↔ s = ⟨#[]⟩ := by
 have h : (⟨#[]⟩ : ByteArray).toList = [] := by rw [bytes_eq0]
 exact ⟨fun e => bytes_inj0.1 (e.trans h.symm), fun e => by rw [e]; exact h⟩
theorem eqS0_l0 : ∀ (k : Nat) (p q : List ByteArray) (i : Nat), p.length = q.length → i ≤ p.length → p.length ≤ 1099511627776 → p.length - i < k → slices_Equal_string_string.l0 k p q (p.length : Int) (i : Int) = some (decide (p.drop i = q.drop i))
 | 0, p, q, i, _, _, _, hk => by omega
 | k + 1, p, q, i, hl, hi, hb, hk => by
  unfold slices_Equal_string_string.l0
  by_cases h : i < p.length
  ·have hq : i < q.length := by omega
   rw [if_pos (by omega), if_pos (by omega), if_pos (by omega), if_pos (by omega)]
   have ep : rdOf ByteArray.empty p (i : Int) = p[i] := by simp [rdOf, List.getD, h]
   have eq : rdOf ByteArray.empty q (i : Int) = q[i] := by simp [rdOf, List.getD, hq]
   rw [ep, eq, show List.drop i p = p[i] :: List.drop (i + 1) p from List.drop_eq_getElem_cons h, show List.drop i q = q[i] :: List.drop (i + 1) q from List.drop_eq_getElem_cons hq]
   have ew : wrap64 ((i : Int) + 1) = ((i + 1 : Nat) : Int) := by unfold wrap64; omega
   rw [ew, eqS0_l0 k p q (i + 1) hl (by omega) hb (by omega)]
   by_cases h2 : p[i] = q[i]
   ·rw [if_pos (by rw [h2])]
    congr 1
    rw [h2]
    simp only [List.cons.injEq, true_and]
   ·rw [if_neg (fun e => h2 (bytes_inj0.1 e))]
    congr 1
    simp only [List.cons.injEq, h2, false_and, decide_false]
  ·rw [if_neg (by omega)]
   rw [List.drop_eq_nil_of_le (by omega), List.drop_eq_nil_of_le (by omega)]
   simp
theorem eqS0_f (p q : List ByteArray) (hb : p.length ≤ 1099511627776) : slices_Equal_string_string.f (p.length + 1) p q = some (decide (p = q)) := by
 unfold slices_Equal_string_string.f
 by_cases h : p.length = q.length
 ·rw [if_pos (by omega)]
  have := eqS0_l0 (p.length + 1) p q 0 h (Nat.zero_le _) hb (by omega)
  simpa using this
 ·rw [if_neg (by omega)]
  have : p ≠ q := fun e => h (by rw [e])
  simp [this]
theorem same_f (a0 a1 a2 : Int) (a3 : ByteArray) (l4 : List ByteArray) (a5 : ByteArray) (a6 a7 b0 b1 b2 : Int) (b3 : ByteArray) (m4 : List ByteArray) (b5 : ByteArray) (b6 b7 : Int) (hb : l4.length ≤ 1099511627776) :
  query_same.f (l4.length + 1) a0 a1 a2 a3 l4 a5 a6 a7 b0 b1 b2 b3 m4 b5 b6 b7 = some (decide (a0 = b0 ∧ a1 = b1 ∧ a2 = b2 ∧ a3 = b3 ∧ l4 = m4 ∧ a5 = b5 ∧ a6 = b6 ∧ a7 = b7)) := by
 unfold query_same.f
 simp only [bytes_inj0]
 repeat' split
 all_goals (first | rw [eqS0_f _ _ hb] | skip)
 all_goals simp_all
def tokC (c : Int) : Bool := inB c && decide (lowB c = c)
def tokFrom (s : ByteArray) (i : Nat) : Bool := (List.range' i (s.size - i)).all fun (j : Nat) => tokC (bt s (j : Int))
def tokB (s : ByteArray) : Bool := decide (1 ≤ s.size ∧ s.size ≤ 64) && tokFrom s 0
theorem tokFrom_end (s : ByteArray) : tokFrom s s.size = true := by unfold tokFrom; rw [Nat.sub_self]; rfl
theorem tokFrom_step (s : ByteArray) (i : Nat) (h : i < s.size) : tokFrom s i = (tokC (bt s (i : Int)) && tokFrom s (i + 1)) := by
 unfold tokFrom
 obtain ⟨d, hd⟩ : ∃ d, s.size - i = d + 1 := ⟨s.size - i - 1, by omega⟩
 rw [hd, show s.size - (i + 1) = d by omega, List.range'_succ, List.all_cons]
theorem inB_f (c : Int) (k : Nat) (hk : 2 ≤ k) : token_in.f k c = some (inB c) := by
 obtain ⟨k, rfl⟩ : ∃ m, k = m + 2 := ⟨k - 2, by omega⟩
 unfold token_in.f inB
 by_cases a : 97 ≤ c <;> by_cases b : c ≤ 122 <;> by_cases d : 65 ≤ c <;> by_cases e : c ≤ 90 <;> by_cases f : 48 ≤ c <;> by_cases g : c ≤ 57 <;> by_cases h : 128 ≤ c <;> first | omega | simp [token_in.j0, token_in.j1, a, b, d, e, f, g, h]
theorem tokIs_loop (s : ByteArray) (hs : s.size ≤ 64) : ∀ (d i k : Nat), i + d = s.size → d + 3 ≤ k → token_Is.l0 k s (s.size : Int) (i : Int) = some (tokFrom s i)
 | 0, i, k, hi, hk => by
  obtain rfl : i = s.size := by omega
  obtain ⟨k, rfl⟩ : ∃ m, k = m + 1 := ⟨k - 1, by omega⟩
  rw [tokFrom_end]
  simp only [token_Is.l0]
  rw [if_neg (by omega)]
 | d + 1, i, k, hi, hk => by
  obtain ⟨m, rfl⟩ : ∃ m, k = m + 1 := ⟨k - 1, by omega⟩
  have ih := tokIs_loop s hs d (i + 1) m (by omega) (by omega)
  rw [tokFrom_step s i (by omega)]
  simp only [token_Is.l0]
  rw [if_pos (by omega), if_pos (by omega), if_pos (by omega), inB_f _ _ (by omega), Option.bind_some, low_f _ (by have := (bt_range s (i : Int)).2; omega), Option.bind_some]
  have ew : wrap64 ((i : Int) + 1) = ((i + 1 : Nat) : Int) := by unfold wrap64; omega
  rw [ew, ih]
  unfold tokC
  by_cases h1 : inB (bt s (i : Int)) = true <;> by_cases h2 : lowB (bt s (i : Int)) = bt s (i : Int) <;> simp [h1, h2]
theorem tokIs_f (s : ByteArray) (k : Nat) (hk : s.size + 4 ≤ k) : token_Is.f k s = some (tokB s) := by
 obtain ⟨k, rfl⟩ : ∃ m, k = m + 1 := ⟨k - 1, by omega⟩
 unfold token_Is.f tokB
 by_cases h1 : s.size < 1
 ·rw [if_pos (by omega)]
  simp only [token_Is.j0, if_true]
  rw [decide_eq_false (by omega), Bool.false_and]
 ·rw [if_neg (by omega)]
  by_cases h2 : s.size > 64
  ·rw [decide_eq_true (show (s.size : Int) > 64 by omega)]
   simp only [token_Is.j0, if_true]
   rw [decide_eq_false (show ¬ (1 ≤ s.size ∧ s.size ≤ 64) by omega), Bool.false_and]
  ·rw [decide_eq_false (show ¬ (s.size : Int) > 64 by omega)]
   simp only [token_Is.j0]
   rw [if_neg (by decide), decide_eq_true (show 1 ≤ s.size ∧ s.size ≤ 64 by omega), Bool.true_and]
   exact tokIs_loop s (by omega) s.size 0 k (by omega) (by omega)
theorem tokIs_calls (s : ByteArray) (w : World) : Calls Tryz.prog 81 #[.string s] w fun e w' => e = .returned (.bool (tokB s)) ∧ Drawn0 w w' := token_Is.calls _ s _ w (tokIs_f s _ (Nat.le_refl _))
theorem isKey_calls (s : ByteArray) (w : World) (hs : s.size ≤ 9223372036854775807) : Calls Tryz.prog 80 #[.string s] w fun e w' => e = .returned (.bool (Pure.keyB s)) ∧ Drawn0 w w' := field_IsKey.calls _ s _ w (Pure.isKey_f s hs _ (Nat.le_refl _))
def rngB (sk mo : Int) : Bool := decide (0 ≤ sk ∧ 0 ≤ mo ∧ sk ≤ 2147483647 ∧ mo ≤ 2147483647)
def askedB (k : Int) (ky : ByteArray) (wd sk mo : Int) : Bool :=
 if k = 1 then rngB sk mo && decide (ky = ⟨#[]⟩ ∧ wd = 0)
 else if k = 2 then decide (ky = ⟨#[]⟩ ∧ wd = 0 ∧ sk = 0 ∧ mo = 0)
 else if k = 3 then Pure.keyB ky && decide (wd = 0 ∧ sk = 0 ∧ mo = 0)
 else if k = 4 then Pure.keyB ky && decide (0 ≤ mo ∧ mo ≤ 1000 ∧ wd = 0 ∧ sk = 0)
 else if k = 5 ∨ k = 6 then decide (1 ≤ wd ∧ ky = ⟨#[]⟩ ∧ sk = 0 ∧ mo = 0)
 else false
def rightB (k a b : Int) (tx : ByteArray) (tm : List ByteArray) (ky : ByteArray) (lo hi : Int) : Bool :=
 if k = 1 then decide (a = 0 ∧ b = 0 ∧ tx = ⟨#[]⟩ ∧ tm = [] ∧ ky = ⟨#[]⟩ ∧ lo = 0 ∧ hi = 0)
 else if k = 2 ∨ k = 3 then tokB tx && decide (a = 0 ∧ b = 0 ∧ tm = [] ∧ ky = ⟨#[]⟩ ∧ lo = 0 ∧ hi = 0)
 else if k = 4 then decide (0 < tm.length) && tm.all tokB && decide (a = 0 ∧ b = 0 ∧ tx = ⟨#[]⟩ ∧ ky = ⟨#[]⟩ ∧ lo = 0 ∧ hi = 0)
 else if k = 5 then decide (1 ≤ tx.size ∧ tx.size ≤ 64) && decide (a = 0 ∧ b = 0 ∧ tm = [] ∧ ky = ⟨#[]⟩ ∧ lo = 0 ∧ hi = 0)
 else if k = 6 then Pure.keyB ky && decide (tx.size ≤ 64) && decide (a = 0 ∧ b = 0 ∧ tm = [] ∧ lo = 0 ∧ hi = 0)
 else if k = 7 ∨ k = 8 then Pure.keyB ky && decide (a = 0 ∧ b = 0 ∧ tx = ⟨#[]⟩ ∧ tm = [] ∧ hi = 0)
 else if k = 9 then decide (a = 0 ∧ b = 0 ∧ tx = ⟨#[]⟩ ∧ tm = [] ∧ ky = ⟨#[]⟩)
 else if k = 10 ∨ k = 11 then decide (a ≠ b) && decide (tx = ⟨#[]⟩ ∧ tm = [] ∧ ky = ⟨#[]⟩ ∧ lo = 0 ∧ hi = 0)
 else if k = 12 then decide (b = 0 ∧ tx = ⟨#[]⟩ ∧ tm = [] ∧ ky = ⟨#[]⟩ ∧ lo = 0 ∧ hi = 0)
 else false
end Go.Proofs.YtehaodbheifokaaGreatDoor.P
end
