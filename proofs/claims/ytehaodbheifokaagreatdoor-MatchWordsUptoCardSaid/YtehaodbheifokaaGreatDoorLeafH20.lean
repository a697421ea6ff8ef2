/- match: leaves of a term, of a prefix, of a text within; of every row. -/
import Derived.Test.YtehaodbheifokaaGreatDoorLeafG20
import Derived.Lib.ConvBytes
import Derived.Test.YtehaodbheifokaaGreatDoorP2
namespace Go.Proofs.YtehaodbheifokaaGreatDoor.P
open Go Go.RowKit Go.Proofs.YtehaodbheifokaaGreatDoorW.PrintWords Go.Proofs.YtehaodbheifokaaGreatDoorW.PrintLast Go.Proofs.YtehaodbheifokaaGreatDoorW.PrintMore
set_option linter.unusedVariables false
set_option linter.unusedSimpArgs false

section
/-- The conversion's own end. -/
def ConvTo (P : Program) (S T : TypeId) (s : ByteArray) (w : World) (post : Ending → World → Prop) : Prop := ∃ v w', (convert S T (.string s)).run P w = .ok v w' ∧ post (.returned v) w'
theorem ConvTo.mono {P : Program} {S T : TypeId} {s : ByteArray} {w : World} {p q : Ending → World → Prop} (h : ConvTo P S T s w p) (hpq : ∀ e w', p e w' → q e w') : ConvTo P S T s w q := by
  obtain ⟨v, w', h1, h2⟩ := h
  exact ⟨v, w', h1, hpq _ _ h2⟩
section
variable {P : Program} {ops : Array Oper} {oi : Oper} {a : Act} {w : World} {Q : Exit → Act → World → Prop} {K : Act → World → Prop} {S T : TypeId} {x : Operand} {N : Option Tmp}
theorem conv_run {s : ByteArray} {v : Value} {w' : World} (hop : oi.op = .convert S T x) (hx : a.eval x = .string s) (h : (convert S T (.string s)).run P w = .ok v w') : (execOp a.eval oi).run P w = .ok (.value v) w' := by
  unfold execOp
  simp [hop, hx, h, Result.andThen]
theorem conv_ (s : ByteArray) (hw : Region.wanted oi (yielded ops a.tmps) = true) (hN : oi.dst = N) (hop : oi.op = .convert S T x) (hx : a.eval x = .string s)
    (h : ConvTo P S T s w fun e w' => ∃ v, e = .returned v ∧ K (a.put N v) w') : if Region.wanted oi (yielded ops a.tmps) = true then Oper.wp P oi a w K Q else K (a.put N undef) w := by
  obtain ⟨v, w', h1, v', h2, h3⟩ := h
  cases h2
  subst hN
  exact event_step hw (conv_run hop hx h1) h3
theorem convL_ {rest : List Oper} (N : Option Tmp) (hd : oi.dst = N) (hg : oi.guard = none) (s : ByteArray) (hop : oi.op = .convert S T x) (hx : a.eval x = .string s)
    (h : ConvTo P S T s w fun e w' => ∃ v, e = .returned v ∧ wpList P ops Q rest (a.put N v) w') : wpList P ops Q (oi :: rest) a w := by
  obtain ⟨v, w', h1, v', h2, h3⟩ := h
  cases h2
  subst hd
  exact Kd.event_run hg (conv_run hop hx h1) h3
end
/-- A slice of bytes that was made from base on, and that is only read. -/
def Kr (d : Kd Int) (e : Nat) (w : World) (base : Nat) (ok : Nat → Prop) (v : Value) (xs : List Int) : Prop := (∀ k, v.ownBlock = some k → base ≤ k) ∧ ∃ A c, v = .slice A xs.length c ∧ xs.length ≤ c ∧ Kd.C d w A xs.length xs
section
variable {d : Kd Int} {e base : Nat} {w w1 : World} {ok : Nat → Prop} {v : Value} {xs : List Int}
theorem Kr.lower {base' : Nat} (h : Kr d e w base ok v xs) (hb : base' ≤ base) : Kr d e w base' ok v xs := ⟨fun k hk => Nat.le_trans hb (h.1 k hk), h.2⟩
theorem Kr.below (h : Kr d e w base ok v xs) (hb : Below w.heap.size w w1) : Kr d e w1 base ok v xs := by
  obtain ⟨h1, A, c, h2, h3, h4⟩ := h
  exact ⟨h1, A, c, h2, h3, Kd.C_below h4 hb⟩
theorem Kr.alloc (h : Kr d e w base ok v xs) (o : Obj) : Kr d e (w.alloc o) base ok v xs := h.below (below_alloc (Below.refl _ _) o)
theorem Kr.drew (h : Kr d e w base ok v xs) : Kr d e w.drew base ok v xs := h.below (below_drew (Below.refl _ _))
theorem Kr.drewN (h : Kr d e w base ok v xs) (m : Nat) : Kr d e (w.drewN m) base ok v xs := h.below (pw_below_drewN (Below.refl _ _) m)
theorem Kr.slice (h : Kr d e w base ok v xs) : ∃ A c, v = .slice A xs.length c := by
  obtain ⟨_, A, c, h2, _⟩ := h
  exact ⟨A, c, h2⟩
theorem Kr.reads' {A : Option Addr} {n c : Nat} (h : Kr d e w base ok (.slice A n c) xs) : n = xs.length ∧ n ≤ c ∧ Kd.C d w A xs.length xs := by
  obtain ⟨_, A', c', h2, h3, h4⟩ := h
  injection h2 with e1 e2 e3
  subst e1; subst e2; subst e3
  exact ⟨rfl, h3, h4⟩
end
theorem rbK {d : Kd Int} {e : Nat} {v0 w w' : World} {base : Nat} {ok : Nat → Prop} {v : Value} {xs : List Int} (B : Aside0 (Kr d e v0 base ok v xs)) (hb : Below w.heap.size w w')
    (s : Kr d e v0 base ok v xs → Kr d e w base ok v xs := by intro h_; (with_reducible repeat (first | apply Kr.alloc | apply Kr.drewN | apply Kr.drew)); exact h_) : Aside0 (Kr d e w' base ok v xs) := Aside0.mk ((s B.out).below hb)
def string_bytes.f (s : ByteArray) : Option (List Int) := if s.size ≤ 9223372036854775807 then some (bytesOf s) else none
theorem string_bytes.calls (s : ByteArray) (r : List Int) (w : World) (h : string_bytes.f s = some r) :
    ConvTo Tryz.prog 9 25 s w fun e w' => ∃ v0_ : Value, e = .returned v0_ ∧ Kr (Kd.int .u8) 5 w' w.heap.size (fun _ => True) v0_ r ∧ Below w.heap.size w w' := by
  unfold string_bytes.f at h
  by_cases hs : s.size ≤ 9223372036854775807
  case neg => rw [if_neg hs] at h; cases h
  rw [if_pos hs] at h
  cases h
  refine ⟨_, _, print_bytes (P := Tryz.prog) 9 25 5 Tryz.underlying9 Tryz.underlying25 Tryz.underlying5 s w, _, rfl, ?_, bytes_below (Below.refl _ _) (Nat.le_refl _) 5 s⟩
  refine ⟨fun k hk => ?_, some ⟨w.heap.size, 0, none⟩, grownCap w s.size 0 5, by rw [bytesOf_length], by rw [bytesOf_length]; exact grownCap_ge _ _ _ _, ?_⟩
  · simp only [Value.ownBlock, Option.some.injEq] at hk
    omega
  · have h := bytes_reads w 5 s hs
    rw [← bytesOf_length s] at h
    exact Kd.C_of_reads (h1 := fun _ => rfl) h
end
/-- Does s begin with p? -/
def prefB (p s : ByteArray) : Bool := p.data.toList.isPrefixOf s.data.toList
def memB (l : List ByteArray) (s : ByteArray) : Bool := l.any (fun x => decide (s = x))
theorem idx_l0 (l : List ByteArray) (s : ByteArray) (hl : l.length ≤ 1099511627776) : ∀ (d i k : Nat), i + d = l.length → d < k → ∃ r : Int, slices_Index_string_string.l0 k l s (l.length : Int) (i : Int) = some r ∧ decide (r ≥ 0) = (l.drop i).any (fun x => decide (s = x))
  | 0, i, k, hi, hk => by
    obtain ⟨k, rfl⟩ : ∃ m, k = m + 1 := ⟨k - 1, by omega⟩
    refine ⟨-1, ?_, ?_⟩
    · rw [slices_Index_string_string.l0, if_neg (by omega)]
    · rw [List.drop_eq_nil_of_le (by omega)]; rfl
  | d + 1, i, k, hi, hk => by
    obtain ⟨k, rfl⟩ : ∃ m, k = m + 1 := ⟨k - 1, by omega⟩
    have h : i < l.length := by omega
    have e1 : rdOf ByteArray.empty l (i : Int) = l[i] := by simp [rdOf, List.getD, h]
    rw [slices_Index_string_string.l0, if_pos (by omega), if_pos (by omega), if_pos (by omega), e1, List.drop_eq_getElem_cons h, List.any_cons]
    by_cases h2 : s = l[i]
    · refine ⟨(i : Int), by rw [if_pos (by rw [h2])], ?_⟩
      rw [decide_eq_true h2, decide_eq_true (show (i : Int) ≥ 0 by omega)]; rfl
    · rw [if_neg (fun e => h2 (bytes_inj0.1 e)), decide_eq_false h2, Bool.false_or]
      have ew : wrap64 ((i : Int) + 1) = ((i + 1 : Nat) : Int) := by unfold wrap64; omega
      rw [ew]
      exact idx_l0 l s hl d (i + 1) k (by omega) (by omega)
theorem mem_f (l : List ByteArray) (s : ByteArray) (hl : l.length ≤ 1099511627776) : slices_Contains_string_string.f (l.length + 1) l s = some (memB l s) := by
  obtain ⟨r, h1, h2⟩ := idx_l0 l s hl l.length 0 (l.length + 1) (by omega) (by omega)
  unfold slices_Contains_string_string.f slices_Index_string_string.f
  have h1' : slices_Index_string_string.l0 (l.length + 1) l s (l.length : Int) 0 = some r := h1
  rw [h1', Option.bind_some]
  exact congrArg some h2
theorem C_own {w : World} {base : Nat} {A : Option Addr} {n c : Nat} {ts : List (List Int)} (h : w.ownsRow base 9 1 (.slice A n c) n (strV ts)) (hl : ts.length = n) (hn : n ≤ 1099511627776) : Kd.C Kd.string w A n (ts.map bT) := by
  rcases h.2 with ⟨h1, h2⟩ | ⟨g, cap, cur, hv, _, hk, hle, _, hsz, ht⟩
  · obtain rfl : n = 0 := h2
    have : ts = [] := List.eq_nil_of_length_eq_zero hl
    rw [this]
    exact C_none _
  · cases hv
    refine C_str (by rw [List.length_map]; exact hl) (by omega) fun j t hj => ?_
    rw [WideShapes.add_plain, blk_cell hk]
    rw [List.getElem?_map] at hj
    obtain ⟨tt, h3, rfl⟩ := Option.map_eq_some_iff.1 hj
    have hjn : j < n := by have := (List.getElem?_eq_some_iff.1 h3).1; omega
    have e1 : (cur.toList.take (n * 1))[j]? = some (.string (bT tt)) := by rw [ht]; unfold strV; rw [List.getElem?_map, h3]; rfl
    rw [List.getElem?_take_of_lt (by omega)] at e1
    rw [Nat.zero_add, ← Array.getElem?_toList, e1]
set_option maxHeartbeats 4000000 in
set_option maxRecDepth 100000 in
theorem hasPrefix_calls (s p : ByteArray) (w : World) :
    Calls Tryz.prog 89 #[.string s, .string p] w fun e w' => e = .returned (.bool (prefB p s)) ∧ Drawn0 w w' := by
  refine (Tryz.strings_HasPrefix s p w).mono ?_
  rintro e w' ⟨rfl, rfl⟩
  refine ⟨?_, Drawn0.refl _⟩
  rfl
set_option maxHeartbeats 4000000 in
set_option maxRecDepth 100000 in
theorem prefix_calls (g : Nat) (p s : ByteArray) (w : World) (hg : w.cell? ⟨g, 3, none⟩ = some (.string p)) :
    Calls Tryz.prog 88 #[.string s, .pointer (some ⟨g, 0, none⟩)] w fun e w' => e = .returned (.bool (prefB p s)) ∧ Drawn0 w w' := by
  have HT := Aside0.mk (hasPrefix_calls s p)
  go_enter Tryz.func88, Tryz.ntmps88
  go_wp2_with fail
  refine (HT.out _).mono ?_
  rintro e w1 ⟨rfl, hd⟩
  have HD := Aside0.mk hd
  clear hd
  go_wp2_with fail
  go_ret
  exact ⟨rfl, HD.out⟩
theorem bytesOf_in (s : ByteArray) : ∀ x ∈ bytesOf s, 0 ≤ x ∧ x < 256 := by
  intro x hx
  obtain ⟨b, _, rfl⟩ := List.mem_map.1 hx
  have := b.toNat_lt
  omega
theorem subMade (W : World) (s : ByteArray) (hs : s.size ≤ 9223372036854775807) : Kd.C (Kd.int .u8) (Lib.bytesWorld W 5 s) (some ⟨W.heap.size, 0, none⟩) s.size (bytesOf s) := by
  have h := bytes_reads W 5 s hs
  exact Kd.C_of_reads (h1 := fun _ => rfl) h
def subB (l ys : List Int) : Bool := Lib.contains (Lib.bytesOf l) (Lib.bytesOf ys)
theorem subIn_calls (A : Option Addr) (c g c2 : Nat) (l ys : List Int) (w : World) (hm : ∃ m, w.cell? ⟨0, 0, none⟩ = some (.int .i64 m)) (hC : (Kd.int .u8).C w A l.length l) (hc : l.length ≤ c) (hA : A = none → c = 0) (hb : ∀ x ∈ l, 0 ≤ x ∧ x < 256) (hn : l.length < 4294967281)
    (hC2 : (Kd.int .u8).C w (some ⟨g, 0, none⟩) ys.length ys) (hb2 : ∀ x ∈ ys, 0 ≤ x ∧ x < 256) :
    Calls Tryz.prog 91 #[.slice A l.length c, .slice (some ⟨g, 0, none⟩) ys.length c2] w fun e w' => e = .returned (.bool (subB l ys)) ∧ Drawn0 w w' := by
  obtain ⟨m, hm⟩ := hm
  have r2 := Kd.reads_of_C (enc := Value.int .u8) (d := (0 : Int)) (h1 := fun _ => rfl) hC2
  have k2 : ∀ i, i < ys.length → w.cell? ((⟨g, 0, none⟩ : Addr).add i) = some (.int .u8 (ys.getD i 0)) := fun i hi => by
    obtain ⟨ad, e, h⟩ := r2.2.2 (by omega)
    cases e
    exact h i hi
  cases A with
  | none =>
    obtain rfl := hA rfl
    obtain rfl : l = [] := List.eq_nil_of_length_eq_zero (by omega)
    refine (Tryz.bytes_Contains_nil (some ⟨g, 0, none⟩) ys.length c2 w r2.2.1 (fun h => ⟨g, 0, ys.getD 0 0, rfl, ?_⟩)).mono ?_
    · have := k2 0 (by omega)
      rwa [WideShapes.add_plain] at this
    · rintro e w' ⟨rfl, rfl⟩
      refine ⟨?_, Drawn0.refl _⟩
      refine congrArg (fun z => Ending.returned (Value.bool z)) ?_
      cases ys with
      | nil => rfl
      | cons y ys => rfl
  | some a =>
    have r1 := Kd.reads_of_C (enc := Value.int .u8) (d := (0 : Int)) (h1 := fun _ => rfl) hC
    refine (Tryz.bytes_Contains_at a ⟨g, 0, none⟩ l.length c ys.length c2 l ys m w rfl rfl hb hb2 (fun i hi => ?_) k2 hc hn r2.2.1 hm).mono ?_
    · obtain ⟨ad, e, h⟩ := r1.2.2 (by omega)
      cases e
      exact h i hi
    · rintro e w' ⟨rfl, q, rfl⟩
      exact ⟨rfl, ⟨⟨q, rfl⟩⟩⟩
abbrev nodeV (k a b : Int) (tx : ByteArray) (v4 : Value) (ky : ByteArray) (lo hi : Int) : Array Value := #[.int .i64 k, .int .i64 a, .int .i64 b, .string tx, v4, .string ky, .int .i64 lo, .int .i64 hi]
set_option maxHeartbeats 4000000 in
set_option maxRecDepth 100000 in
theorem indexP (A : Option Addr) (c : Nat) (tm : List ByteArray) (g : Nat) (p : ByteArray) (w : World) (hG : ∀ (m : Nat) s, Calls Tryz.prog 88 #[.string s, .pointer (some ⟨g, 0, none⟩)] (w.drewN m) fun e w' => e = .returned (.bool (prefB p s)) ∧ Drawn0 (w.drewN m) w') (hC : Kd.string.C w A tm.length tm) (hc : tm.length ≤ c) (hn : tm.length ≤ 1099511627776) :
    Calls Tryz.prog 104 #[.slice A tm.length c, .func (.func 88) #[] #[.pointer (some ⟨g, 0, none⟩)]] w fun e w' => ∃ i : Int, e = .returned (.int .i64 i) ∧ decide (0 ≤ i) = (tm.any (prefB p)) ∧ Drawn0 w w' := by
  have HC := Aside0.mk hC
  have HG := Aside0.mk hG
  clear hC hG
  go_enter Tryz.func104, Tryz.ntmps104
  go_wp2_with fail
  go_loopg [8] tm.length (fun kq v8 wr => ∃ i : Nat, v8 = .int .i64 (i : Int) ∧ Aside0 (kq + i = tm.length) ∧ Aside0 (∀ j, j < i → ∀ s, tm[j]? = some s → prefB p s = false) ∧ Drawn0 w wr)
  case atStart => exact ⟨0, rfl, ⟨rfl⟩, ⟨fun j h => by omega⟩, Drawn0.refl _⟩
  case round =>
    obtain ⟨i, rfl, HI, HA, HD⟩ := hrel
    obtain ⟨⟨m, rfl⟩⟩ := HD
    by_cases hi : i < tm.length
    · have d0 : decide ((i : Int) < (tm.length : Int)) = true := decide_eq_true (by omega)
      have d1 : decide (i < tm.length) = true := decide_eq_true hi
      obtain ⟨ad, rfl, c0⟩ := Kd.at_string (Kd.C_drewN HC.out m) (i : Int) (by omega) (by omega)
      rw [Int.toNat_natCast] at c0
      have hs : tm[i]? = some (rdOf ByteArray.empty tm (i : Int)) := by simp [rdOf, List.getD, hi]
      have HS := Aside0.mk hs
      obtain ⟨b, hb⟩ : ∃ b, prefB p (rdOf ByteArray.empty tm (i : Int)) = b := ⟨_, rfl⟩
      have HB := Aside0.mk hb
      have hN := HG.out m (rdOf ByteArray.empty tm (i : Int))
      rw [hb] at hN
      have HN := Aside0.mk hN
      clear hN
      clear hb hs
      have HIL := Aside0.mk hi
      go_wp2_with fail
      refine HN.out.mono ?_
      rintro e w3 ⟨rfl, ⟨⟨n3, rfl⟩⟩⟩
      cases b
      · go_wp2_with fail
        have ew : (i : Int) + 1 = ((i + 1 : Nat) : Int) := rfl
        try rw [show wrap64 ((i : Int) + 1) = ((i + 1 : Nat) : Int) by have := HIL.out; unfold wrap64; omega]
        try rw [ew]
        go_roundg (tm.length - i - 1)
        case measure => have := HI.out; have := HIL.out; omega
        case rel =>
          refine ⟨i + 1, rfl, ⟨by have := HI.out; have := HIL.out; omega⟩, ⟨fun j hj s hs => ?_⟩, ⟨⟨_, rfl⟩⟩⟩
          by_cases hji : j = i
          · subst hji
            rw [HS.out] at hs
            cases hs
            exact HB.out
          · exact HA.out j (by omega) s hs
      · go_wp2_with fail
        go_ret
        refine ⟨_, rfl, ?_, ⟨⟨_, rfl⟩⟩⟩
        rw [decide_eq_true (by omega)]
        exact (List.any_eq_true.2 ⟨_, List.mem_of_getElem? HS.out, HB.out⟩).symm
    · have d0 : decide ((i : Int) < (tm.length : Int)) = false := decide_eq_false (by omega)
      have d1 : decide (i < tm.length) = false := decide_eq_false hi
      go_wp2_with fail
      go_ret
      refine ⟨_, rfl, ?_, ⟨⟨_, rfl⟩⟩⟩
      have : tm.any (prefB p) = false := by
        cases e : tm.any (prefB p) with
        | false => rfl
        | true =>
          obtain ⟨s, hs, h2⟩ := List.any_eq_true.1 e
          obtain ⟨j, hj⟩ := List.getElem?_of_mem hs
          have hl := (List.getElem?_eq_some_iff.1 hj).1
          rw [HA.out j (by omega) s hj] at h2
          exact absurd h2 (by decide)
      rw [this]; rfl
set_option maxHeartbeats 4000000 in
set_option maxRecDepth 100000 in
theorem containsP (A : Option Addr) (c : Nat) (tm : List ByteArray) (g : Nat) (p : ByteArray) (w : World) (hG : ∀ (m : Nat) s, Calls Tryz.prog 88 #[.string s, .pointer (some ⟨g, 0, none⟩)] (w.drewN m) fun e w' => e = .returned (.bool (prefB p s)) ∧ Drawn0 (w.drewN m) w') (hC : Kd.string.C w A tm.length tm) (hc : tm.length ≤ c) (hn : tm.length ≤ 1099511627776) :
    Calls Tryz.prog 82 #[.slice A tm.length c, .func (.func 88) #[] #[.pointer (some ⟨g, 0, none⟩)]] w fun e w' => e = .returned (.bool (tm.any (prefB p))) ∧ Drawn0 w w' := by
  have hX := indexP A c tm g p w hG hC hc hn
  obtain ⟨b, hb⟩ : ∃ b, (tm.any (prefB p)) = b := ⟨_, rfl⟩
  rw [hb] at hX ⊢
  have HX := Aside0.mk hX
  clear hC hG hb hX
  go_enter Tryz.func82, Tryz.ntmps82
  go_wp2_with fail
  refine HX.out.mono ?_
  rintro e w3 ⟨i, rfl, hi, hd⟩
  have HD := Aside0.mk hd
  subst hi
  clear hd
  go_wp2_with fail
  all_goals go_ret
  all_goals exact ⟨by rfl, HD.out⟩
theorem up_made {W : World} {p : Addr} {v : Value} (h : W.cell? p = some v) (s : ByteArray) : (Lib.bytesWorld W 5 s).cell? p = some v := ((bytes_below (B := W.heap.size) (Below.refl _ _) (Nat.le_refl _) _ _).cell (World.block_lt_of_cell? _ _ h)).trans h
def match_leaf.T9 : Bool × List (List Nat × List Nat) := (true, [([], []), ([0], [0]), ([1], [1]), ([2], [2]), ([3], [3]), ([], []), ([5], [5]), ([6], [6]), ([4, 7], [4, 7]), ([8, 8, 0, 1, 2, 3, 4, 5, 6, 7, 8], [8])])
def match_leaf.B9 : List Nat := [0, 1, 3, 7, 15, 0, 32, 96, 255, 511]
theorem match_leaf.tab9 : rtab .any (opsOf Tryz.f64 9) = match_leaf.T9 := by kernel_rfl
theorem match_leaf.bits9 : waitsOk match_leaf.T9.2 match_leaf.B9 = true := by kernel_rfl
section
variable (base : Nat) (l : List Int) (A : Option Addr) (c R : Nat) (s t : Int) (a b : Int) (tx ky : ByteArray) (lo hi : Int) (A4 : Option Addr) (n4 c4 : Nat) (w : World) (hC : (Kd.int .u8).C w A l.length l) (hc : l.length ≤ c) (hb : ∀ x ∈ l, 0 ≤ x ∧ x < 256) (hn : l.length ≤ 1099511627776) (hbase : base ≤ w.heap.size) (hRb : R < base)
    (hR : RdS base l s t (.slice A l.length c) R w)
include hC hc hb hn hbase hRb hR
set_option maxHeartbeats 8000000 in
set_option maxRecDepth 100000 in
theorem leafG_term :
    Calls Tryz.prog 64 #[.pointer (some ⟨R, 0, none⟩), .agg (nodeV 2 a b tx (.slice A4 n4 c4) ky lo hi)] w fun e w' => e = .returned (.bool (memB ((cutS none l).map bT) tx)) ∧ RdS base l s t (.slice A l.length c) R w' ∧ Below R w w' ∧ Kept w w' (fun k => k = R) := by
  have hb0 : Below w.heap.size w (w.alloc (.cells (nodeV 2 a b tx (.slice A4 n4 c4) ky lo hi) 37)) := below_alloc (Below.refl _ _) _
  have HR := Aside0.mk (Nat.lt_of_lt_of_le hRb hbase)
  have HT := Aside0.mk (fun (W : World) (hW : Below w.heap.size w W) => tokensG base l A c R s t W (Kd.C_below hC hW) hc hb hn (Nat.le_trans hbase hW.size) hRb (hR.below hW))
  have HB0 := Aside0.mk hb0
  have HN := Aside0.mk (blk_new w (.cells (nodeV 2 a b tx (.slice A4 n4 c4) ky lo hi) 37))
  have HLN := Aside0.mk (cutS_len l).1
  clear hC hb hR hb0
  unfold RdS
  go_enter Tryz.func64, Tryz.ntmps64
  go_wp2_with fail
  go_region_with (first | (go_at_call 87; refine (HT.out _ (by repeat (first | exact Below.refl _ _ | apply pw_below_drewN | apply below_drew1 | apply below_drew | apply below_alloc))).mono ?_; rintro e w1 ⟨v, rfl, h1, h2, h3, h4⟩; obtain ⟨AT, cT, rfl, hcT⟩ := own_sl h1; have hn1 := blk_kept (blk_below HN.out (by repeat (first | exact Below.refl _ _ | apply pw_below_drewN | apply below_drew1 | apply below_drew | apply below_alloc))) h4 (by have := HR.out; omega); have k3 : w1.cell? ⟨w.heap.size, 3, none⟩ = some (.string tx) := (blk_cell hn1 3).trans rfl; have hm := slices_Contains_string_string.calls _ AT cT ((cutS none l).map bT) tx _ w1 (by rw [List.length_map]; exact C_own h1 rfl (by have := HLN.out; omega)) (by rw [List.length_map]; exact hcT) (mem_f _ tx (by rw [List.length_map]; have := HLN.out; omega)); rw [List.length_map] at hm; have HM := Aside0.mk hm; have H1 := Aside0.mk h1; have H2 := Aside0.mk h2; have H3 := Aside0.mk (((show Below w.heap.size w _ from (by repeat (first | exact Below.refl _ _ | apply pw_below_drewN | apply below_drew1 | apply below_drew | apply below_alloc))).mono (Nat.le_of_lt HR.out)).trans h3); have H4 := Aside0.mk ((Kept.of_below (show Below w.heap.size w _ from (by repeat (first | exact Below.refl _ _ | apply pw_below_drewN | apply below_drew1 | apply below_drew | apply below_alloc))) (fun k => k = R)).then_ h4 (fun k hk => .inl hk)); clear h1 h2 h3 h4 hn1 hm) | (go_at_call 86; refine HM.out.mono ?_; rintro e w2 ⟨rfl, hd⟩; have HB := Aside0.mk hd.below; clear hd))
  all_goals (try go_wp2_with fail)
  all_goals go_ret
  all_goals exact ⟨rfl, ⟨true, _, blk_below H2.out HB.out, .inr ⟨rfl, pw_own_below H1.out HB.out⟩⟩, H3.out.trans (HB.out.mono (by have h5 := H4.out.1; have := HR.out; omega)), H4.out.below HB.out⟩
set_option maxHeartbeats 8000000 in
set_option maxRecDepth 100000 in
theorem leafG_prefix :
    Calls Tryz.prog 64 #[.pointer (some ⟨R, 0, none⟩), .agg (nodeV 3 a b tx (.slice A4 n4 c4) ky lo hi)] w fun e w' => e = .returned (.bool (((cutS none l).map bT).any (prefB tx))) ∧ RdS base l s t (.slice A l.length c) R w' ∧ Below R w w' ∧ Kept w w' (fun k => k = R) := by
  have hb0 : Below w.heap.size w (w.alloc (.cells (nodeV 3 a b tx (.slice A4 n4 c4) ky lo hi) 37)) := below_alloc (Below.refl _ _) _
  have HR := Aside0.mk (Nat.lt_of_lt_of_le hRb hbase)
  have HT := Aside0.mk (fun (W : World) (hW : Below w.heap.size w W) => tokensG base l A c R s t W (Kd.C_below hC hW) hc hb hn (Nat.le_trans hbase hW.size) hRb (hR.below hW))
  have HB0 := Aside0.mk hb0
  have HN := Aside0.mk (blk_new w (.cells (nodeV 3 a b tx (.slice A4 n4 c4) ky lo hi) 37))
  have HLN := Aside0.mk (cutS_len l).1
  clear hC hb hR hb0
  unfold RdS
  go_enter Tryz.func64, Tryz.ntmps64
  go_wp2_with fail
  refine (HT.out _ (by repeat (first | exact Below.refl _ _ | apply below_alloc))).mono ?_
  rintro e w1 ⟨v, rfl, h1, h2, h3, h4⟩
  obtain ⟨AT, cT, rfl, hcT⟩ := own_sl h1
  have hn1 := blk_kept HN.out h4 (by have := HR.out; omega)
  have hm := containsP AT cT ((cutS none l).map bT) w.heap.size tx w1 (fun m s => prefix_calls w.heap.size tx s _ ((blk_cell hn1 3).trans rfl)) (by rw [List.length_map]; exact C_own h1 rfl (by have := HLN.out; omega)) (by rw [List.length_map]; exact hcT) (by rw [List.length_map]; have := HLN.out; omega)
  rw [List.length_map] at hm
  have HM := Aside0.mk hm
  have H1 := Aside0.mk h1
  have H2 := Aside0.mk h2
  have H3 := Aside0.mk ((HB0.out.mono (Nat.le_of_lt HR.out)).trans h3)
  have H4 := Aside0.mk ((Kept.of_below HB0.out (fun k => k = R)).then_ h4 (fun k hk => .inl hk))
  clear h1 h2 h3 h4 hn1 hm
  go_wp2_with fail
  refine HM.out.mono ?_
  rintro e w2 ⟨rfl, hd⟩
  have HB := Aside0.mk hd.below
  clear hd
  go_wp2_with fail
  go_ret
  exact ⟨by rw [List.any_map]; rfl, ⟨true, _, blk_below H2.out HB.out, .inr ⟨rfl, pw_own_below H1.out HB.out⟩⟩, H3.out.trans (HB.out.mono (by have h5 := H4.out.1; have := HR.out; omega)), H4.out.below HB.out⟩
set_option maxHeartbeats 8000000 in
set_option maxRecDepth 100000 in
theorem leafG_sub (hX : FieldIn w) (hA : A = none → c = 0) (hn2 : l.length < 4294967281) (hts : tx.size ≤ 9223372036854775807) :
    Calls Tryz.prog 64 #[.pointer (some ⟨R, 0, none⟩), .agg (nodeV 5 a b tx (.slice A4 n4 c4) ky lo hi)] w fun e w' => e = .returned (.bool (subB l (bytesOf tx))) ∧ Below w.heap.size w w' := by
  have hu_ := And.intro hn (And.intro hbase hRb)
  clear hu_
  obtain ⟨bc, vt, hR1, hR2⟩ := hR
  have hcv := fun W : World => print_bytes (P := Tryz.prog) 9 25 5 Tryz.underlying9 Tryz.underlying25 Tryz.underlying5 tx W
  have hB0 := blk_alloc hR1 (.cells (nodeV 5 a b tx (.slice A4 n4 c4) ky lo hi) 37)
  have r2 : (w.alloc (.cells (nodeV 5 a b tx (.slice A4 n4 c4) ky lo hi) 37)).cell? ⟨R, 2, none⟩ = some (.slice A l.length c) := (blk_cell hB0 2).trans rfl
  have r3 : (w.alloc (.cells (nodeV 5 a b tx (.slice A4 n4 c4) ky lo hi) 37)).cell? ⟨w.heap.size, 3, none⟩ = some (.string tx) := (blk_cell (blk_new w _) 3).trans rfl
  have HC := Aside0.mk (fun (W : World) (hW : Below w.heap.size w W) => fun g c2 hC2 => subIn_calls A c g c2 l (bytesOf tx) W (hX.below hW).max (Kd.C_below hC hW) hc hA hb hn2 hC2 (bytesOf_in tx))
  rw [bytesOf_length] at HC
  have HT := Aside0.mk hts
  clear hC hb hR1 hR2 hB0 hX hts
  go_enter Tryz.func64, Tryz.ntmps64
  go_wp2_with fail
  refine start_ (n := 10) (S := fun w' => w'.cell? ⟨R, 2, none⟩ = some (.slice A l.length c) ∧ w'.cell? ⟨w.heap.size, 3, none⟩ = some (.string tx)) (ds := []) #[false, false, false, false, false, false, false, false, false, false] (by kernel_rfl) rfl rfl ⟨r2, r3⟩ (fun hHeld => ?_)
  refine with_tabW match_leaf.tab9 match_leaf.bits9 (fun HT_ HW_ => ?_)
  refine pure_ (i := 0) (N := some 30) (v := ?_) (a' := ?_) #[true, false, false, false, false, false, false, false, false, false] rfl rfl (any_of HT_.out (by kernel_rfl)) (fun _ _ _ h => h) (Or.inl ⟨by rfl, ?_⟩) ?_ ?_
  rotate_left
  · intro w'
    go_simp
    with_reducible rfl
  rotate_left
  · simp only [Act.put, List.setIfInBounds_toArray, List.set_cons_zero, List.set_cons_succ, i64_w, i32_w]
    rfl
  refine pure_ (i := 1) (N := some 31) (v := ?_) (a' := ?_) #[true, true, false, false, false, false, false, false, false, false] rfl rfl (any_of HT_.out (by kernel_rfl)) (fun _ _ _ h => h) (Or.inl ⟨by rfl, ?_⟩) ?_ ?_
  rotate_left
  · intro w'
    go_simp
    with_reducible rfl
  rotate_left
  · simp only [Act.put, List.setIfInBounds_toArray, List.set_cons_zero, List.set_cons_succ, i64_w, i32_w]
    rfl
  refine pure_ (i := 2) (N := some 32) (v := ?_) (a' := ?_) #[true, true, true, false, false, false, false, false, false, false] rfl rfl (any_of HT_.out (by kernel_rfl)) (fun _ _ _ h => h) (Or.inl ⟨by rfl, ?_⟩) ?_ ?_
  rotate_left
  · intro w'
    go_simp
    with_reducible rfl
  rotate_left
  · simp only [Act.put, List.setIfInBounds_toArray, List.set_cons_zero, List.set_cons_succ, i64_w, i32_w]
    rfl
  refine pure_ (i := 3) (N := some 33) (v := ?_) (a' := ?_) #[true, true, true, true, false, false, false, false, false, false] rfl rfl (any_of HT_.out (by kernel_rfl)) (fun _ _ _ h => h) (Or.inl ⟨by rfl, ?_⟩) ?_ ?_
  rotate_left
  · intro w'
    go_simp
    with_reducible rfl
  rotate_left
  · simp only [Act.put, List.setIfInBounds_toArray, List.set_cons_zero, List.set_cons_succ, i64_w, i32_w]
    rfl
  refine take_ (i := 4) (N := some 34) (v := ?_) (a' := ?_) #[true, true, true, true, true, false, false, false, false, false] rfl rfl (take_ofW HT_.out HW_.out (by kernel_rfl)) (fun _ _ _ h => h) (Or.inl ⟨by rfl, ?_⟩) hHeld ?_ ?_
  rotate_left
  · rintro w' ⟨s0, s1⟩
    go_simp
    with_reducible rfl
  rotate_left
  · simp only [Act.put, List.setIfInBounds_toArray, List.set_cons_zero, List.set_cons_succ, i64_w, i32_w]
    rfl
  refine pure_ (i := 5) (N := some 35) (v := ?_) (a' := ?_) #[true, true, true, true, true, true, false, false, false, false] rfl rfl (any_of HT_.out (by kernel_rfl)) (fun _ _ _ h => h) (Or.inl ⟨by rfl, ?_⟩) ?_ ?_
  rotate_left
  · intro w'
    go_simp
    with_reducible rfl
  rotate_left
  · simp only [Act.put, List.setIfInBounds_toArray, List.set_cons_zero, List.set_cons_succ, i64_w, i32_w]
    rfl
  refine take_ (i := 6) (N := some 36) (v := ?_) (a' := ?_) #[true, true, true, true, true, true, true, false, false, false] rfl rfl (take_ofW HT_.out HW_.out (by kernel_rfl)) (fun _ _ _ h => h) (Or.inl ⟨by rfl, ?_⟩) hHeld ?_ ?_
  rotate_left
  · rintro w' ⟨s0, s1⟩
    go_simp
    with_reducible rfl
  rotate_left
  · simp only [Act.put, List.setIfInBounds_toArray, List.set_cons_zero, List.set_cons_succ, i64_w, i32_w]
    rfl
  refine one_ (i := 7) (N := some 37) #[true, true, true, true, true, true, true, true, false, false] rfl rfl (one_of HT_.out (by kernel_rfl)) (by decide) (fun K hK => ?_)
  refine conv_ tx (by rfl) rfl rfl (by rfl) ?_
  refine ⟨_, _, hcv _, _, rfl, ?_⟩
  refine hK.out _ _ ⟨up_made hHeld.1 tx, up_made hHeld.2 tx⟩ (fun hHeld => ?_)
  clear hK K
  refine norm_ (a' := ?_) ?_ ?_
  rotate_left
  · show Act.put _ (some 37) _ = _
    simp only [Act.put, List.setIfInBounds_toArray, List.set_cons_zero, List.set_cons_succ, i64_w, i32_w]
    rfl
  refine one_ (i := 8) (N := some 38) #[true, true, true, true, true, true, true, true, true, false] rfl rfl (one_of HT_.out (by kernel_rfl)) (by decide) (fun K hK => ?_)
  refine goes_ Tryz.func91 (by kernel_rfl) rfl #[.slice A l.length c, .slice (some ⟨(w.alloc (.cells (nodeV 5 a b tx (.slice A4 n4 c4) ky lo hi) 37)).drew.heap.size, 0, none⟩) tx.size (grownCap (w.alloc (.cells (nodeV 5 a b tx (.slice A4 n4 c4) ky lo hi) 37)).drew tx.size 0 5)] (by rfl) rfl rfl (by (try simp only [List.map_toArray, List.map_cons, List.map_nil]); first | done | rfl) ?_
  refine (HC.out _ (bytes_below (below_drew (below_alloc (Below.refl _ _) _)) (by simp) _ _) _ _ (subMade _ tx HT.out)).mono ?_
  rintro e w' ⟨rfl, ⟨⟨nd, rfl⟩⟩⟩
  refine ⟨_, rfl, ?_⟩
  refine hK.out _ _ hHeld (fun hHeld => ?_)
  clear hK K
  refine norm_ (a' := ?_) ?_ ?_
  rotate_left
  · show Act.put _ (some 38) _ = _
    simp only [Act.put, List.setIfInBounds_toArray, List.set_cons_zero, List.set_cons_succ, i64_w, i32_w]
    rfl
  refine pure_ (i := 9) (N := some 4) (v := ?_) (a' := ?_) #[true, true, true, true, true, true, true, true, true, true] rfl rfl (any_of HT_.out (by kernel_rfl)) (fun _ _ _ h => h) (Or.inl ⟨by rfl, ?_⟩) ?_ ?_
  rotate_left
  · intro w'
    go_simp
    with_reducible rfl
  rotate_left
  · simp only [Act.put, List.setIfInBounds_toArray, List.set_cons_zero, List.set_cons_succ, i64_w, i32_w]
    rfl
  refine done_ (done_of HT_.out (by kernel_rfl)) ?_
  clear hHeld HT_ HW_
  go_wp2_with fail
  go_ret
  exact ⟨rfl, pw_below_drewN (bytes_below (below_drew (below_alloc (Below.refl _ _) _)) (by simp) _ _) nd⟩
set_option maxHeartbeats 8000000 in
set_option maxRecDepth 100000 in
theorem leafG_all :
    Calls Tryz.prog 64 #[.pointer (some ⟨R, 0, none⟩), .agg (nodeV 1 a b tx (.slice A4 n4 c4) ky lo hi)] w fun e w' => e = .returned (.bool true) ∧ Below w.heap.size w w' := by
  have hu_ := And.intro hC (And.intro hc (And.intro hb (And.intro hn (And.intro hbase (And.intro hRb hR)))))
  clear hu_
  clear hC hb hR
  go_enter Tryz.func64, Tryz.ntmps64
  go_wp2_with fail
  go_ret
  exact ⟨rfl, below_alloc (Below.refl _ _) _⟩
end
/-- The line that the row bears; nil has no room. -/
structure LineN (w : World) (l : List Int) (vl : Value) : Prop where
  mk :: (out : ∃ A c, vl = .slice A l.length c ∧ l.length ≤ c ∧ (Kd.int .u8).C w A l.length l ∧ (∀ x ∈ l, 0 ≤ x ∧ x < 256) ∧ l.length ≤ 1099511627776 ∧ (A = none → c = 0))
theorem LineN.is {w : World} {l : List Int} {vl : Value} (h : LineN w l vl) : LineIs w l vl := by
  obtain ⟨A, c, h1, h2, h3, h4, h5, _⟩ := h.out
  exact ⟨⟨A, c, h1, h2, h3, h4, h5⟩⟩
theorem LineN.below {w W : World} {l : List Int} {vl : Value} (h : LineN w l vl) (hb : Below w.heap.size w W) : LineN W l vl := by
  obtain ⟨A, c, h1, h2, h3, h4, h5, h6⟩ := h.out
  exact ⟨⟨A, c, h1, h2, Kd.C_below h3 hb, h4, h5, h6⟩⟩
theorem LineIs.below {w W : World} {l : List Int} {vl : Value} (h : LineIs w l vl) (hb : Below w.heap.size w W) : LineIs W l vl := by
  obtain ⟨A, c, h1, h2, h3, h4, h5⟩ := h.out
  exact ⟨⟨A, c, h1, h2, Kd.C_below h3 hb, h4, h5⟩⟩
theorem LineIs.slice {w : World} {l : List Int} {vl : Value} (h : LineIs w l vl) : ∃ a n m, vl = .slice a n m := by
  obtain ⟨A, c, h1, _⟩ := h.out
  exact ⟨_, _, _, h1⟩
theorem LineN.slice {w : World} {l : List Int} {vl : Value} (h : LineN w l vl) : ∃ a n m, vl = .slice a n m := by
  obtain ⟨A, c, h1, _⟩ := h.out
  exact ⟨_, _, _, h1⟩
theorem leafOK_all (w : World) (l : List Int) (s t : Int) (vl : Value) (n : ND) (hl : LineIs w l vl) (h1 : n.f0 = 1) : LeafOK w l s t vl n true := by
  obtain ⟨A, c, rfl, hc, hC, hb, hln⟩ := hl.out
  intro W A4 c4 hB hs hR hC4 hc4
  rw [h1]
  refine (leafG_all (w.heap.size + 3) l A c (w.heap.size + 1) s t _ _ _ _ _ _ _ _ _ W (Kd.C_below hC hB) hc hb hln hs (by omega) hR).mono ?_
  rintro e w' ⟨rfl, hb⟩
  exact ⟨rfl, hR.below hb, hb.mono (by omega), Kept.of_below hb _⟩
theorem leafOK_term (w : World) (l : List Int) (s t : Int) (vl : Value) (n : ND) (hl : LineIs w l vl) (h1 : n.f0 = 2) : LeafOK w l s t vl n (memB ((cutS none l).map bT) n.f3) := by
  obtain ⟨A, c, rfl, hc, hC, hb, hln⟩ := hl.out
  intro W A4 c4 hB hs hR hC4 hc4
  rw [h1]
  exact leafG_term (w.heap.size + 3) l A c (w.heap.size + 1) s t _ _ _ _ _ _ _ _ _ W (Kd.C_below hC hB) hc hb hln hs (by omega) hR
theorem leafOK_prefix (w : World) (l : List Int) (s t : Int) (vl : Value) (n : ND) (hl : LineIs w l vl) (h1 : n.f0 = 3) : LeafOK w l s t vl n (((cutS none l).map bT).any (prefB n.f3)) := by
  obtain ⟨A, c, rfl, hc, hC, hb, hln⟩ := hl.out
  intro W A4 c4 hB hs hR hC4 hc4
  rw [h1]
  exact leafG_prefix (w.heap.size + 3) l A c (w.heap.size + 1) s t _ _ _ _ _ _ _ _ _ W (Kd.C_below hC hB) hc hb hln hs (by omega) hR
theorem leafOK_sub (w : World) (l : List Int) (s t : Int) (vl : Value) (n : ND) (hl : LineN w l vl) (hX : FieldIn w) (hn : l.length < 4294967281) (ht : n.f3.size ≤ 9223372036854775807) (h1 : n.f0 = 5) : LeafOK w l s t vl n (subB l (bytesOf n.f3)) := by
  obtain ⟨A, c, rfl, hc, hC, hb, hln, hA⟩ := hl.out
  intro W A4 c4 hB hs hR hC4 hc4
  rw [h1]
  refine (leafG_sub (w.heap.size + 3) l A c (w.heap.size + 1) s t _ _ _ _ _ _ _ _ _ W (Kd.C_below hC hB) hc hb hln hs (by omega) hR (hX.below hB) hA hn ht).mono ?_
  rintro e w' ⟨rfl, hb⟩
  exact ⟨rfl, hR.below hb, hb.mono (by omega), Kept.of_below hb _⟩
end Go.Proofs.YtehaodbheifokaaGreatDoor.P
