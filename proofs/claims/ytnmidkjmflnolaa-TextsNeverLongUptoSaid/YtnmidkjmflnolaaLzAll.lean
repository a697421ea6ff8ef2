/- Several texts in one: MapsN, LzSpec, LzPack. -/
import Derived.Test.YtnmidkjmflnolaaMaps
import Derived.Test.YtnmidkjmflnolaaP1
import Derived.Laws.Closers25b
import Derived.Test.YtnmidkjmflnolaaWords
import Derived.Outline
section
namespace Go.Proofs.Ytnmidkjmflnolaa.Maps
open Go Go.Maps Go.ChangeMaps Go.MapKept Go.WideMaps
set_option linter.unusedVariables false

/-- Block b is a map of at most n entries; at every key s it holds f s. -/
def MapIsN (P : Program) (k e : TypeId) (q : IntKind) (E : El) (w : World) (b n : Nat) (f : Int → Option E.T) : Prop :=
  ∃ D : DataW Unit, w.ownsMap P k (plainElem P e) b n D ∧ IsMap D ∧ ∀ s : Int, has D (.int q s) = (f s).isSome ∧ ∀ z, D.atKey (.int q s) z = ((f s).map fun x => DataW.lit (E.lit x)).getD z
section
variable {P : Program} {k e t : TypeId} {q : IntKind} {E : El} {w : World} {b n : Nat} {f : Int → Option E.T}
theorem MapIsN.made (P : Program) (k e : TypeId) (q : IntKind) (E : El) (w : World) : MapIsN P k e q E (w.alloc (.map #[] 0)) w.heap.size 0 (fun _ => none) :=
  ⟨.map [], World.ownsMap_made w P k _, isMap_empty, fun s => ⟨rfl, fun z => rfl⟩⟩
theorem MapIsN.lt (h : MapIsN P k e q E w b n f) : b < w.heap.size := by obtain ⟨D, h, _⟩ := h; exact h.lt
theorem MapIsN.kept {w' : World} {row : Option Nat} (h : MapIsN P k e q E w b n f) (hg : w.grownBy w' row) (hne : some b ≠ row) : MapIsN P k e q E w' b n f := by
  obtain ⟨D, h, r⟩ := h; exact ⟨D, h.kept hg hne, r⟩
theorem MapIsN.alloc (h : MapIsN P k e q E w b n f) (o : Obj) : MapIsN P k e q E (w.alloc o) b n f := by
  obtain ⟨D, h, r⟩ := h; exact ⟨D, h.alloc o, r⟩
theorem MapIsN.drew (h : MapIsN P k e q E w b n f) : MapIsN P k e q E w.drew b n f := by
  obtain ⟨D, h, r⟩ := h; exact ⟨D, h.drew, r⟩
theorem MapIsN.block {w' : World} (h : MapIsN P k e q E w b n f) (hb : w'.heap[b]? = w.heap[b]?) : MapIsN P k e q E w' b n f := by
  obtain ⟨D, ho, r⟩ := h
  obtain ⟨es, c, hh, r2⟩ := ho
  exact ⟨D, ⟨es, c, hb.trans hh, r2⟩, r⟩
theorem MapIsN.below {w' : World} (h : MapIsN P k e q E w b n f) (hb : RowKit.Below w.heap.size w w') : MapIsN P k e q E w' b n f := h.block (hb.block b h.lt)
theorem MapIsN.mono (h : MapIsN P k e q E w b n f) {n' : Nat} (hn : n ≤ n') : MapIsN P k e q E w b n' f := by
  obtain ⟨D, h, r⟩ := h; exact ⟨D, h.mono hn, r⟩

/-- 'v, ok := m[s]' -/
theorem MapIsN.look_ok (h : MapIsN P k e q E w b n f) (hk : P.underlying k = some (.int q)) (he : El.fits P e E) (ht : P.underlying t = some (.map k e)) (hz : (zeroValue e).run P w = .ok (E.val E.zero) w) {s : Int} (hs : (Lit.int q s).wf = true) :
    (Instr.lookup t (.map (some b)) (.int q s) true).run P w = .ok (.tuple #[E.val ((f s).getD E.zero), .bool (f s).isSome]) w := by
  obtain ⟨D, ho, hm, hf⟩ := h
  obtain ⟨v, ps, hrun, hv⟩ := ho.look_ok (int_keyed hk) ht hz (elem_of he E.zero zero_wf) (keyOf_int_mk hk hs)
  obtain ⟨hh, hat⟩ := hf s
  obtain ⟨x, rfl, hx⟩ := lit_of_elem he hv
  rw [hrun, hh]
  have hx' : D.atKey (.int q s) (.lit (E.lit E.zero)) = .lit (E.lit x) := hx
  rw [hat] at hx'
  have : (f s).getD E.zero = x := by
    cases hfs : f s with
    | none => rw [hfs] at hx'; simp at hx'; exact lit_inj hx'
    | some y => rw [hfs] at hx'; simp at hx'; exact lit_inj hx'
  rw [this]
def updN {α : Type} (f : Int → Option α) (s : Int) (x : α) : Int → Option α := fun t => if t = s then some x else f t
/-- 'm[s] = x' -/
theorem MapIsN.store (h : MapIsN P k e q E w b n f) (hk : P.underlying k = some (.int q)) (he : El.fits P e E) (ht : P.underlying t = some (.map k e)) (hn : n < maxLen) {s : Int} (hs : (Lit.int q s).wf = true) (x : E.T) (hw : (E.lit x).wf = true) :
    ∃ w', (Instr.mapUpdate t (.map (some b)) (.int q s) (E.val x)).run P w = .ok () w' ∧ MapIsN P k e q E w' b (n + 1) (updN f s x) ∧ w.grownBy w' (some b) := by
  obtain ⟨D, ho, hm, hf⟩ := h
  obtain ⟨w', hrun, ho', hg⟩ := ho.update (int_keyed hk) ht hn (keyOf_int_mk hk hs) (elem_of he x hw)
  refine ⟨w', hrun, ⟨_, ho', hm.put _ _, fun u => ?_⟩, hg⟩
  unfold updN
  by_cases hu : u = s
  · subst hu
    rw [if_pos rfl]
    have hkl : WideAt.IsKeyLit (Lit.int q u) := by simp [WideAt.IsKeyLit]
    exact ⟨by rw [has_put_same hm hkl]; rfl, fun z => by rw [atKey_put_same hm hkl]; rfl⟩
  · rw [if_neg hu]
    have hne : Lit.int q u ≠ Lit.int q s := fun h => hu (by injection h)
    exact ⟨by rw [has_put_other hne]; exact (hf u).1, fun z => by rw [atKey_put_other hne]; exact (hf u).2 z⟩
/-- 'm[s] = x' at the operation. -/
theorem wpList_storeN {ops : Array Oper} {rest : List Oper} {o : Oper} {a : Act} {Q : Exit → Act → World → Prop}
    (hgd : o.guard = none) (m y v : Operand) (t : TypeId) (hop : o.op = Op.mapUpdate t m y v) (hk : P.underlying k = some (.int q)) (he : El.fits P e E) (ht : P.underlying t = some (.map k e))
    (hm : a.eval m = .map (some b)) (h : MapIsN P k e q E w b n f) (hn : n < maxLen) (s : Int) (hy : a.eval y = .int q s) (hs : (Lit.int q s).wf = true) (x : E.T) (hv : a.eval v = E.val x) (hw : (E.lit x).wf = true)
    (hK : ∀ w', MapIsN P k e q E w' b (n + 1) (updN f s x) → w.grownBy w' (some b) → wpList P ops Q rest (a.put o.dst undef) w') :
    wpList P ops Q (o :: rest) a w := by
  refine wpList_plain hgd fun K' hK' => ?_
  obtain ⟨w', hrun, r1, r2⟩ := h.store hk he ht hn hs x hw
  unfold Oper.wp
  simp [execOp, hop, hm, hy, hv, hrun, Result.andThen]
  exact hK' _ _ (hK w' r1 r2)
end
end Go.Proofs.Ytnmidkjmflnolaa.Maps
end
section
namespace Go.Proofs.Ytnmidkjmflnolaa.P
open Go Go.RowKit Go.Proofs.YtnmidkjmflnolaaW.PrintWords Go.Proofs.YtnmidkjmflnolaaW.PrintLast Go.Proofs.YtnmidkjmflnolaaW.PrintMore Go.Proofs.Ytnmidkjmflnolaa.Maps
set_option linter.unusedVariables false

/-- The four bytes at a place, as one number. -/
def key4 (b : List Int) (i : Nat) : Int := (lz_key.f (b.drop i)).getD 0
/-- The last place below n with that key. -/
def lastIx (b : List Int) : Nat → Int → Option Int
  | 0, _ => none
  | n + 1, u => if u = key4 b n then some (n : Int) else lastIx b n u
theorem lastIx_lt (b : List Int) : ∀ (n : Nat) (u k : Int), lastIx b n u = some k → ∃ j : Nat, k = (j : Int) ∧ j < n
  | 0, _, _, h => by cases h
  | n + 1, u, k, h => by
    unfold lastIx at h
    split at h
    · cases h; exact ⟨n, rfl, Nat.lt_succ_self n⟩
    · obtain ⟨j, h1, h2⟩ := lastIx_lt b n u k h
      exact ⟨j, h1, Nat.lt_succ_of_lt h2⟩
theorem lastIx_upd (b : List Int) (n : Nat) : updN (lastIx b n) (key4 b n) (n : Int) = lastIx b (n + 1) := by
  funext u
  simp only [updN, lastIx]
theorem key4_in (b : List Int) (i : Nat) : (Lit.int .u32 (key4 b i)).wf = true := by
  unfold key4 lz_key.f
  repeat' split
  all_goals first
    | (simp only [Option.getD_some]
       have h := Go.bits_within .or .u32 (Go.bits .or .u32 (Go.bits .or .u32 ((rd (b.drop i) 0) % 4294967296) ((((rd (b.drop i) 1) % 4294967296) * 256) % 4294967296)) ((((rd (b.drop i) 2) % 4294967296) * 65536) % 4294967296)) ((((rd (b.drop i) 3) % 4294967296) * 16777216) % 4294967296)
       simp only [Lit.wf, Bool.and_eq_true, decide_eq_true_eq]
       exact h)
    | decide
theorem key4_some (b : List Int) (i : Nat) (h : i + 4 ≤ b.length) : lz_key.f (b.drop i) = some (key4 b i) := by
  unfold key4 lz_key.f
  rw [if_pos (by rw [List.length_drop]; omega), if_pos (by rw [List.length_drop]; omega), if_pos (by rw [List.length_drop]; omega), if_pos (by rw [List.length_drop]; omega)]
  rfl
/-- How far two places go alike. -/
def matchN (b : List Int) (i k : Nat) : Nat → Nat → Nat
  | 0, n => n
  | d + 1, n => if i + n < b.length ∧ rd b ((i + n : Nat) : Int) = rd b ((k + n : Nat) : Int) then matchN b i k d (n + 1) else n
def hitAt (b : List Int) (i : Nat) : Option Nat := (lastIx b i (key4 b i)).bind fun k => if (i : Int) - k > 65535 then none else some k.toNat
def packL (b : List Int) (kk : Nat) : Nat → List Int → Nat → Nat → Option (List Int)
  | 0, _, _, _ => none
  | d + 1, out, fr, i =>
    if b.length < i + 4 then lz_literals.f kk out (b.drop fr) 0
    else match hitAt b i with
      | none => packL b kk d out fr (i + 1)
      | some k =>
        (lz_literals.f kk out ((b.take i).drop fr) ((matchN b i k b.length 4 : Int) - 4)).bind fun o1 =>
        if o1.length + 2 < 140737488355328 then
          if (matchN b i k b.length 4 : Int) - 4 ≥ 15 then
            (lz_lay.f kk (o1 ++ [((i : Int) - k) % 256, (((i : Int) - k) / 256) % 256]) ((matchN b i k b.length 4 : Int) - 4 - 15)).bind fun o3 =>
            packL b kk d o3 (i + matchN b i k b.length 4) (i + matchN b i k b.length 4)
          else packL b kk d (o1 ++ [((i : Int) - k) % 256, (((i : Int) - k) / 256) % 256]) (i + matchN b i k b.length 4) (i + matchN b i k b.length 4)
        else none
def lz_Pack.f (k : Nat) (l0 : List Int) : Option (List Int) := if l0.length ≤ 1048576 then packL l0 k (l0.length + 2) [] 0 0 else none
theorem packL_mono (b : List Int) (kk : Nat) : ∀ d out fr i, LeO (packL b kk d out fr i) (packL b (kk + 1) d out fr i)
  | 0, _, _, _ => LeO.refl _
  | d + 1, out, fr, i => by
    unfold packL
    refine LeO.ite (lz_literals.mono _ _ _ _) ?_
    cases hitAt b i with
    | none => exact packL_mono b kk d _ _ _
    | some k =>
      refine LeO.bind (lz_literals.mono _ _ _ _) fun o1 => LeO.ite (LeO.ite (LeO.bind (lz_lay.mono _ _ _) fun o3 => packL_mono b kk d _ _ _) (packL_mono b kk d _ _ _)) (LeO.refl _)
theorem lz_Pack.mono : ∀ a0 k, LeO (lz_Pack.f k a0) (lz_Pack.f (k + 1) a0) := by
  intro a0 k
  unfold lz_Pack.f
  exact LeO.ite (packL_mono _ _ _ _ _ _) (LeO.refl _)
theorem matchN_le (b : List Int) (i k : Nat) : ∀ d n, n ≤ matchN b i k d n ∧ (i + n ≤ b.length → i + matchN b i k d n ≤ b.length)
  | 0, n => ⟨Nat.le_refl _, fun h => h⟩
  | d + 1, n => by
    unfold matchN
    split
    · next hc =>
      obtain ⟨h1, h2⟩ := matchN_le b i k d (n + 1)
      exact ⟨by omega, fun h => h2 (by omega)⟩
    · exact ⟨Nat.le_refl _, fun h => h⟩
theorem matchN_more (b : List Int) (i k : Nat) : ∀ d n, b.length ≤ d + i + n → matchN b i k (d + 1) n = matchN b i k d n
  | 0, n, h => by
    unfold matchN
    rw [if_neg (by omega)]
  | d + 1, n, h => by
    show (if i + n < b.length ∧ rd b ((i + n : Nat) : Int) = rd b ((k + n : Nat) : Int) then matchN b i k (d + 1) (n + 1) else n) = (if i + n < b.length ∧ rd b ((i + n : Nat) : Int) = rd b ((k + n : Nat) : Int) then matchN b i k d (n + 1) else n)
    split
    · exact matchN_more b i k d (n + 1) (by omega)
    · rfl
theorem matchN_stop (b : List Int) (i k n d : Nat) (h : ¬ (i + n < b.length ∧ rd b ((i + n : Nat) : Int) = rd b ((k + n : Nat) : Int))) : matchN b i k d n = n := by
  cases d with
  | zero => rfl
  | succ d => unfold matchN; rw [if_neg h]
theorem hitAt_none {b : List Int} {i : Nat} (h : lastIx b i (key4 b i) = none) : hitAt b i = none := by unfold hitAt; rw [h]; rfl
theorem hitAt_far {b : List Int} {i : Nat} {k : Int} (h : lastIx b i (key4 b i) = some k) (hf : (i : Int) - k > 65535) : hitAt b i = none := by unfold hitAt; rw [h, Option.bind_some, if_pos hf]
theorem hitAt_some {b : List Int} {i : Nat} {k : Int} (h : lastIx b i (key4 b i) = some k) (hf : ¬ (i : Int) - k > 65535) : hitAt b i = some k.toNat := by unfold hitAt; rw [h, Option.bind_some, if_neg hf]
end Go.Proofs.Ytnmidkjmflnolaa.P
end
section
namespace Go.Proofs.Ytnmidkjmflnolaa.P
open Go Go.RowKit Go.Proofs.YtnmidkjmflnolaaW.PrintWords Go.Proofs.YtnmidkjmflnolaaW.PrintLast Go.Proofs.YtnmidkjmflnolaaW.PrintMore Go.Proofs.Ytnmidkjmflnolaa.Maps
attribute [local go_sem] max2_int min2_int max_two min_two max_three min_three max_four min_four
set_option linter.unusedVariables false
set_option linter.unusedSimpArgs false

theorem zero_int0 (w : World) : (zeroValue 3).run Try.prog w = .ok (.int .i64 0) w := by kernel_rfl
theorem two_reads (w : World) (x y : Int) : Kd.C (Kd.int .u8) (w.alloc (.cells #[.int .u8 x, .int .u8 y] 5)) (some ⟨w.heap.size, 0, none⟩) 2 [x, y] := by
  refine ⟨rfl, by omega, fun _ => ⟨⟨w.heap.size, 0, none⟩, rfl, fun j p hj => ⟨[.int .u8 p], rfl, rfl, fun i u hi => ?_⟩⟩⟩
  obtain ⟨rfl, rfl⟩ : i = 0 ∧ u = .int .u8 p := by
    cases i with
    | zero => simp at hi; exact ⟨rfl, hi.symm⟩
    | succ i => simp at hi
  show _ = _
  rw [WideShapes.add_plain, show 0 + (j * (Kd.int .u8).sz + 0) = j by show 0 + (j * 1 + 0) = j; omega, blk_cell (blk_new w (.cells #[.int .u8 x, .int .u8 y] 5 (0, 0)))]
  match j, hj with
  | 0, hj => simp at hj; subst hj; rfl
  | 1, hj => simp at hj; subst hj; rfl
  | j + 2, hj => simp at hj
set_option maxHeartbeats 4000000 in
set_option maxRecDepth 100000 in
theorem lz_Pack.calls (k : Nat) (A0 : Option Addr) (c0 : Nat) (l0 : List Int) (r : List Int) (w : World) (hr0 : Kd.C (Kd.int .u8) w A0 l0.length l0) (hc0 : l0.length ≤ c0) (h : lz_Pack.f k l0 = some r) :
    Calls Try.prog 55 #[.slice A0 l0.length c0] w fun e w' => ∃ v0_ : Value, e = .returned (v0_) ∧ Kd.R (Kd.int .u8) 5 w' w.heap.size (fun _ => True) v0_ r ∧ Below w.heap.size w w' := by
  have HR0 := Aside0.mk hr0
  have HC0 := Aside0.mk hc0
  unfold lz_Pack.f at h
  by_cases hL : l0.length ≤ 1048576
  case neg => rw [if_neg hL] at h; cases h
  rw [if_pos hL] at h
  have HL := Aside0.mk hL
  have HP := Aside0.mk h
  clear h hr0 hc0 hL
  have hmm := @run_makeMap Try.prog
  go_enter Try.func55, Try.ntmps55
  go_wp2
  go_loopg [3, 5, 6, 7] (l0.length + 1) (fun kq v3 v5 v6 v7 wr => ∃ (out : List Int) (sn fr i : Nat), v5 = .int .i64 (sn : Int) ∧ v6 = .int .i64 (fr : Int) ∧ v7 = .int .i64 (i : Int) ∧ Aside0 (sn ≤ i ∧ fr ≤ i ∧ i ≤ l0.length) ∧ Aside0 (packL l0 k (kq + 1) out fr i = some r) ∧ Aside0 (MapIsN Try.prog 103 3 .u32 (.int .i64) wr w.heap.size sn (lastIx l0 sn)) ∧ Aside0 (Kd.R (Kd.int .u8) 5 wr w.heap.size (fun k_ => k_ ≠ w.heap.size) v3 out) ∧ Aside0 (Below w.heap.size w wr))
  case atStart => exact ⟨[], 0, 0, 0, rfl, rfl, rfl, ⟨by omega⟩, HP, ⟨MapIsN.made _ _ _ _ _ _⟩, ⟨Kd.R_nil _ _ _ _ _⟩, ⟨below_alloc (Below.refl _ _) _⟩⟩
  case round =>
    clear HP hmm
    obtain ⟨out, sn, fr, i, rfl, rfl, rfl, HI, HP, HM, HO, HB⟩ := hrel
    obtain ⟨i0, hi0, _, hsz0, _⟩ := info_parts info_u8
    have hI := HI.out
    have hle := HL.out
    obtain ⟨D, rfl⟩ : ∃ D : Nat, D = gk := ⟨_, rfl⟩
    by_cases hend : l0.length < i + 4
    · have e0 : decide ((4 : Int) ≤ wrap64 ((l0.length : Int) - (i : Int))) = false := decide_eq_false (by unfold wrap64; omega)
      have HE := Aside0.mk (show lz_literals.f k out (l0.drop fr) 0 = some r by have h := HP.out; unfold packL at h; rw [if_pos hend] at h; exact h)
      obtain ⟨Ad, hcut, hAd, hCd⟩ := print_drop_of (P := Try.prog) (Value.int .u8) 0 23 5 .i64 Try.underlying23 hi0 hsz0 A0 c0 l0 (fr : Int) (by omega) (by omega) HC0.out
      have HRd := Aside0.mk (Kd.C_of_reads (h1 := fun _ => rfl) (hAd _ (Kd.reads_of_C HR0.out)))
      have HCd := Aside0.mk hCd
      simp only [Int.toNat_natCast] at hcut HRd HCd
      clear hAd hCd hi0 hsz0 hI hle hend HP
      go_wp2_with (go_at_call 76; refine callsArgs (args := #[u3, .slice Ad (l0.drop fr).length (c0 - fr), .int .i64 0]) (by simp only [List.length_drop]) ((lz_literals.calls k (fun k_ => some k_ = u3.ownBlock) u3 out Ad _ (l0.drop fr) 0 r w _ HB.out (Kd.R_tight rfl HO.out) (Kd.C_kept_came (Kd.heap_int .u8) HRd.out HB.out (fun k_ hk => Kd.R_base HO.out k_ hk.symm)) HCd.out HE.out).mono ?_); rintro e w2 ⟨v2, rfl, ho2, hb2, hk2⟩)
      go_ret
      exact ⟨_, rfl, Kd.R_mono ho2 (fun _ _ => trivial), hb2⟩
    · have e0 : decide ((4 : Int) ≤ wrap64 ((l0.length : Int) - (i : Int))) = true := decide_eq_true (by unfold wrap64; omega)
      have HI2 := Aside0.mk (show i + 4 ≤ l0.length by omega)
      have HP2 := Aside0.mk (show (match hitAt l0 i with
        | none => packL l0 k D out fr (i + 1)
        | some j =>
          (lz_literals.f k out ((l0.take i).drop fr) ((matchN l0 i j l0.length 4 : Int) - 4)).bind fun o1 =>
          if o1.length + 2 < 140737488355328 then
            if (matchN l0 i j l0.length 4 : Int) - 4 ≥ 15 then
              (lz_lay.f k (o1 ++ [((i : Int) - j) % 256, (((i : Int) - j) / 256) % 256]) ((matchN l0 i j l0.length 4 : Int) - 4 - 15)).bind fun o3 =>
              packL l0 k D o3 (i + matchN l0 i j l0.length 4) (i + matchN l0 i j l0.length 4)
            else packL l0 k D (o1 ++ [((i : Int) - j) % 256, (((i : Int) - j) / 256) % 256]) (i + matchN l0 i j l0.length 4) (i + matchN l0 i j l0.length 4)
          else none) = some r by have h := HP.out; rw [packL, if_neg hend] at h; exact h)
      have HI3 := Aside0.mk (show sn ≤ i by omega)
      have HI4 := Aside0.mk (show fr ≤ i by omega)
      clear hI hle hend HP HI hi0 hsz0
      go_wp2
      go_loopg [5] (i - sn) (fun kq v5 wq => ∃ (s : Nat), v5 = .int .i64 (s : Int) ∧ Aside0 (s ≤ i ∧ kq = i - s) ∧ Aside0 (MapIsN Try.prog 103 3 .u32 (.int .i64) wq w.heap.size s (lastIx l0 s)) ∧ Aside0 (Kd.R (Kd.int .u8) 5 wq w.heap.size (fun k_ => k_ ≠ w.heap.size) u3 out) ∧ Aside0 (Below w.heap.size w wq))
      case atStart => exact ⟨sn, rfl, ⟨⟨HI3.out, rfl⟩⟩, HM, HO, HB⟩
      case round =>
        clear HM HO HB HI3
        obtain ⟨s, rfl, HS, HM, HO, HB⟩ := hrel
        have hI := HI2.out
        have hS := HS.out
        have hle := HL.out
        obtain ⟨i0, hi0, _, hsz0, _⟩ := info_parts info_u8
        by_cases hs : s < i
        · have d0 : decide ((s : Int) < (i : Int)) = true := decide_eq_true (by omega)
          have d1 : decide (s < i) = true := decide_eq_true hs
          have hw2 : wrap64 ((s : Int) + 1) = ((s + 1 : Nat) : Int) := by unfold wrap64; omega
          obtain ⟨Ad, hcut, hAd, hCd⟩ := print_drop_of (P := Try.prog) (Value.int .u8) 0 23 5 .i64 Try.underlying23 hi0 hsz0 A0 c0 l0 (s : Int) (by omega) (by omega) HC0.out
          have HRd := Aside0.mk (Kd.C_of_reads (h1 := fun _ => rfl) (hAd _ (Kd.reads_of_C HR0.out)))
          have HCd := Aside0.mk hCd
          have HKY := Aside0.mk (key4_some l0 s (by omega))
          have HMX := Aside0.mk (show s < maxLen by unfold maxLen; omega)
          have HW := Aside0.mk hw2
          simp only [Int.toNat_natCast] at hcut HRd HCd
          have HS2 := Aside0.mk (show s + 1 ≤ i ∧ i - (s + 1) < gk by have := hS.2; omega)
          have hwf := Aside0.mk (show (Lit.int .i64 (s : Int)).wf = true by simp only [Lit.wf, Bool.and_eq_true, decide_eq_true_eq]; rw [show IntKind.i64.min = -9223372036854775808 from rfl, show IntKind.i64.max = 9223372036854775807 from rfl]; omega)
          clear hAd hCd hi0 hsz0 hI hle hS hs HS hw2
          go_wp2_with (first
            | (go_at_call 75; refine callsArgs (args := #[.slice Ad (l0.drop s).length (c0 - s)]) (by simp only [List.length_drop]) ((lz_key.calls Ad _ (l0.drop s) (key4 l0 s) _ (Kd.C_below HRd.out HB.out) HCd.out HKY.out).mono ?_); rintro e w2 ⟨rfl, hd⟩; have HB2 := Aside0.mk (below_step HB.out hd.below); have HM2 := Aside0.mk (HM.out.below hd.below); have HO2 := Aside0.mk (Kd.R_below HO.out hd.below); clear hd)
            | (at_mapUpdate; refine wpList_storeN rfl _ _ _ 102 rfl Try.underlying103 (show El.fits _ _ (.int .i64) from Try.underlying3) Try.underlying102 rfl HM2.out HMX.out (key4 l0 s) rfl (key4_in l0 s) (s : Int) rfl hwf.out ?_; intro w3 hm3 hg3; rw [lastIx_upd] at hm3; have HM3 := Aside0.mk hm3; have HK3 := Aside0.mk (Kept.of_grown (S := fun k_ => k_ = w.heap.size) hg3 (Kept.refl _ _) (fun k_ hk => .inl (by cases hk; rfl))); have HB3 := Aside0.mk (HB2.out.grown hg3 HB2.out.size (fun j hj => by cases hj; exact Nat.le_refl _)); clear hm3 hg3))
          go_roundg (i - (s + 1))
          case measure => exact HS2.out.2
          case rel => exact ⟨s + 1, by first | rfl | rw [HW.out] | (simp only [Value.int.injEq, true_and]; omega) | go_num, ⟨⟨HS2.out.1, rfl⟩⟩, HM3, ⟨Kd.R_kept HO2.out HK3.out (fun _ hk => hk)⟩, HB3⟩
        · have d0 : decide ((s : Int) < (i : Int)) = false := decide_eq_false (by omega)
          have d1 : decide (s < i) = false := decide_eq_false hs
          obtain rfl : s = i := by omega
          obtain ⟨Ad, hcut, hAd, hCd⟩ := print_drop_of (P := Try.prog) (Value.int .u8) 0 23 5 .i64 Try.underlying23 hi0 hsz0 A0 c0 l0 (s : Int) (by omega) (by omega) HC0.out
          have HRd := Aside0.mk (Kd.C_of_reads (h1 := fun _ => rfl) (hAd _ (Kd.reads_of_C HR0.out)))
          have HCd := Aside0.mk hCd
          have HKY := Aside0.mk (key4_some l0 s (by omega))
          simp only [Int.toNat_natCast] at hcut HRd HCd
          have hw2 : wrap64 ((s : Int) + 1) = ((s + 1 : Nat) : Int) := by unfold wrap64; omega
          clear hAd hCd hi0 hsz0 hI hle hS hs HS
          cases hlast : lastIx l0 s (key4 l0 s) with
          | none =>
            have HH := Aside0.mk (show packL l0 k D out fr (s + 1) = some r by have h := HP2.out; rw [hitAt_none hlast] at h; exact h)
            have HLT := Aside0.mk hlast
            clear hlast HP2
            go_wp2_with (go_at_call 75; refine callsArgs (args := #[.slice Ad (l0.drop s).length (c0 - s)]) (by simp only [List.length_drop]) ((lz_key.calls Ad _ (l0.drop s) (key4 l0 s) _ (Kd.C_below HRd.out HB.out) HCd.out HKY.out).mono ?_); rintro e w2 ⟨rfl, hd⟩; have HB2 := Aside0.mk (below_step HB.out hd.below); have hrun := (HM.out.below hd.below).look_ok Try.underlying103 (show El.fits _ _ (.int .i64) from Try.underlying3) Try.underlying102 (zero_int0 w2) (key4_in l0 s); rw [HLT.out] at hrun; simp only [El.val, Option.getD_none, Option.isSome_none, El.zero] at hrun; have HM2 := Aside0.mk (HM.out.below hd.below); have HO2 := Aside0.mk (Kd.R_below HO.out hd.below); clear hd)
            have HG := Aside0.mk (show D ≠ 0 by rintro rfl; have h := HH.out; simp only [packL] at h; cases h)
            go_roundg (D - 1)
            case measure => have := HG.out; omega
            case rel => exact ⟨out, s, fr, s + 1, rfl, rfl, by first | rfl | go_num, ⟨by have := HI2.out; have := HI4.out; omega⟩, ⟨by rw [Nat.sub_add_cancel (by have := HG.out; omega)]; exact HH.out⟩, HM2, HO2, HB2⟩
          | some kk =>
            obtain ⟨j, rfl, hj⟩ := lastIx_lt l0 s _ _ hlast
            have hI := HI2.out
            have hle := HL.out
            by_cases hfar : (s : Int) - (j : Int) > 65535
            · have HH := Aside0.mk (show packL l0 k D out fr (s + 1) = some r by have h := HP2.out; rw [hitAt_far hlast hfar] at h; exact h)
              have HLT := Aside0.mk hlast
              have f0 : decide ((65535 : Int) < wrap64 ((s : Int) - (j : Int))) = true := decide_eq_true (by unfold wrap64; omega)
              clear hlast HP2 hfar hj hI hle
              go_wp2_with (go_at_call 75; refine callsArgs (args := #[.slice Ad (l0.drop s).length (c0 - s)]) (by simp only [List.length_drop]) ((lz_key.calls Ad _ (l0.drop s) (key4 l0 s) _ (Kd.C_below HRd.out HB.out) HCd.out HKY.out).mono ?_); rintro e w2 ⟨rfl, hd⟩; have HB2 := Aside0.mk (below_step HB.out hd.below); have hrun := (HM.out.below hd.below).look_ok Try.underlying103 (show El.fits _ _ (.int .i64) from Try.underlying3) Try.underlying102 (zero_int0 w2) (key4_in l0 s); rw [HLT.out] at hrun; simp only [El.val, Option.getD_some, Option.isSome_some] at hrun; have HM2 := Aside0.mk (HM.out.below hd.below); have HO2 := Aside0.mk (Kd.R_below HO.out hd.below); clear hd)
              have HG := Aside0.mk (show D ≠ 0 by rintro rfl; have h := HH.out; simp only [packL] at h; cases h)
              go_roundg (D - 1)
              case measure => have := HG.out; omega
              case rel => exact ⟨out, s, fr, s + 1, rfl, rfl, by first | rfl | go_num, ⟨by have := HI2.out; have := HI4.out; omega⟩, ⟨by rw [Nat.sub_add_cancel (by have := HG.out; omega)]; exact HH.out⟩, HM2, HO2, HB2⟩
            · have HP3 := HP2.out
              rw [hitAt_some hlast hfar] at HP3
              simp only [Int.toNat_natCast] at HP3
              obtain ⟨M, hM⟩ : ∃ M, matchN l0 s j l0.length 4 = M := ⟨_, rfl⟩
              rw [hM] at HP3
              obtain ⟨o1, hlit, HP4⟩ := Option.bind_eq_some_iff.1 HP3
              have HLIT := Aside0.mk hlit
              have HP5 := Aside0.mk HP4
              have HMM := Aside0.mk hM
              have HLT := Aside0.mk hlast
              have HJ := Aside0.mk hj
              have f0 : decide ((65535 : Int) < wrap64 ((s : Int) - (j : Int))) = false := decide_eq_false (by unfold wrap64; omega)
              clear hlast HP2 HP3 HP4 hlit hfar hj hI hle hM
              go_wp2_with (go_at_call 75; refine callsArgs (args := #[.slice Ad (l0.drop s).length (c0 - s)]) (by simp only [List.length_drop]) ((lz_key.calls Ad _ (l0.drop s) (key4 l0 s) _ (Kd.C_below HRd.out HB.out) HCd.out HKY.out).mono ?_); rintro e w2 ⟨rfl, hd⟩; have HB2 := Aside0.mk (below_step HB.out hd.below); have hrun := (HM.out.below hd.below).look_ok Try.underlying103 (show El.fits _ _ (.int .i64) from Try.underlying3) Try.underlying102 (zero_int0 w2) (key4_in l0 s); rw [HLT.out] at hrun; simp only [El.val, Option.getD_some, Option.isSome_some] at hrun; have HM2 := Aside0.mk (HM.out.below hd.below); have HO2 := Aside0.mk (Kd.R_below HO.out hd.below); clear hd)
              go_loopg [10] l0.length (fun kq v10 wq => ∃ (n : Nat), v10 = .int .i64 (n : Int) ∧ Aside0 (4 ≤ n ∧ s + n ≤ l0.length ∧ matchN l0 s j kq n = M) ∧ Aside0 (l0.length ≤ kq + s + n) ∧ Aside0 (MapIsN Try.prog 103 3 .u32 (.int .i64) wq w.heap.size s (lastIx l0 s)) ∧ Aside0 (Kd.R (Kd.int .u8) 5 wq w.heap.size (fun k_ => k_ ≠ w.heap.size) u3 out) ∧ Aside0 (Below w.heap.size w wq))
              case atStart => exact ⟨4, rfl, ⟨⟨by omega, HI2.out, HMM.out⟩⟩, ⟨by omega⟩, HM2, HO2, HB2⟩
              case round =>
                clear HM2 HO2 HB2 HM HO HB HMM
                obtain ⟨n, rfl, HN, HND, HM, HO, HB⟩ := hrel
                have hI := HI2.out
                have hn := HN.out
                have hle := HL.out
                have hj := HJ.out
                obtain ⟨js, hjs⟩ : ∃ x : Int, wrap64 ((s : Int) + (n : Int)) = x := ⟨_, rfl⟩
                obtain ⟨jk, hjk⟩ : ∃ x : Int, wrap64 ((j : Int) + (n : Int)) = x := ⟨_, rfl⟩
                have ejs : js = ((s + n : Nat) : Int) := by rw [← hjs]; unfold wrap64; omega
                have ejk : jk = ((j + n : Nat) : Int) := by rw [← hjk]; unfold wrap64; omega
                by_cases hc : s + n < l0.length ∧ rd l0 ((s + n : Nat) : Int) = rd l0 ((j + n : Nat) : Int)
                · obtain ⟨hc1, hc2⟩ := hc
                  rw [← ejs, ← ejk] at hc2
                  have g0 : decide (js < (l0.length : Int)) = true := decide_eq_true (by omega)
                  have p1 : 0 ≤ js := by omega
                  have q1 : js < (l0.length : Int) := by omega
                  obtain ⟨ad1, e1, hx1⟩ := Kd.at_int HR0.out js p1 q1
                  cases e1
                  replace hx1 := (HB.out.cell (World.block_lt_of_cell? w _ hx1)).trans hx1
                  have p2 : 0 ≤ jk := by omega
                  have q2 : jk < (l0.length : Int) := by omega
                  obtain ⟨ad2, e2, hx2⟩ := Kd.at_int HR0.out jk p2 q2
                  obtain rfl : ad1 = ad2 := (by injection e2)
                  replace hx2 := (HB.out.cell (World.block_lt_of_cell? w _ hx2)).trans hx2
                  replace p1 := eq_true p1
                  replace q1 := eq_true q1
                  replace p2 := eq_true p2
                  replace q2 := eq_true q2
                  have b0 : (rd l0 js == rd l0 jk) = true := beq_iff_eq.mpr hc2
                  have HN2 := Aside0.mk (show 4 ≤ n + 1 ∧ s + (n + 1) ≤ l0.length by omega)
                  have HW := Aside0.mk (show wrap64 ((n : Int) + 1) = ((n + 1 : Nat) : Int) by unfold wrap64; omega)
                  have hnz : gk ≠ 0 := by
                    rintro rfl
                    have h := hn.2.2
                    exact absurd (HND.out) (by omega)
                  have HN3 := Aside0.mk (show gk ≠ 0 ∧ matchN l0 s j (gk - 1) (n + 1) = M by
                    refine ⟨hnz, ?_⟩
                    obtain ⟨g, rfl⟩ : ∃ g, gk = g + 1 := ⟨gk - 1, by omega⟩
                    have h := hn.2.2
                    rw [matchN, if_pos ⟨hc1, by rw [← ejs, ← ejk]; exact hc2⟩] at h
                    exact h)
                  have HND2 := Aside0.mk (show l0.length ≤ gk - 1 + s + (n + 1) by have := HND.out; omega)
                  clear hc1 hc2 hI hn hle hj ejs ejk HN hnz HND
                  go_wp2
                  repeat (go_quiet (fail); try go_wp2)
                  go_roundg (gk - 1)
                  case measure => have := HN3.out.1; omega
                  case rel => exact ⟨n + 1, by first | rfl | rw [HW.out] | go_num, ⟨⟨HN2.out.1, HN2.out.2, HN3.out.2⟩⟩, HND2, ⟨HM.out.below (by repeat (first | exact Below.refl _ _ | apply pw_below_drewN | apply below_drew))⟩, ⟨by (with_reducible repeat (first | apply Kd.R_alloc | apply Kd.R_drewN | apply Kd.R_drew)); exact HO.out⟩, ⟨by repeat (first | (with_reducible first | exact HB.out | apply below_alloc | apply pw_below_drewN | apply below_drew1) | exact HB.out)⟩⟩
                · have HMN := Aside0.mk (show n = M by rw [← hn.2.2]; exact (matchN_stop l0 s j n gk hc).symm)
                  have HN2 := Aside0.mk (show 4 ≤ n ∧ s + n ≤ l0.length by omega)
                  clear hn HN HND
                  obtain rfl := HMN.out
                  obtain ⟨i0, hi0, _, hsz0, _⟩ := info_parts info_u8
                  obtain ⟨Am, hmid, hAm, hCm⟩ := print_mid_of (P := Try.prog) (Value.int .u8) 0 23 5 .i64 .i64 Try.underlying23 hi0 hsz0 A0 c0 l0 (fr : Int) (s : Int) (by omega) (by have := HI4.out; omega) (by omega) HC0.out
                  have HRm := Aside0.mk (Kd.C_of_reads (h1 := fun _ => rfl) (hAm _ (Kd.reads_of_C HR0.out)))
                  have HCm := Aside0.mk hCm
                  simp only [Int.toNat_natCast] at hmid HRm HCm
                  have hl1 : ((l0.take s).drop fr).length = s - fr := by rw [List.length_drop, List.length_take, Nat.min_eq_left (by omega)]
                  clear hAm hCm hi0 hsz0
                  have hw4 : wrap64 ((n : Int) - 4) = (n : Int) - 4 := by have := HN2.out; unfold wrap64; omega
                  have hstop : ¬ (js < (l0.length : Int)) ∨ (js < (l0.length : Int) ∧ ¬ rd l0 js = rd l0 jk) := by
                    by_cases h1 : js < (l0.length : Int)
                    · exact .inr ⟨h1, fun h2 => hc ⟨by omega, by rw [← ejs, ← ejk]; exact h2⟩⟩
                    · exact .inl h1
                  have hwd : wrap64 ((s : Int) - (j : Int)) = (s : Int) - (j : Int) := by unfold wrap64; omega
                  have hw5 : wrap64 ((n : Int) - 4 - 15) = (n : Int) - 4 - 15 := by have := HN2.out; unfold wrap64; omega
                  have EJS := Aside0.mk ejs
                  have HWS := Aside0.mk (hjs.trans ejs)
                  rcases hstop with h1 | ⟨h1, h2⟩
                  (case' inl =>
                    have g0 : decide (js < (l0.length : Int)) = false := decide_eq_false h1)
                  (case' inr =>
                    have g0 : decide (js < (l0.length : Int)) = true := decide_eq_true h1
                    have p1 : 0 ≤ js := by omega
                    have q1 : js < (l0.length : Int) := by omega
                    obtain ⟨ad1, e1, hx1⟩ := Kd.at_int HR0.out js p1 q1
                    cases e1
                    replace hx1 := (HB.out.cell (World.block_lt_of_cell? w _ hx1)).trans hx1
                    have p2 : 0 ≤ jk := by omega
                    have q2 : jk < (l0.length : Int) := by omega
                    obtain ⟨ad2, e2, hx2⟩ := Kd.at_int HR0.out jk p2 q2
                    obtain rfl : ad1 = ad2 := (by injection e2)
                    replace hx2 := (HB.out.cell (World.block_lt_of_cell? w _ hx2)).trans hx2
                    replace p1 := eq_true p1
                    replace q1 := eq_true q1
                    replace p2 := eq_true p2
                    replace q2 := eq_true q2
                    have b0 : (rd l0 js == rd l0 jk) = false := beq_eq_false_iff_ne.mpr h2
                    clear h2)
                  all_goals
                    clear hc h1 ejs ejk hI hle hj
                    have HP6 := HP5.out
                    by_cases hlo : o1.length + 2 < 140737488355328
                    rotate_left
                    · rw [if_neg hlo] at HP6; cases HP6
                    rw [if_pos hlo] at HP6
                    have HLO := Aside0.mk hlo
                    clear hlo
                    by_cases hge : (n : Int) - 4 ≥ 15
                    · rw [if_pos hge] at HP6
                      obtain ⟨o3, hlay, hfin⟩ := Option.bind_eq_some_iff.1 HP6
                      have HLAY := Aside0.mk hlay
                      have HFIN := Aside0.mk hfin
                      have HG := Aside0.mk (show D ≠ 0 by rintro rfl; have h := HFIN.out; simp only [packL] at h; cases h)
                      have t0 : decide ((15 : Int) ≤ (n : Int) - 4) = true := decide_eq_true hge
                      clear hlay hfin HP6 hge
                      go_wp2_with (first | (go_at_call 76; refine callsArgs (args := #[u3, .slice Am ((l0.take s).drop fr).length (c0 - fr), .int .i64 ((n : Int) - 4)]) (by rw [hl1]) ((lz_literals.calls k (fun k_ => some k_ = u3.ownBlock) u3 out Am _ ((l0.take s).drop fr) ((n : Int) - 4) o1 w _ (pw_below_drewN HB.out _) (Kd.R_tight rfl (Kd.R_drewN HO.out _)) (Kd.C_kept_came (Kd.heap_int .u8) HRm.out (pw_below_drewN HB.out _) (fun k_ hk => Kd.R_base HO.out k_ hk.symm)) HCm.out HLIT.out).mono ?_); rintro e w3 ⟨v3, rfl, ho3, hb3, hk3⟩; have HB3 := Aside0.mk hb3; have HM3 := Aside0.mk (HM.out.block (hk3.2 _ HM.out.lt (fun he => HO.out.1 _ he.symm rfl))); have HO3 := Aside0.mk (Kd.R_mono ho3 (ok' := fun k_ => k_ ≠ w.heap.size) (fun k_ hk => hk.elim (fun e_ => HO.out.1 k_ e_.symm) (fun h_ => by have h5 := HM.out.lt; have h6 : wr.heap.size ≤ k_ := h_; omega))); clear ho3 hb3 hk3) | ((with_reducible refine gate_builtin (b := .append) (xs := #[.tmp 78, .tmp 88]) rfl ?_); at_builtin; refine Kd.R_append_rows (Kd.int .u8) (w0 := w) w.heap.size rfl (.tmp 78) (.tmp 88) 23 5 (.int .u8 0) 1 rfl Try.underlying23 info_u8 rfl (by decide) (by omega) v3 o1 [((s : Int) - (j : Int)) % 256, (((s : Int) - (j : Int)) / 256) % 256] (some ⟨w3.heap.size, 0, none⟩) 2 2 (fun k_ => k_ ≠ w.heap.size) (fun _ => False) rfl rfl ?aO ?aR (fun _ _ h => h) (fun _ h => h.elim) ?aF ?aB ?aS ?aL ?_; (case aO => exact Kd.R_alloc HO3.out _); (case aR => exact two_reads w3 _ _); (case aF => intro k_ hk; have h5 := HM3.out.lt; have h6 : (w3.alloc _).heap.size ≤ k_ := hk; rw [World.size_alloc] at h6; omega); (case aB => exact below_alloc HB3.out _); (case aS => exact below_size (below_alloc HB3.out _)); (case aL => have := HLO.out; omega); intro v4 w4 ho4 hb4 hg4 hat4; have HB4 := Aside0.mk hb4; have HO4 := Aside0.mk ho4; have HM4 := Aside0.mk ((HM3.out.alloc _).kept hg4 (fun he => HO3.out.1 _ he.symm rfl)); clear ho4 hb4 hg4 hat4) | (go_at_call 77; refine (lz_lay.calls k (fun k_ => some k_ = v4.ownBlock) v4 (o1 ++ [((s : Int) - (j : Int)) % 256, (((s : Int) - (j : Int)) / 256) % 256]) ((n : Int) - 4 - 15) o3 w _ HB4.out (Kd.R_tight rfl HO4.out) HLAY.out).mono ?_; rintro e w5 ⟨v5, rfl, ho5, hb5, hk5⟩; have HB5 := Aside0.mk hb5; have HM5 := Aside0.mk (HM4.out.block (hk5.2 _ HM4.out.lt (fun he => HO4.out.1 _ he.symm rfl))); have HO5 := Aside0.mk (Kd.R_mono ho5 (ok' := fun k_ => k_ ≠ w.heap.size) (fun k_ hk => hk.elim (fun e_ => HO4.out.1 k_ e_.symm) (fun h_ => by have h5 := HM4.out.lt; have h6 : w4.heap.size ≤ k_ := h_; omega))); clear ho5 hb5 hk5))
                      repeat (go_quiet (first | (go_at_call 76; refine callsArgs (args := #[u3, .slice Am ((l0.take s).drop fr).length (c0 - fr), .int .i64 ((n : Int) - 4)]) (by rw [hl1]) ((lz_literals.calls k (fun k_ => some k_ = u3.ownBlock) u3 out Am _ ((l0.take s).drop fr) ((n : Int) - 4) o1 w _ (pw_below_drewN HB.out _) (Kd.R_tight rfl (Kd.R_drewN HO.out _)) (Kd.C_kept_came (Kd.heap_int .u8) HRm.out (pw_below_drewN HB.out _) (fun k_ hk => Kd.R_base HO.out k_ hk.symm)) HCm.out HLIT.out).mono ?_); rintro e w3 ⟨v3, rfl, ho3, hb3, hk3⟩; have HB3 := Aside0.mk hb3; have HM3 := Aside0.mk (HM.out.block (hk3.2 _ HM.out.lt (fun he => HO.out.1 _ he.symm rfl))); have HO3 := Aside0.mk (Kd.R_mono ho3 (ok' := fun k_ => k_ ≠ w.heap.size) (fun k_ hk => hk.elim (fun e_ => HO.out.1 k_ e_.symm) (fun h_ => by have h5 := HM.out.lt; have h6 : wr.heap.size ≤ k_ := h_; omega))); clear ho3 hb3 hk3) | ((with_reducible refine gate_builtin (b := .append) (xs := #[.tmp 78, .tmp 88]) rfl ?_); at_builtin; refine Kd.R_append_rows (Kd.int .u8) (w0 := w) w.heap.size rfl (.tmp 78) (.tmp 88) 23 5 (.int .u8 0) 1 rfl Try.underlying23 info_u8 rfl (by decide) (by omega) v3 o1 [((s : Int) - (j : Int)) % 256, (((s : Int) - (j : Int)) / 256) % 256] (some ⟨w3.heap.size, 0, none⟩) 2 2 (fun k_ => k_ ≠ w.heap.size) (fun _ => False) rfl rfl ?aO ?aR (fun _ _ h => h) (fun _ h => h.elim) ?aF ?aB ?aS ?aL ?_; (case aO => exact Kd.R_alloc HO3.out _); (case aR => exact two_reads w3 _ _); (case aF => intro k_ hk; have h5 := HM3.out.lt; have h6 : (w3.alloc _).heap.size ≤ k_ := hk; rw [World.size_alloc] at h6; omega); (case aB => exact below_alloc HB3.out _); (case aS => exact below_size (below_alloc HB3.out _)); (case aL => have := HLO.out; omega); intro v4 w4 ho4 hb4 hg4 hat4; have HB4 := Aside0.mk hb4; have HO4 := Aside0.mk ho4; have HM4 := Aside0.mk ((HM3.out.alloc _).kept hg4 (fun he => HO3.out.1 _ he.symm rfl)); clear ho4 hb4 hg4 hat4) | (go_at_call 77; refine (lz_lay.calls k (fun k_ => some k_ = v4.ownBlock) v4 (o1 ++ [((s : Int) - (j : Int)) % 256, (((s : Int) - (j : Int)) / 256) % 256]) ((n : Int) - 4 - 15) o3 w _ HB4.out (Kd.R_tight rfl HO4.out) HLAY.out).mono ?_; rintro e w5 ⟨v5, rfl, ho5, hb5, hk5⟩; have HB5 := Aside0.mk hb5; have HM5 := Aside0.mk (HM4.out.block (hk5.2 _ HM4.out.lt (fun he => HO4.out.1 _ he.symm rfl))); have HO5 := Aside0.mk (Kd.R_mono ho5 (ok' := fun k_ => k_ ≠ w.heap.size) (fun k_ hk => hk.elim (fun e_ => HO4.out.1 k_ e_.symm) (fun h_ => by have h5 := HM4.out.lt; have h6 : w4.heap.size ≤ k_ := h_; omega))); clear ho5 hb5 hk5)); try go_wp2_with (first | (go_at_call 76; refine callsArgs (args := #[u3, .slice Am ((l0.take s).drop fr).length (c0 - fr), .int .i64 ((n : Int) - 4)]) (by rw [hl1]) ((lz_literals.calls k (fun k_ => some k_ = u3.ownBlock) u3 out Am _ ((l0.take s).drop fr) ((n : Int) - 4) o1 w _ (pw_below_drewN HB.out _) (Kd.R_tight rfl (Kd.R_drewN HO.out _)) (Kd.C_kept_came (Kd.heap_int .u8) HRm.out (pw_below_drewN HB.out _) (fun k_ hk => Kd.R_base HO.out k_ hk.symm)) HCm.out HLIT.out).mono ?_); rintro e w3 ⟨v3, rfl, ho3, hb3, hk3⟩; have HB3 := Aside0.mk hb3; have HM3 := Aside0.mk (HM.out.block (hk3.2 _ HM.out.lt (fun he => HO.out.1 _ he.symm rfl))); have HO3 := Aside0.mk (Kd.R_mono ho3 (ok' := fun k_ => k_ ≠ w.heap.size) (fun k_ hk => hk.elim (fun e_ => HO.out.1 k_ e_.symm) (fun h_ => by have h5 := HM.out.lt; have h6 : wr.heap.size ≤ k_ := h_; omega))); clear ho3 hb3 hk3) | ((with_reducible refine gate_builtin (b := .append) (xs := #[.tmp 78, .tmp 88]) rfl ?_); at_builtin; refine Kd.R_append_rows (Kd.int .u8) (w0 := w) w.heap.size rfl (.tmp 78) (.tmp 88) 23 5 (.int .u8 0) 1 rfl Try.underlying23 info_u8 rfl (by decide) (by omega) v3 o1 [((s : Int) - (j : Int)) % 256, (((s : Int) - (j : Int)) / 256) % 256] (some ⟨w3.heap.size, 0, none⟩) 2 2 (fun k_ => k_ ≠ w.heap.size) (fun _ => False) rfl rfl ?aO ?aR (fun _ _ h => h) (fun _ h => h.elim) ?aF ?aB ?aS ?aL ?_; (case aO => exact Kd.R_alloc HO3.out _); (case aR => exact two_reads w3 _ _); (case aF => intro k_ hk; have h5 := HM3.out.lt; have h6 : (w3.alloc _).heap.size ≤ k_ := hk; rw [World.size_alloc] at h6; omega); (case aB => exact below_alloc HB3.out _); (case aS => exact below_size (below_alloc HB3.out _)); (case aL => have := HLO.out; omega); intro v4 w4 ho4 hb4 hg4 hat4; have HB4 := Aside0.mk hb4; have HO4 := Aside0.mk ho4; have HM4 := Aside0.mk ((HM3.out.alloc _).kept hg4 (fun he => HO3.out.1 _ he.symm rfl)); clear ho4 hb4 hg4 hat4) | (go_at_call 77; refine (lz_lay.calls k (fun k_ => some k_ = v4.ownBlock) v4 (o1 ++ [((s : Int) - (j : Int)) % 256, (((s : Int) - (j : Int)) / 256) % 256]) ((n : Int) - 4 - 15) o3 w _ HB4.out (Kd.R_tight rfl HO4.out) HLAY.out).mono ?_; rintro e w5 ⟨v5, rfl, ho5, hb5, hk5⟩; have HB5 := Aside0.mk hb5; have HM5 := Aside0.mk (HM4.out.block (hk5.2 _ HM4.out.lt (fun he => HO4.out.1 _ he.symm rfl))); have HO5 := Aside0.mk (Kd.R_mono ho5 (ok' := fun k_ => k_ ≠ w.heap.size) (fun k_ hk => hk.elim (fun e_ => HO4.out.1 k_ e_.symm) (fun h_ => by have h5 := HM4.out.lt; have h6 : w4.heap.size ≤ k_ := h_; omega))); clear ho5 hb5 hk5)))
                      go_roundg (D - 1)
                      case measure => have := HG.out; omega
                      case rel => exact ⟨o3, s, s + n, s + n, rfl, by first | rw [EJS.out] | rw [HWS.out], by first | rw [EJS.out] | rw [HWS.out], ⟨by have := HN2.out; omega⟩, ⟨by rw [Nat.sub_add_cancel (by have := HG.out; omega)]; exact HFIN.out⟩, HM5, HO5, HB5⟩
                    · rw [if_neg hge] at HP6
                      have HFIN := Aside0.mk HP6
                      have HG := Aside0.mk (show D ≠ 0 by rintro rfl; have h := HFIN.out; simp only [packL] at h; cases h)
                      have t0 : decide ((15 : Int) ≤ (n : Int) - 4) = false := decide_eq_false hge
                      clear HP6 hge
                      go_wp2_with (first | (go_at_call 76; refine callsArgs (args := #[u3, .slice Am ((l0.take s).drop fr).length (c0 - fr), .int .i64 ((n : Int) - 4)]) (by rw [hl1]) ((lz_literals.calls k (fun k_ => some k_ = u3.ownBlock) u3 out Am _ ((l0.take s).drop fr) ((n : Int) - 4) o1 w _ (pw_below_drewN HB.out _) (Kd.R_tight rfl (Kd.R_drewN HO.out _)) (Kd.C_kept_came (Kd.heap_int .u8) HRm.out (pw_below_drewN HB.out _) (fun k_ hk => Kd.R_base HO.out k_ hk.symm)) HCm.out HLIT.out).mono ?_); rintro e w3 ⟨v3, rfl, ho3, hb3, hk3⟩; have HB3 := Aside0.mk hb3; have HM3 := Aside0.mk (HM.out.block (hk3.2 _ HM.out.lt (fun he => HO.out.1 _ he.symm rfl))); have HO3 := Aside0.mk (Kd.R_mono ho3 (ok' := fun k_ => k_ ≠ w.heap.size) (fun k_ hk => hk.elim (fun e_ => HO.out.1 k_ e_.symm) (fun h_ => by have h5 := HM.out.lt; have h6 : wr.heap.size ≤ k_ := h_; omega))); clear ho3 hb3 hk3) | ((with_reducible refine gate_builtin (b := .append) (xs := #[.tmp 78, .tmp 88]) rfl ?_); at_builtin; refine Kd.R_append_rows (Kd.int .u8) (w0 := w) w.heap.size rfl (.tmp 78) (.tmp 88) 23 5 (.int .u8 0) 1 rfl Try.underlying23 info_u8 rfl (by decide) (by omega) v3 o1 [((s : Int) - (j : Int)) % 256, (((s : Int) - (j : Int)) / 256) % 256] (some ⟨w3.heap.size, 0, none⟩) 2 2 (fun k_ => k_ ≠ w.heap.size) (fun _ => False) rfl rfl ?aO ?aR (fun _ _ h => h) (fun _ h => h.elim) ?aF ?aB ?aS ?aL ?_; (case aO => exact Kd.R_alloc HO3.out _); (case aR => exact two_reads w3 _ _); (case aF => intro k_ hk; have h5 := HM3.out.lt; have h6 : (w3.alloc _).heap.size ≤ k_ := hk; rw [World.size_alloc] at h6; omega); (case aB => exact below_alloc HB3.out _); (case aS => exact below_size (below_alloc HB3.out _)); (case aL => have := HLO.out; omega); intro v4 w4 ho4 hb4 hg4 hat4; have HB4 := Aside0.mk hb4; have HO4 := Aside0.mk ho4; have HM4 := Aside0.mk ((HM3.out.alloc _).kept hg4 (fun he => HO3.out.1 _ he.symm rfl)); clear ho4 hb4 hg4 hat4))
                      repeat (go_quiet (first | (go_at_call 76; refine callsArgs (args := #[u3, .slice Am ((l0.take s).drop fr).length (c0 - fr), .int .i64 ((n : Int) - 4)]) (by rw [hl1]) ((lz_literals.calls k (fun k_ => some k_ = u3.ownBlock) u3 out Am _ ((l0.take s).drop fr) ((n : Int) - 4) o1 w _ (pw_below_drewN HB.out _) (Kd.R_tight rfl (Kd.R_drewN HO.out _)) (Kd.C_kept_came (Kd.heap_int .u8) HRm.out (pw_below_drewN HB.out _) (fun k_ hk => Kd.R_base HO.out k_ hk.symm)) HCm.out HLIT.out).mono ?_); rintro e w3 ⟨v3, rfl, ho3, hb3, hk3⟩; have HB3 := Aside0.mk hb3; have HM3 := Aside0.mk (HM.out.block (hk3.2 _ HM.out.lt (fun he => HO.out.1 _ he.symm rfl))); have HO3 := Aside0.mk (Kd.R_mono ho3 (ok' := fun k_ => k_ ≠ w.heap.size) (fun k_ hk => hk.elim (fun e_ => HO.out.1 k_ e_.symm) (fun h_ => by have h5 := HM.out.lt; have h6 : wr.heap.size ≤ k_ := h_; omega))); clear ho3 hb3 hk3) | ((with_reducible refine gate_builtin (b := .append) (xs := #[.tmp 78, .tmp 88]) rfl ?_); at_builtin; refine Kd.R_append_rows (Kd.int .u8) (w0 := w) w.heap.size rfl (.tmp 78) (.tmp 88) 23 5 (.int .u8 0) 1 rfl Try.underlying23 info_u8 rfl (by decide) (by omega) v3 o1 [((s : Int) - (j : Int)) % 256, (((s : Int) - (j : Int)) / 256) % 256] (some ⟨w3.heap.size, 0, none⟩) 2 2 (fun k_ => k_ ≠ w.heap.size) (fun _ => False) rfl rfl ?aO ?aR (fun _ _ h => h) (fun _ h => h.elim) ?aF ?aB ?aS ?aL ?_; (case aO => exact Kd.R_alloc HO3.out _); (case aR => exact two_reads w3 _ _); (case aF => intro k_ hk; have h5 := HM3.out.lt; have h6 : (w3.alloc _).heap.size ≤ k_ := hk; rw [World.size_alloc] at h6; omega); (case aB => exact below_alloc HB3.out _); (case aS => exact below_size (below_alloc HB3.out _)); (case aL => have := HLO.out; omega); intro v4 w4 ho4 hb4 hg4 hat4; have HB4 := Aside0.mk hb4; have HO4 := Aside0.mk ho4; have HM4 := Aside0.mk ((HM3.out.alloc _).kept hg4 (fun he => HO3.out.1 _ he.symm rfl)); clear ho4 hb4 hg4 hat4)); try go_wp2_with (first | (go_at_call 76; refine callsArgs (args := #[u3, .slice Am ((l0.take s).drop fr).length (c0 - fr), .int .i64 ((n : Int) - 4)]) (by rw [hl1]) ((lz_literals.calls k (fun k_ => some k_ = u3.ownBlock) u3 out Am _ ((l0.take s).drop fr) ((n : Int) - 4) o1 w _ (pw_below_drewN HB.out _) (Kd.R_tight rfl (Kd.R_drewN HO.out _)) (Kd.C_kept_came (Kd.heap_int .u8) HRm.out (pw_below_drewN HB.out _) (fun k_ hk => Kd.R_base HO.out k_ hk.symm)) HCm.out HLIT.out).mono ?_); rintro e w3 ⟨v3, rfl, ho3, hb3, hk3⟩; have HB3 := Aside0.mk hb3; have HM3 := Aside0.mk (HM.out.block (hk3.2 _ HM.out.lt (fun he => HO.out.1 _ he.symm rfl))); have HO3 := Aside0.mk (Kd.R_mono ho3 (ok' := fun k_ => k_ ≠ w.heap.size) (fun k_ hk => hk.elim (fun e_ => HO.out.1 k_ e_.symm) (fun h_ => by have h5 := HM.out.lt; have h6 : wr.heap.size ≤ k_ := h_; omega))); clear ho3 hb3 hk3) | ((with_reducible refine gate_builtin (b := .append) (xs := #[.tmp 78, .tmp 88]) rfl ?_); at_builtin; refine Kd.R_append_rows (Kd.int .u8) (w0 := w) w.heap.size rfl (.tmp 78) (.tmp 88) 23 5 (.int .u8 0) 1 rfl Try.underlying23 info_u8 rfl (by decide) (by omega) v3 o1 [((s : Int) - (j : Int)) % 256, (((s : Int) - (j : Int)) / 256) % 256] (some ⟨w3.heap.size, 0, none⟩) 2 2 (fun k_ => k_ ≠ w.heap.size) (fun _ => False) rfl rfl ?aO ?aR (fun _ _ h => h) (fun _ h => h.elim) ?aF ?aB ?aS ?aL ?_; (case aO => exact Kd.R_alloc HO3.out _); (case aR => exact two_reads w3 _ _); (case aF => intro k_ hk; have h5 := HM3.out.lt; have h6 : (w3.alloc _).heap.size ≤ k_ := hk; rw [World.size_alloc] at h6; omega); (case aB => exact below_alloc HB3.out _); (case aS => exact below_size (below_alloc HB3.out _)); (case aL => have := HLO.out; omega); intro v4 w4 ho4 hb4 hg4 hat4; have HB4 := Aside0.mk hb4; have HO4 := Aside0.mk ho4; have HM4 := Aside0.mk ((HM3.out.alloc _).kept hg4 (fun he => HO3.out.1 _ he.symm rfl)); clear ho4 hb4 hg4 hat4)))
                      go_roundg (D - 1)
                      case measure => have := HG.out; omega
                      case rel => exact ⟨_, s, s + n, s + n, rfl, by first | rw [EJS.out] | rw [HWS.out], by first | rw [EJS.out] | rw [HWS.out], ⟨by have := HN2.out; omega⟩, ⟨by rw [Nat.sub_add_cancel (by have := HG.out; omega)]; exact HFIN.out⟩, HM4, HO4, HB4⟩
end Go.Proofs.Ytnmidkjmflnolaa.P
end
