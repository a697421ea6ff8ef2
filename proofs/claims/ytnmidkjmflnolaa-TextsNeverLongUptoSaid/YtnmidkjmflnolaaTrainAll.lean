/- Several texts in one: MapsRange, TrainSpec, TrainOrd, TrainCmp, TrainSort, Train. -/
import Derived.Test.YtnmidkjmflnolaaMaps
import Derived.Maps.RangeWalk
import Derived.Test.YtnmidkjmflnolaaWWords
import Derived.Test.YtnmidkjmflnolaaWLast
import Derived.Lib.Bytealg
import Derived.Lib.Small
import Derived.Test.YtnmidkjmflnolaaShelfT
import Derived.Test.YtnmidkjmflnolaaProg
import Derived.StillTailTactics
import Derived.Outline
import Derived.Shelf.SlSortCmp.WholeK
import Derived.OwnWalk
import Derived.Deep.DeepFit
import Derived.Test.YtnmidkjmflnolaaShort
import Derived.Maps.AppendAt
section
namespace Go.Proofs.Ytnmidkjmflnolaa.Maps
open Go Go.Maps Go.ChangeMaps Go.MapKept Go.WideMaps
set_option linter.unusedVariables false
set_option linter.unusedSimpArgs false

theorem lk_same (s t : ByteArray) : (lk s).sameKey (lk t) = decide (s = t) := by
  by_cases h : s = t
  · subst h
    simp [lk, Lit.sameKey]
  · rw [decide_eq_false h]
    have : s.data.toList ≠ t.data.toList := fun e => h (lk_inj (by unfold lk; rw [e]))
    simpa [lk, Lit.sameKey] using this
theorem key_inv {P : Program} {k : TypeId} (hk : P.underlying k = some .string) {v : Value} {kl : Lit} (h : keyOf P k v = some kl) : ∃ s, v = .string s ∧ kl = lk s ∧ s.size ≤ maxLen := by
  cases v <;> simp [keyOf, hk, mapKey] at h
  rename_i s
  obtain ⟨h1, h2⟩ := h
  exact ⟨s, rfl, h2.symm, h1⟩
/-- A walk over the map in block b by the block r: the keys 'seen' have come. -/
def RangeIs (P : Program) (k e : TypeId) (q : IntKind) (w : World) (b r n : Nat) (f : ByteArray → Option Int) (seen : List ByteArray) (cnt : Nat) : Prop :=
  ∃ (D : DataW Unit) (left : Lit → Bool), w.ranges P k (plainElem P e) b r n D left cnt ∧ (∀ s : ByteArray, ∀ z, D.atKey (lk s) z = ((f s).map fun x => DataW.lit (.int q x)).getD z) ∧
    (∀ s : ByteArray, left (lk s) = ((f s).isSome && !memB s seen)) ∧ seen.Nodup ∧ ∀ s ∈ seen, (f s).isSome = true
section
variable {P : Program} {k e t : TypeId} {q : IntKind} {w : World} {b r n cnt : Nat} {f : ByteArray → Option Int} {seen : List ByteArray}
theorem RangeIs.kept {w' : World} {row : Option Nat} (h : RangeIs P k e q w b r n f seen cnt) (hg : w.grownBy w' row) (hb : some b ≠ row) (hr : some r ≠ row) : RangeIs P k e q w' b r n f seen cnt := by
  obtain ⟨D, left, h1, h2⟩ := h
  exact ⟨D, left, h1.kept hg hb hr, h2⟩
theorem RangeIs.alloc (h : RangeIs P k e q w b r n f seen cnt) (o : Obj) : RangeIs P k e q (w.alloc o) b r n f seen cnt := h.kept (World.grownBy_alloc w o none) (by simp) (by simp)
theorem RangeIs.lt (h : RangeIs P k e q w b r n f seen cnt) : b < w.heap.size ∧ r < w.heap.size := by
  obtain ⟨D, left, h1, h2⟩ := h
  exact ⟨h1.owns.lt, h1.lt⟩
/-- What the blocks hold is no row of cells. -/
theorem RangeIs.no_cells (h : RangeIs P k e q w b r n f seen cnt) : (∃ es c, w.heap[b]? = some (.map es c)) ∧ ∃ m s l c, w.heap[r]? = some (.mapIter m s l c) := by
  obtain ⟨D, left, ⟨es, clock, since, sn, c0, hb, _, _, _, hr, _⟩, _⟩ := h
  exact ⟨⟨_, _, hb⟩, ⟨_, _, _, _, hr⟩⟩
variable {ops : Array Oper} {rest : List Oper} {o : Oper} {a : Act} {Q : Exit → Act → World → Prop}
theorem wpList_range_is (hgd : o.guard = none) (m : Operand) (t : TypeId) (hop : o.op = Op.range t m) (hk : P.underlying k = some .string) (ht : P.underlying t = some (.map k e))
    (hm : a.eval m = .map (some b)) (h : MapIs P k e (.int q) w b n f)
    (hK : ∀ w' cnt, RangeIs P k e q w' b w.heap.size n f [] cnt → w.grownBy w' none → w'.heap.size = w.heap.size + 1 → wpList P ops Q rest (a.put o.dst (.pointer (some ⟨w.heap.size, 0, none⟩))) w') :
    wpList P ops Q (o :: rest) a w := by
  obtain ⟨D, ho, hmap, hf⟩ := h
  refine wpList_range_own w hgd m t hop k e (string_keyed hk) ht _ b n D hm ho fun w' h1 h2 h3 => ?_
  refine hK w' _ ⟨D, _, h1, fun s z => (hf s).2 z, fun s => ?_, List.nodup_nil, fun s hs => by simp at hs⟩ h2 h3
  rw [(hf s).1]
  simp [memB]
theorem wpList_next_is (hgd : o.guard = none) (it : Operand) (hop : o.op = Op.next it false) (hk : P.underlying k = some .string) (he : P.underlying e = some (.int q))
    (hit : a.eval it = .pointer (some ⟨r, 0, none⟩)) (h : RangeIs P k e q w b r n f seen cnt)
    (hDone : (∀ s, (f s).isSome = true → s ∈ seen) → wpList P ops Q rest (a.put o.dst (.tuple #[.bool false])) w)
    (hMore : ∀ (x : ByteArray) (c : Int) (w' : World) (cnt' : Nat), f x = some c → x ∉ seen → x.size ≤ maxLen → RangeIs P k e q w' b r n f (seen ++ [x]) cnt' → cnt' < cnt → w.grownBy w' (some r) → w'.heap.size = w.heap.size →
      (Instr.entry (.pointer (some ⟨r, 0, none⟩))).run P w' = .ok (.tuple #[.string x, .int q c]) w' → wpList P ops Q rest (a.put o.dst (.tuple #[.bool true, .string x, .int q c])) w') :
    wpList P ops Q (o :: rest) a w := by
  obtain ⟨D, left, h1, h2, h3, h4, h5⟩ := h
  refine wpList_next_ranges w hgd it hop k (string_keyed hk) (plainElem P e) Value.string (Value.int q) (fun key kl hkey => by obtain ⟨x, rfl, _⟩ := key_inv hk hkey; exact ⟨x, rfl⟩) (fun v y hv => by obtain ⟨c, rfl, _⟩ := plainElem_int_inv he hv; exact ⟨c, rfl⟩)
    b r n D left cnt hit h1 (fun h0 hl => hDone fun s hs => ?_) (fun x c kl y w' cnt' hkey hlk hv hat hrg hlt hgr hsz hen => ?_)
  · have := hl (lk s)
    rw [h3, hs, Bool.true_and] at this
    exact memB_iff.1 (by simpa using this)
  · obtain ⟨x', ex, rfl, hx⟩ := key_inv hk hkey
    cases ex
    obtain ⟨c', ec, hy, _⟩ := plainElem_int_inv he hv
    cases ec
    rw [h3] at hlk
    obtain ⟨g1, g2⟩ := Bool.and_eq_true_iff.1 hlk
    obtain ⟨c2, hc2⟩ := Option.isSome_iff_exists.1 g1
    have hns : x ∉ seen := fun hm => by
      rw [memB_iff.2 hm] at g2
      cases g2
    have hcc : c2 = c := by
      have e1 := h2 x (.lit (.int q 0))
      have e2 := hat (.lit (.int q 0))
      rw [e1, hc2, hy] at e2
      simpa using e2
    subst hcc
    refine hMore x c2 w' cnt' hc2 hns hx ⟨D, _, hrg, h2, fun s => ?_, ?_, fun s hs => ?_⟩ hlt hgr hsz hen
    · rw [h3, lk_same, memB_snoc, Bool.not_or, Bool.and_assoc]
      congr 2
      congr 1
      exact decide_eq_decide.2 ⟨fun e => e.symm, fun e => e.symm⟩
    · rw [List.nodup_append]
      exact ⟨h4, by simp, fun a ha b hb => by rw [List.mem_singleton.1 hb]; exact fun e => hns (e ▸ ha)⟩
    · rcases List.mem_append.1 hs with hs | hs
      · exact h5 s hs
      · rw [List.mem_singleton.1 hs]; exact g1
end
end Go.Proofs.Ytnmidkjmflnolaa.Maps
end
section
namespace Go.Proofs.Ytnmidkjmflnolaa.P
open Go Go.RowKit Go.Lib Go.Proofs.YtnmidkjmflnolaaW.PrintWords Go.Proofs.YtnmidkjmflnolaaW.PrintLast Go.Proofs.Ytnmidkjmflnolaa.Maps
set_option linter.unusedVariables false
set_option linter.unusedSimpArgs false

instance : LawfulBEq ByteArray where
  eq_of_beq := by
    intro a b h
    cases a; cases b
    congr
    exact eq_of_beq h
  rfl := by
    intro a
    cases a
    exact beq_self_eq_true (α := Array UInt8) _
def takeS (left : Nat) (b : List Int) : ByteArray := strOfNums (b.take (min left b.length))
theorem takeS_size (left : Nat) (b : List Int) : (takeS left b).size = min left b.length := by
  unfold takeS
  rw [Lib.size_eq, strOfNums_data, List.length_map, List.length_take]
  omega
def piecesAt (s : ByteArray) (a n : Nat) : Nat → List ByteArray
  | 0 => []
  | d + 1 => s.extract a (a + n) :: piecesAt s a (n + 1) d
def howMany (s : ByteArray) (a : Nat) : Nat := min 8 (s.size - a) + 1 - 2
def piecesFrom (s : ByteArray) (a : Nat) : Nat → List ByteArray
  | 0 => []
  | d + 1 => piecesAt s a 2 (howMany s a) ++ piecesFrom s (a + 1) d
def piecesS (s : ByteArray) : List ByteArray := piecesFrom s 0 s.size
def allP : Nat → List (List Int) → List ByteArray
  | _, [] => []
  | left, b :: r => piecesS (takeS left b) ++ allP (left - (takeS left b).size) r
theorem piecesAt_len (s : ByteArray) (a : Nat) : ∀ d n : Nat, (piecesAt s a n d).length = d
  | 0, _ => rfl
  | d + 1, n => by rw [piecesAt, List.length_cons, piecesAt_len]
theorem piecesFrom_len (s : ByteArray) : ∀ d a : Nat, (piecesFrom s a d).length ≤ 7 * d
  | 0, _ => Nat.le_refl _
  | d + 1, a => by
    rw [piecesFrom, List.length_append, piecesAt_len]
    have := piecesFrom_len s d (a + 1)
    unfold howMany
    omega
theorem allP_len : ∀ (l : List (List Int)) (left : Nat), (allP left l).length ≤ 7 * left
  | [], left => Nat.zero_le _
  | b :: r, left => by
    rw [allP, List.length_append]
    have h1 := allP_len r (left - (takeS left b).size)
    have h2 : (piecesS (takeS left b)).length ≤ 7 * (takeS left b).size := piecesFrom_len _ _ _
    have h3 := takeS_size left b
    omega
theorem piecesAt_size (s : ByteArray) (a : Nat) : ∀ d n : Nat, a + n + d ≤ s.size + 1 → ∀ x ∈ piecesAt s a n d, n ≤ x.size ∧ x.size < n + d
  | 0, _, _, x, h => by simp [piecesAt] at h
  | d + 1, n, hn, x, h => by
    rw [piecesAt] at h
    rcases List.mem_cons.1 h with rfl | h
    · rw [ByteArray.size_extract]
      omega
    · have := piecesAt_size s a d (n + 1) (by omega) x h
      omega
theorem piecesFrom_size (s : ByteArray) : ∀ d a : Nat, a + d ≤ s.size → ∀ x ∈ piecesFrom s a d, 2 ≤ x.size ∧ x.size ≤ 8
  | 0, _, _, x, h => by simp [piecesFrom] at h
  | d + 1, a, hn, x, h => by
    rw [piecesFrom] at h
    rcases List.mem_append.1 h with h | h
    · have hh : howMany s a = min 8 (s.size - a) + 1 - 2 := rfl
      by_cases h2 : s.size - a < 2
      · rw [show howMany s a = 0 by omega] at h
        simp [piecesAt] at h
      · have := piecesAt_size s a _ 2 (by omega) x h
        omega
    · exact piecesFrom_size s d (a + 1) (by omega) x h
theorem allP_size : ∀ (l : List (List Int)) (left : Nat), ∀ x ∈ allP left l, 2 ≤ x.size ∧ x.size ≤ 8
  | [], _, x, h => by simp [allP] at h
  | b :: r, left, x, h => by
    rw [allP] at h
    rcases List.mem_append.1 h with h | h
    · exact piecesFrom_size _ _ 0 (by omega) x h
    · exact allP_size r _ x h
/-- How often each text comes: a map. -/
def cntF (l : List ByteArray) (s : ByteArray) : Option Int := if l.count s = 0 then none else some (l.count s : Int)
theorem cntF_nil : cntF [] = fun _ => none := by
  funext s
  simp [cntF]
theorem cntF_getD (l : List ByteArray) (s : ByteArray) : (cntF l s).getD 0 = (l.count s : Int) := by
  unfold cntF
  split
  · rename_i h; rw [h]; rfl
  · rfl
theorem cntF_snoc (l : List ByteArray) (s : ByteArray) : upd (cntF l) s ((l.count s : Int) + 1) = cntF (l ++ [s]) := by
  funext t
  unfold upd cntF
  by_cases h : t = s
  · subst h
    rw [if_pos rfl, List.count_append, List.count_singleton_self, if_neg (by omega)]
    rfl
  · rw [if_neg h, List.count_append, show ([s] : List ByteArray).count t = 0 from List.count_eq_zero.2 (by simpa using h), Nat.add_zero]
/-- A piece and its worth: the two cells of Train's own struct. -/
def encP (x : ByteArray × Int) : List Value := [.string x.1, .int .i64 x.2]
/-- Which of two pieces stands ahead: the worthier, then the lesser text. -/
def cmpP (x y : ByteArray × Int) : Int := if compareInt y.2 x.2 ≠ 0 then compareInt y.2 x.2 else compareBytes x.1.data.toList y.1.data.toList
def leP (x y : ByteArray × Int) : Bool := !decide (cmpP y x < 0)
def worthP (all : List ByteArray) (s : ByteArray) : ByteArray × Int := (s, ((s.size : Int) - 1) * (all.count s : Int))
/-- Each once. -/
def distP : List ByteArray → List ByteArray
  | [] => []
  | x :: l => if x ∈ distP l then distP l else x :: distP l
theorem mem_distP {x : ByteArray} : ∀ {l : List ByteArray}, x ∈ distP l ↔ x ∈ l
  | [] => Iff.rfl
  | y :: l => by
    rw [distP]
    split
    · rename_i h
      rw [mem_distP, List.mem_cons]
      exact ⟨.inr, fun e => e.elim (fun e => by rw [e]; exact mem_distP.1 h) id⟩
    · rw [List.mem_cons, List.mem_cons, mem_distP]
theorem nodup_distP : ∀ l : List ByteArray, (distP l).Nodup
  | [] => List.nodup_nil
  | y :: l => by
    rw [distP]
    split
    · exact nodup_distP l
    · rename_i h
      exact List.nodup_cons.2 ⟨h, nodup_distP l⟩
/-- The pieces that come twice at least, each once. -/
def candP (all : List ByteArray) : List (ByteArray × Int) := ((distP all).filter fun s => decide (1 < all.count s)).map (worthP all)
def trainAll (all : List ByteArray) : List ByteArray := (((candP all).mergeSort leP).take 32).map (·.1)
def sym_Train.f (l0 : List (List Int)) : Option (List ByteArray) := some (trainAll (allP 1024 l0))
end Go.Proofs.Ytnmidkjmflnolaa.P
end
section
namespace Go.Proofs.Ytnmidkjmflnolaa.P
open Go Go.Lib
set_option linter.unusedVariables false
set_option linter.unusedSimpArgs false

theorem cb_cons (a b : UInt8) (ar br : List UInt8) : compareBytes (a :: ar) (b :: br) = if a.toNat < b.toNat then -1 else if b.toNat < a.toNat then 1 else compareBytes ar br := by
  rw [compareBytes]
  simp only [UInt8.lt_iff_toNat_lt]
theorem cb_refl : ∀ l : List UInt8, compareBytes l l = 0
  | [] => rfl
  | a :: l => by rw [cb_cons, if_neg (by omega), if_neg (by omega), cb_refl l]
theorem cb_anti : ∀ l r : List UInt8, compareBytes r l = -compareBytes l r
  | [], [] => rfl
  | [], _ :: _ => rfl
  | _ :: _, [] => rfl
  | a :: l, b :: r => by
    rw [cb_cons, cb_cons]
    have := cb_anti l r
    repeat' split
    all_goals omega
theorem cb_eq : ∀ l r : List UInt8, compareBytes l r = 0 → l = r
  | [], [], _ => rfl
  | [], _ :: _, h => by simp [compareBytes] at h
  | _ :: _, [], h => by simp [compareBytes] at h
  | a :: l, b :: r, h => by
    rw [cb_cons] at h
    by_cases h1 : a.toNat < b.toNat
    · rw [if_pos h1] at h; omega
    · rw [if_neg h1] at h
      by_cases h2 : b.toNat < a.toNat
      · rw [if_pos h2] at h; omega
      · rw [if_neg h2] at h
        rw [cb_eq l r h, UInt8.toNat_inj.1 (show a.toNat = b.toNat by omega)]
theorem cb_trans : ∀ l m r : List UInt8, compareBytes l m ≤ 0 → compareBytes m r ≤ 0 → compareBytes l r ≤ 0 ∧ (compareBytes l r = 0 → compareBytes l m = 0 ∧ compareBytes m r = 0)
  | [], [], r, h1, h2 => ⟨h2, fun h => ⟨rfl, h⟩⟩
  | [], _ :: _, [], h1, h2 => by simp [compareBytes] at h2
  | [], _ :: _, _ :: _, h1, h2 => ⟨by simp [compareBytes], fun h => by simp [compareBytes] at h⟩
  | _ :: _, [], _, h1, h2 => by simp [compareBytes] at h1
  | _ :: _, _ :: _, [], h1, h2 => by simp [compareBytes] at h2
  | a :: l, b :: m, c :: r, h1, h2 => by
    rw [cb_cons] at h1 h2 ⊢
    rw [cb_cons, cb_cons]
    have ih := cb_trans l m r
    by_cases ab : a.toNat < b.toNat
    · by_cases bc : b.toNat < c.toNat
      · rw [if_pos (show a.toNat < c.toNat by omega)]
        exact ⟨by omega, fun h => by omega⟩
      · by_cases cb : c.toNat < b.toNat
        · rw [if_neg bc, if_pos cb] at h2; omega
        · rw [if_pos (show a.toNat < c.toNat by omega)]
          exact ⟨by omega, fun h => by omega⟩
    · by_cases ba : b.toNat < a.toNat
      · rw [if_neg ab, if_pos ba] at h1; omega
      · rw [if_neg ab, if_neg ba] at h1
        by_cases bc : b.toNat < c.toNat
        · rw [if_pos (show a.toNat < c.toNat by omega)]
          exact ⟨by omega, fun h => by omega⟩
        · by_cases cb : c.toNat < b.toNat
          · rw [if_neg bc, if_pos cb] at h2; omega
          · rw [if_neg bc, if_neg cb] at h2
            rw [if_neg (by omega), if_neg (by omega), if_neg ab, if_neg ba, if_neg bc, if_neg cb]
            exact ih h1 h2
theorem cp_eq_cmp (x y : ByteArray × Int) : cmpP x y = if y.2 < x.2 then -1 else if x.2 < y.2 then 1 else compareBytes x.1.data.toList y.1.data.toList := by
  unfold cmpP compareInt
  repeat' split
  all_goals first | rfl | omega
theorem cp_refl (x : ByteArray × Int) : cmpP x x = 0 := by rw [cp_eq_cmp, if_neg (by omega), if_neg (by omega), cb_refl]
theorem cp_anti (x y : ByteArray × Int) : cmpP y x = -cmpP x y := by
  rw [cp_eq_cmp, cp_eq_cmp]
  have := cb_anti x.1.data.toList y.1.data.toList
  repeat' split
  all_goals omega
theorem cp_eq {x y : ByteArray × Int} (h : cmpP x y = 0) : x = y := by
  rw [cp_eq_cmp] at h
  by_cases h1 : y.2 < x.2
  · rw [if_pos h1] at h; omega
  · rw [if_neg h1] at h
    by_cases h2 : x.2 < y.2
    · rw [if_pos h2] at h; omega
    · rw [if_neg h2] at h
      have e := cb_eq _ _ h
      obtain ⟨s, a⟩ := x
      obtain ⟨t, b⟩ := y
      have e1 : s = t := ByteArray.ext (Array.toList_inj.1 e)
      have e2 : a = b := by dsimp only at h1 h2; omega
      rw [e1, e2]
theorem cp_trans (x y z : ByteArray × Int) (h1 : cmpP x y ≤ 0) (h2 : cmpP y z ≤ 0) : cmpP x z ≤ 0 ∧ (cmpP x z = 0 → cmpP x y = 0 ∧ cmpP y z = 0) := by
  have ht := cb_trans x.1.data.toList y.1.data.toList z.1.data.toList
  rw [cp_eq_cmp] at h1 h2 ⊢
  rw [cp_eq_cmp, cp_eq_cmp]
  by_cases xy : y.2 < x.2
  · by_cases yz : y.2 < z.2
    · rw [if_neg (by omega), if_pos yz] at h2; omega
    · rw [if_pos (show z.2 < x.2 by omega)]
      exact ⟨by omega, fun h => by omega⟩
  · by_cases yx : x.2 < y.2
    · rw [if_neg xy, if_pos yx] at h1; omega
    · rw [if_neg xy, if_neg yx] at h1
      by_cases yz : z.2 < y.2
      · rw [if_pos (show z.2 < x.2 by omega)]
        exact ⟨by omega, fun h => by omega⟩
      · by_cases zy : y.2 < z.2
        · rw [if_neg yz, if_pos zy] at h2; omega
        · rw [if_neg yz, if_neg zy] at h2
          rw [if_neg (by omega), if_neg (by omega), if_neg xy, if_neg yx, if_neg yz, if_neg zy]
          exact ht h1 h2
theorem cp_strict {x y z : ByteArray × Int} (h1 : cmpP x y < 0) (h2 : cmpP y z < 0) : cmpP x z < 0 := by
  obtain ⟨h3, h4⟩ := cp_trans x y z (by omega) (by omega)
  by_cases h : cmpP x z = 0
  · have := h4 h; omega
  · omega
theorem leP_iff (x y : ByteArray × Int) : leP x y = true ↔ cmpP x y ≤ 0 := by
  unfold leP
  rw [Bool.not_eq_true', decide_eq_false_iff_not, cp_anti]
  omega
theorem leP_total (x y : ByteArray × Int) : (leP x y || leP y x) = true := by
  rw [Bool.or_eq_true, leP_iff, leP_iff, cp_anti x y]
  omega
theorem leP_trans (x y z : ByteArray × Int) (h1 : leP x y = true) (h2 : leP y z = true) : leP x z = true := by
  rw [leP_iff] at *
  exact (cp_trans x y z h1 h2).1
theorem leP_antisymm (x y : ByteArray × Int) (h1 : leP x y = true) (h2 : leP y x = true) : x = y := by
  rw [leP_iff] at *
  rw [cp_anti x y] at h2
  exact cp_eq (by omega)
/-- In whatever order they come, sorted they are one list. -/
theorem sort_one {l l' : List (ByteArray × Int)} (h : l.Perm l') : l.mergeSort leP = l'.mergeSort leP :=
  List.Perm.eq_of_pairwise (fun a b _ _ h1 h2 => leP_antisymm a b h1 h2) (List.pairwise_mergeSort leP_trans leP_total l) (List.pairwise_mergeSort leP_trans leP_total l') ((List.mergeSort_perm l leP).trans (h.trans (List.mergeSort_perm l' leP).symm))
end Go.Proofs.Ytnmidkjmflnolaa.P
end
section
namespace Go.Proofs.Ytnmidkjmflnolaa.P
open Go Go.Shelf Go.RowKit Go.Lib Go.Sort Go.Proofs.YtnmidkjmflnolaaW.PrintWords Go.Proofs.YtnmidkjmflnolaaW.PrintLast
set_option linter.unusedVariables false
set_option linter.unusedSimpArgs false

def orTwo (a b : Int) : Int := if a ≠ 0 then a else b
theorem orTwo_l {a b : Int} (h : a ≠ 0) : orTwo a b = a := if_pos h
theorem orTwo_r (b : Int) : orTwo 0 b = b := if_neg (by simp)
theorem ret_i {a b : Int} (h : a = b) : Ending.returned (.int .i64 a) = .returned (.int .i64 b) := by rw [h]
set_option maxHeartbeats 1000000 in
theorem or_two (a b : Int) (B : Nat) (W : World) (h0 : W.cell? ⟨B, 0, none⟩ = some (.int .i64 a)) (h1 : W.cell? ⟨B, 1, none⟩ = some (.int .i64 b)) :
    Calls Try.prog 49 #[.slice (some ⟨B, 0, none⟩) 2 2] W fun e w' => e = .returned (.int .i64 (orTwo a b)) ∧ w' = W := by
  go_enter Try.func49, Try.ntmps49
  go_wp2
  go_loopg [8] 2 (fun g v8 wx => ((v8 = .int .i64 0 ∧ g = 2) ∨ (v8 = .int .i64 1 ∧ g = 1 ∧ a = 0) ∨ (v8 = .int .i64 2 ∧ a = 0 ∧ b = 0)) ∧ wx = W)
  case atStart => exact ⟨.inl ⟨rfl, rfl⟩, rfl⟩
  case round =>
    obtain ⟨hst, rfl⟩ := hrel
    rcases hst with ⟨rfl, rfl⟩ | ⟨rfl, rfl, rfl⟩ | ⟨rfl, rfl, rfl⟩
    · by_cases ha : a = 0
      · subst ha
        go_wp2
        go_roundg 1
        case measure => omega
        case rel => refine ⟨?_, rfl⟩; first | exact .inr (.inl ⟨rfl, rfl, rfl⟩) | simp
      · have hb : (a != 0) = true := bne_iff_ne.2 ha
        have HA := Aside0.mk ha
        clear ha
        go_wp2
        go_ret
        exact ⟨ret_i (orTwo_l HA.out).symm, rfl⟩
    · by_cases hb0 : b = 0
      · subst hb0
        go_wp2
        go_roundg 0
        case measure => omega
        case rel => refine ⟨?_, rfl⟩; first | exact .inr (.inr ⟨rfl, rfl, rfl⟩) | simp
      · have hb : (b != 0) = true := bne_iff_ne.2 hb0
        clear hb0
        go_wp2
        go_ret
        exact ⟨ret_i (orTwo_r _).symm, rfl⟩
    · go_wp2
      go_ret
      exact ⟨ret_i (orTwo_r _).symm, rfl⟩
theorem or_here (a b : Int) (W : World) (B : Nat) (hB : B = W.heap.size) :
    Calls Try.prog 49 #[.slice (some ⟨B, 0, none⟩) 2 2] (W.alloc (.cells #[.int .i64 a, .int .i64 b] 3)) fun e w' => e = .returned (.int .i64 (orTwo a b)) ∧ w' = (W.alloc (.cells #[.int .i64 a, .int .i64 b] 3)) := by
  subst hB
  have hg : (W.alloc (.cells #[.int .i64 a, .int .i64 b] 3)).heap[W.heap.size]? = some (.cells #[.int .i64 a, .int .i64 b] 3 (0, 0)) := blk_new W (.cells #[.int .i64 a, .int .i64 b] 3 (0, 0))
  exact or_two a b _ _ ((blk_cell hg 0).trans rfl) ((blk_cell hg 1).trans rfl)
theorem grow_three (W : World) (a b c : Obj) (q : Nat) : ((((W.alloc a).alloc b).alloc c).drewN q) = grow (W.drewN q) #[a, b, c] := by
  rw [alloc_eq_grow, alloc_eq_grow, alloc_eq_grow, grow_grow, grow_grow]
  rfl
set_option maxHeartbeats 4000000 in
set_option maxRecDepth 100000 in
theorem train_cmp (x y : ByteArray × Int) (W : World) :
    Calls Try.prog 48 #[.agg #[.string x.1, .int .i64 x.2], .agg #[.string y.1, .int .i64 y.2]] W fun e w' => e = .returned (.int .i64 (cmpP x y)) ∧ ∃ q os', w' = grow (W.drewN q) os' := by
  obtain ⟨s, a⟩ := x
  obtain ⟨t, b⟩ := y
  have hc1 := fun W' => AnyG.cmp_Compare_int Try.cmpInt b a W'
  change ∀ W', Calls Try.prog 50 _ _ _ at hc1
  have hc2 := fun W' => Try.strings_Compare s t W'
  rw [show cmpP (s, a) (t, b) = orTwo (compareInt b a) (compareBytes s.data.toList t.data.toList) from rfl]
  dsimp only at *
  generalize Lib.compareInt b a = c1 at hc1 ⊢
  generalize Lib.compareBytes s.data.toList t.data.toList = c2 at hc2 ⊢
  go_enter Try.func48, Try.ntmps48
  go_wp2
  refine wp_region_still_tail 10 (by kernel_rfl) (by kernel_rfl) ?_
  simp only [List.take_succ_cons, List.take_zero, List.drop_succ_cons, List.drop_zero]
  obtain ⟨w2, hw2⟩ : ∃ w2, w2 = ((W.alloc (.cells #[.string s, .int .i64 a] 74)).alloc (.cells #[.string t, .int .i64 b] 74)).drew := ⟨_, rfl⟩
  have g1 : w2.heap[W.heap.size + 1]? = some (.cells #[.string t, .int .i64 b] 74 (0, 0)) := by
    have h := blk_new (W.alloc (.cells #[.string s, .int .i64 a] 74)) (.cells #[.string t, .int .i64 b] 74 (0, 0))
    rw [World.size_alloc] at h
    rw [hw2]
    exact h
  have g0 : w2.heap[W.heap.size]? = some (.cells #[.string s, .int .i64 a] 74 (0, 0)) := by
    rw [hw2]
    exact blk_alloc (blk_new W (.cells #[.string s, .int .i64 a] 74 (0, 0))) _
  have k0 : w2.cell? ⟨W.heap.size, 0, none⟩ = some (.string s) := (blk_cell g0 0).trans rfl
  have k1 : w2.cell? ⟨W.heap.size, 1, none⟩ = some (.int .i64 a) := (blk_cell g0 1).trans rfl
  have k2 : w2.cell? ⟨W.heap.size + 1, 0, none⟩ = some (.string t) := (blk_cell g1 0).trans rfl
  have k3 : w2.cell? ⟨W.heap.size + 1, 1, none⟩ = some (.int .i64 b) := (blk_cell g1 1).trans rfl
  change wpStill _ _ (World.drew ((W.alloc (.cells #[.string s, .int .i64 a] 74)).alloc (.cells #[.string t, .int .i64 b] 74))) _ _ _
  rw [← hw2]
  have HW := Aside0.mk hw2
  clear hw2 g0 g1
  repeat still_step
  still_call (hc1 _)
  repeat still_step
  still_call (hc2 _)
  repeat still_step
  refine wpStill_nil ?_
  change wpList _ _ _ _ _ (World.drew ((W.alloc (.cells #[.string s, .int .i64 a] 74)).alloc (.cells #[.string t, .int .i64 b] 74)))
  rw [← HW.out]
  have hsz : w2.heap.size = W.heap.size + 1 + 1 := by rw [HW.out]; simp
  go_wp2_with (go_at_call 49; refine (or_here c1 c2 w2 _ hsz.symm).mono ?_; rintro e w' ⟨rfl, rfl⟩)
  go_ret
  refine ⟨rfl, 1, #[.cells #[.string s, .int .i64 a] 74, .cells #[.string t, .int .i64 b] 74, .cells #[.int .i64 c1, .int .i64 c2] 3], ?_⟩
  rw [HW.out, ← grow_three]
  rfl
theorem encP_len (x : ByteArray × Int) : (encP x).length = 2 := rfl
theorem encP_one (x : ByteArray × Int) : ∀ v ∈ encP x, v.oneCell' = true := by
  intro v hv
  simp [encP] at hv
  rcases hv with rfl | rfl <;> rfl
theorem train_cmpLays (blk off size : Nat) (w : World) : CmpLays Try.prog 48 #[] encP 2 cmpP blk off size w := fun _ _ _ _ x y => train_cmp x y _
end Go.Proofs.Ytnmidkjmflnolaa.P
end
section
namespace Go.Proofs.Ytnmidkjmflnolaa.P
open Go Go.Shelf Go.RowKit Go.Lib Go.Sort Go.Proofs.YtnmidkjmflnolaaW.PrintWords Go.Proofs.YtnmidkjmflnolaaW.PrintLast
set_option linter.unusedVariables false
set_option linter.unusedSimpArgs false

theorem cmpP_swo : SWO (ltOf cmpP) where
  irrefl x := by unfold ltOf; rw [cp_refl]; rfl
  trans x y z h1 h2 := by unfold ltOf at *; exact decide_eq_true (cp_strict (of_decide_eq_true h1) (of_decide_eq_true h2))
  ntrans x y z h1 h2 := by
    unfold ltOf at *
    have g1 := of_decide_eq_false h1
    have g2 := of_decide_eq_false h2
    have := (cp_trans z y x (by rw [cp_anti]; omega) (by rw [cp_anti]; omega)).1
    rw [cp_anti] at this
    exact decide_eq_false (by omega)
set_option maxHeartbeats 2000000 in
theorem ins_nil (c : Value) (W : World) : Calls Try.prog 89 #[.slice none 0 0, .int .i64 0, .int .i64 0, c] W fun e w' => e = .returned (.tuple #[]) ∧ w' = W := by
  go_enter Try.func89, Try.ntmps89
  go_wp2
  go_loopg [8] 0 (fun g v8 wr => v8 = .int .i64 1 ∧ wr = W)
  case atStart => exact ⟨rfl, rfl⟩
  case round =>
    obtain ⟨rfl, rfl⟩ := hrel
    go_wp2
    go_end0
    exact ⟨rfl, rfl⟩
set_option maxHeartbeats 4000000 in
set_option maxRecDepth 100000 in
theorem pdq_nil (c : Value) (n : Int) (W : World) : Calls Try.prog 70 #[.slice none 0 0, .int .i64 0, .int .i64 0, .int .i64 n, c] W fun e w' => e = .returned (.tuple #[]) ∧ w' = W := by
  go_enter Try.func70, Try.ntmps70
  go_wp2
  go_loopg [1, 2, 3, 10, 11] 0 (fun g v1 v2 v3 v10 v11 wr => v1 = .int .i64 0 ∧ v2 = .int .i64 0 ∧ wr = W)
  case atStart => exact ⟨rfl, rfl, rfl⟩
  case round =>
    obtain ⟨rfl, rfl, rfl⟩ := hrel
    go_wp2_with (go_at_call 89; refine (ins_nil c _).mono ?_; rintro e w' ⟨rfl, rfl⟩)
    refine bodyPost_ret (results_none rfl _ _ _) rfl ?_
    exact ⟨rfl, rfl⟩
set_option maxHeartbeats 4000000 in
set_option maxRecDepth 100000 in
theorem sort_nil (c : Value) (W : World) : Calls Try.prog 47 #[.slice none 0 0, c] W fun e w' => e = .returned (.tuple #[]) ∧ w' = W := by
  have hl : Calls Try.prog 71 #[.int .u64 0] W fun e w' => e = .returned (.int .i64 (Lib.bitLen 0 : Nat)) ∧ w' = W := by
    have h := Any.bits_Len (SlLaysF0.n15.bits (P := Try.prog) (ρ := Try.sortP_ren) { Try.sortP with }) 0 W (by omega) (by omega)
    exact h
  go_enter Try.func47, Try.ntmps47
  go_wp2_with (first | (go_at_call 71; refine hl.mono ?_; rintro e w' ⟨rfl, rfl⟩) | (go_at_call 70; refine (pdq_nil c _ _).mono ?_; rintro e w' ⟨rfl, rfl⟩))
  go_end0
  exact ⟨rfl, rfl⟩
def flatP (l : List (ByteArray × Int)) : List Value := l.flatMap encP
theorem flatP_len (l : List (ByteArray × Int)) : (flatP l).length = l.length * 2 := by
  induction l with
  | nil => rfl
  | cons x t ih => simp only [flatP, List.flatMap_cons, List.length_append] at *; rw [ih]; simp [encP]; omega
theorem flatP_snoc (l : List (ByteArray × Int)) (x : ByteArray × Int) : flatP (l ++ [x]) = flatP l ++ encP x := by simp [flatP]
theorem flatP_get : ∀ (l : List (ByteArray × Int)) (j i : Nat) (hj : j < l.length) (hi : i < 2), (flatP l)[j * 2 + i]? = (encP l[j])[i]?
  | x :: t, 0, i, _, hi => by
    show (encP x ++ flatP t)[0 * 2 + i]? = _
    rw [Nat.zero_mul, Nat.zero_add, List.getElem?_append_left (by simp [encP]; omega)]
    rfl
  | x :: t, j + 1, i, hj, hi => by
    have ih := flatP_get t j i (by simpa using hj) hi
    show (encP x ++ flatP t)[(j + 1) * 2 + i]? = _
    rw [List.getElem?_append_right (by simp [encP]; omega), show (j + 1) * 2 + i - (encP x).length = j * 2 + i by simp [encP]; omega, ih]
    rfl
instance : Inhabited (ByteArray × Int) := ⟨(ByteArray.empty, 0)⟩
theorem holds_flat {w : World} {g : Nat} {ws : List (ByteArray × Int)} (h : ∀ t v, (flatP ws)[t]? = some v → w.cell? ⟨g, t, none⟩ = some v ∧ w.frozen? ⟨g, t, none⟩ = false) : HoldsK encP 2 w g 0 ws.toArray := by
  intro t ht
  rw [size_flatK] at ht
  rw [get_flatK _ _ _ _ ht, Nat.zero_add]
  have hsz : ws.toArray.size = ws.length := by simp
  have hj : t / 2 < ws.length := by omega
  have e : (flatP ws)[t / 2 * 2 + t % 2]? = (encP ws[t / 2])[t % 2]? := flatP_get ws (t / 2) (t % 2) hj (by omega)
  rw [show t / 2 * 2 + t % 2 = t by omega] at e
  have hm : t % 2 < (encP ws[t / 2]).length := by rw [encP_len]; omega
  rw [List.getElem?_eq_getElem hm] at e
  have h2 := h t _ e
  have e2 : ws.toArray[t / 2]! = ws[t / 2] := by rw [getElem!_pos ws.toArray (t / 2) (by simpa using hj)]; simp
  rw [e2, getElem!_pos (encP ws[t / 2]) (t % 2) hm]
  exact h2
theorem holds_get {w : World} {g : Nat} {d : Array (ByteArray × Int)} (h : HoldsK encP 2 w g 0 d) (j : Nat) (hj : j < d.size) : w.cell? ⟨g, j * 2, none⟩ = some (.string d[j].1) ∧ w.cell? ⟨g, j * 2 + 1, none⟩ = some (.int .i64 d[j].2) := by
  have h0 := (h (j * 2) (by rw [size_flatK]; omega)).1
  have h1 := (h (j * 2 + 1) (by rw [size_flatK]; omega)).1
  rw [get_flatK _ _ _ _ (by omega), Nat.zero_add, show j * 2 / 2 = j by omega, show j * 2 % 2 = 0 by omega, getElem!_pos d j hj] at h0
  rw [get_flatK _ _ _ _ (by omega), Nat.zero_add, show (j * 2 + 1) / 2 = j by omega, show (j * 2 + 1) % 2 = 1 by omega, getElem!_pos d j hj] at h1
  exact ⟨h0, h1⟩
theorem below_sort (base : Nat) (w : World) (g m : Nat) (d : Array (ByteArray × Int)) (os : Array Obj) (hg : base ≤ g) (hb : base ≤ w.heap.size) : RowKit.Below base w (sortWorldK encP 2 w g 0 m d os) := by
  refine ⟨rfl, rfl, rfl, ?_, fun k hk => ?_⟩
  · show w.heap.size ≤ ((w.heap.modify g _) ++ os).size
    simp
  · show ((w.heap.modify g _) ++ os)[k]? = w.heap[k]?
    rw [Array.getElem?_append_left (by rw [Array.size_modify]; omega), Array.getElem?_modify, if_neg (by omega)]
/-- The row sorted. -/
theorem sort_calls (base : Nat) (ws : List (ByteArray × Int)) (v : Value) (w : World) (hb : base ≤ w.heap.size) (hs : ws.length < 4611686018427387904) (h : w.ownsRow base 74 2 v ws.length (flatP ws)) :
    Calls Try.prog 47 #[v, .func (.func 48) #[] #[]] w fun e w' => e = .returned (.tuple #[]) ∧ RowKit.Below base w w' ∧
      (ws = [] ∧ v = .slice none 0 0 ∨ ∃ g cap, v = .slice (some ⟨g, 0, none⟩) ws.length cap ∧ ws.length ≤ cap ∧ ∀ (j : Nat) (hj : j < (ws.mergeSort leP).length), w'.cell? ⟨g, j * 2, none⟩ = some (.string (ws.mergeSort leP)[j].1) ∧ w'.cell? ⟨g, j * 2 + 1, none⟩ = some (.int .i64 (ws.mergeSort leP)[j].2)) := by
  rcases h.2 with ⟨rfl, hn⟩ | ⟨g, cap, cur, rfl, hge, hg, hnc, hcm, hcs, htake⟩
  · refine (sort_nil _ w).mono ?_
    rintro e w' ⟨rfl, rfl⟩
    exact ⟨rfl, Below.refl _ _, .inl ⟨List.length_eq_zero_iff.1 hn, rfl⟩⟩
  · have eg : ∀ args w, (callFunc 48 args).run Try.prog w = .ok (.enter 48 args) w := enters_of Try.func48 (by kernel_rfl) rfl
    have hH : HoldsK encP 2 w g 0 ws.toArray := holds_flat fun t u hu => by
      refine ⟨?_, blk_frozen hg t⟩
      rw [blk_cell hg]
      rw [← htake] at hu
      have hlt := (List.getElem?_eq_some_iff.1 hu).1
      rw [List.length_take] at hlt
      rw [List.getElem?_take_of_lt (by omega)] at hu
      simpa using hu
    have hlt : g < w.heap.size := (Array.getElem?_eq_some_iff.1 hg).1
    have hcon := AnyQ.slices_SortFunc Try.sortP 2 Try.isAgg74 Try.sizeOf74 encP encP_len encP_one cmpP cmpP_swo 48 #[] g 0 cap ws.toArray w eg (train_cmpLays g 0 ws.toArray.size w) hH hlt (by simpa using hs)
    have hz : ws.toArray.size = ws.length := by simp
    rw [hz] at hcon
    refine (show Calls Try.prog 47 _ _ _ from hcon).mono ?_
    rintro e w' ⟨rfl, d', n, os, hp, hso, rfl⟩
    have hu : d'.toList = ws.mergeSort leP := by
      have := Sort.sorted_unique_holds (lt := ltOf cmpP) cmpP_swo (fun x y h1 h2 => by
        have g1 := of_decide_eq_false h1
        have g2 := of_decide_eq_false h2
        rw [cp_anti] at g2
        exact cp_eq (by omega)) ws.toArray d' (by rw [hz]; exact hp) (by rw [hz]; exact hso)
      exact this
    have hds : d'.size = ws.toArray.size := by rw [hz]; exact hp.1.trans hz
    refine ⟨rfl, below_sort base w g n d' os hge hb, .inr ⟨g, cap, rfl, hnc, fun j hj => ?_⟩⟩
    have hh := holdsK_sortWorldK encP 2 w g 0 n ws.toArray d' os hlt hH hds
    have hj2 : j < d'.size := by rw [← Array.length_toList, hu]; exact hj
    have := holds_get hh j hj2
    have ej : d'[j] = (ws.mergeSort leP)[j] := by
      have e1 : d'[j] = d'.toList[j]'(by simpa using hj2) := (Array.getElem_toList hj2).symm
      rw [e1]
      congr 1
    rw [ej] at this
    exact this
end Go.Proofs.Ytnmidkjmflnolaa.P
end
section
namespace Go.Proofs.Ytnmidkjmflnolaa.P
open Go Go.Shelf Go.RowKit Go.Lib Go.Proofs.YtnmidkjmflnolaaW.PrintWords Go.Proofs.YtnmidkjmflnolaaW.PrintLast Go.Proofs.YtnmidkjmflnolaaW.PrintMore Go.Proofs.Ytnmidkjmflnolaa.Maps
attribute [local go_sem] max2_int min2_int max_two min_two max_three min_three max_four min_four
set_option linter.unusedVariables false
set_option linter.unusedSimpArgs false

theorem at_row {α : Type} {d : Kd α} {e : Nat} {w : World} {A : Option Addr} {n : Nat} {xs : List (List α)} (h : (Kd.slice e d).C w A n xs) (i : Nat) (hi : i < xs.length) :
    ∃ ad Ai ci, A = some ad ∧ w.cell? (ad.add i) = some (.slice Ai xs[i].length ci) ∧ xs[i].length ≤ ci ∧ d.C w Ai xs[i].length xs[i] := by
  obtain ⟨hl, _, hc0⟩ := h
  obtain ⟨ad, hA, hc⟩ := hc0 (by omega)
  obtain ⟨cs, _, hk, hcell⟩ := hc i xs[i] (List.getElem?_eq_getElem hi)
  obtain ⟨Ai, ci, rfl, h1, h2⟩ := hk
  refine ⟨ad, Ai, ci, hA, ?_, h1, h2⟩
  have := hcell 0 _ rfl
  simpa [Kd.slice] using this
theorem zero_int (w : World) : (zeroValue 3).run Try.prog w = .ok (.int .i64 0) w := by kernel_rfl
def wantP (all seen : List ByteArray) : List (ByteArray × Int) := (seen.filter fun s => decide (1 < all.count s)).map (worthP all)
theorem info_str : (Try.prog.info? 9).map (fun i => (i.zero, i.size, i.bytes)) = some (some (.string ⟨#[]⟩), 1, 16) := by kernel_rfl
theorem gPiece : (Try.prog.info? 74).map (fun i => (i.zero, i.size, i.bytes)) = some (some (.agg #[.string ⟨#[]⟩, .int .i64 0]), 2, 24) := by kernel_rfl
theorem wantP_no {all seen : List ByteArray} {x : ByteArray} (h : ¬ 1 < all.count x) : wantP all (seen ++ [x]) = wantP all seen := by
  unfold wantP
  rw [List.filter_append, List.filter_cons, decide_eq_false h]
  simp
theorem wantP_yes {all seen : List ByteArray} {x : ByteArray} (h : 1 < all.count x) : wantP all (seen ++ [x]) = wantP all seen ++ [worthP all x] := by
  unfold wantP
  rw [List.filter_append, List.filter_cons, decide_eq_true h]
  simp
theorem wantP_len (all seen : List ByteArray) : (wantP all seen).length ≤ seen.length := by
  unfold wantP
  rw [List.length_map]
  exact List.length_filter_le _ _
theorem cellsP (w : World) (cs : List Value) (t : TypeId) : ∀ (j : Nat) u, cs[j]? = some u → (w.alloc (.cells cs.toArray t)).cell? ((⟨w.heap.size, 0, none⟩ : Addr).add j) = some u := fun j u h => by
  rw [WideShapes.add_plain, Nat.zero_add, blk_cell (blk_new w (.cells cs.toArray t (0, 0)))]
  simpa using h
theorem own_grown {w w1 : World} {base n : Nat} {e : TypeId} {size : Nat} {v : Value} {xs : List Value} {row : Option Nat} (h : w.ownsRow base e size v n xs) (hg : w.grownBy w1 row) (hne : ∀ k, v.ownBlock = some k → some k ≠ row) : w1.ownsRow base e size v n xs := by
  obtain ⟨h1, h2⟩ := h
  refine ⟨h1, ?_⟩
  rcases h2 with h2 | ⟨g, cap, cur, rfl, hge, hb, rest⟩
  · exact .inl h2
  · exact .inr ⟨g, cap, cur, rfl, hge, (hg.block g (Array.getElem?_eq_some_iff.1 hb).1 (hne g rfl)).trans hb, rest⟩
theorem own_cells' {w : World} {base n : Nat} {e : TypeId} {size : Nat} {v : Value} {xs : List Value} (h : w.ownsRow base e size v n xs) : ∀ k, v.ownBlock = some k → ∃ cur, w.heap[k]? = some (.cells cur e (0, 0)) := by
  rcases h.2 with ⟨rfl, _⟩ | ⟨g, cap, cur, rfl, hge, hb, rest⟩
  · intro k hk; simp [Value.ownBlock] at hk
  · intro k hk
    obtain rfl : g = k := by simpa [Value.ownBlock] using hk
    exact ⟨cur, hb⟩
theorem nodup_len : ∀ {seen all : List ByteArray}, seen.Nodup → (∀ x ∈ seen, x ∈ all) → seen.length ≤ all.length
  | [], _, _, _ => Nat.zero_le _
  | x :: seen, all, h, hs => by
    obtain ⟨hx, hn⟩ := List.nodup_cons.1 h
    have hm := hs x List.mem_cons_self
    have ih := nodup_len (seen := seen) (all := all.erase x) hn (fun y hy => (List.mem_erase_of_ne (fun e => hx (by rw [← e]; exact hy))).2 (hs y (List.mem_cons_of_mem _ hy)))
    rw [List.length_erase_of_mem hm] at ih
    have : 0 < all.length := List.length_pos_of_mem hm
    simp only [List.length_cons]
    omega
theorem wrapK (k : Nat) (h : k < 9223372036854775807) : wrap64 ((k : Int) + 1) = ((k + 1 : Nat) : Int) := by unfold wrap64; omega
theorem piecesAt_snoc (s : ByteArray) (a n d : Nat) : piecesAt s a n (d + 1) = s.extract a (a + n) :: piecesAt s a (n + 1) d := rfl
set_option maxHeartbeats 8000000 in
set_option maxRecDepth 100000 in
theorem sym_Train.calls (A0 : Option Addr) (c0 : Nat) (l0 : List (List Int)) (r : List ByteArray) (w : World) (hr0 : Kd.C (Kd.slice 5 (Kd.int .u8)) w A0 l0.length l0) (hc0 : l0.length ≤ c0) (h : sym_Train.f l0 = some r) :
    Calls Try.prog 28 #[.slice A0 l0.length c0] w fun e w' => ∃ v0_ : Value, e = .returned v0_ ∧ Kd.R Kd.string 9 w' w.heap.size (fun _ => True) v0_ r ∧ Below w.heap.size w w' := by
  have HR0 := Aside0.mk hr0
  have HC0 := Aside0.mk hc0
  have H := Aside0.mk h
  have HM0 := Aside0.mk (show l0.length ≤ 9223372036854775807 from hr0.2.1)
  clear hr0 hc0 h
  have hmm := @run_makeMap Try.prog
  go_enter Try.func28, Try.ntmps28
  go_wp2
  go_loopg [4, 19] l0.length (fun kq v4 v19 wr => ∃ (k left : Nat) (done : List ByteArray), v4 = .int .i64 (left : Int) ∧ v19 = .int .i64 (k : Int) ∧ k + kq = l0.length ∧ left ≤ 1024 ∧ Aside0 (allP 1024 l0 = done ++ allP left (l0.drop k)) ∧ Aside0 (MapIs Try.prog 9 3 (.int .i64) wr w.heap.size done.length (cntF done)) ∧ Aside0 (Below w.heap.size w wr))
  case atStart => exact ⟨0, 1024, [], rfl, rfl, by omega, Nat.le_refl _, ⟨rfl⟩, ⟨by rw [cntF_nil]; exact MapIs.made _ _ _ _ _⟩, ⟨(Below.refl _ _).alloc (Nat.le_refl _) _⟩⟩
  case round =>
    clear hmm
    obtain ⟨k, left, done, rfl, rfl, hk, hleft, HA, HM, HB⟩ := hrel
    cases gk with
    | zero =>
      have e0 : decide ((k : Int) < (l0.length : Int)) = false := decide_eq_false (by omega)
      have e0n : decide (k < l0.length) = false := decide_eq_false (by omega)
      have HALL := Aside0.mk (show allP 1024 l0 = done by have h := HA.out; rw [List.drop_of_length_le (by omega), allP, List.append_nil] at h; exact h)
      clear HA hk
      obtain ⟨wo, rfl⟩ : ∃ wo : World, wo = wr := ⟨_, rfl⟩
      have HB0 := HB
      go_wp2_with (at_range; refine wpList_range_is rfl _ 55 rfl Try.underlying9 Try.underlying55 rfl HM.out ?_; intro w0 cnt hr0 hg0 hs0; have HR1 := Aside0.mk hr0; have HB1 := Aside0.mk (HB.out.grown hg0 (below_size HB.out) (fun j hj => by cases hj)); clear hr0 hg0 hs0)
      go_frame
      go_loopg [10] cnt (fun kq v10 wq => ∃ (seen : List ByteArray), Aside0 (RangeIs Try.prog 9 3 .i64 wq w.heap.size wo.heap.size done.length (cntF done) seen kq) ∧ Aside0 (wq.ownsRow w.heap.size 74 2 v10 (wantP done seen).length (flatP (wantP done seen))) ∧ Aside0 (Below w.heap.size w wq))
      case atStart => exact ⟨[], HR1, ⟨World.ownsRow_nil _ _ _ _⟩, HB1⟩
      case round =>
        clear HR1 HB1 HM HB e0 e0n
        obtain ⟨seen, HR, HO, HB⟩ := hrel
        go_wp2_with (at_next; refine wpList_next_is rfl _ rfl Try.underlying9 Try.underlying3 rfl HR.out ?_ ?_)
        · intro hall
          have HPM := Aside0.mk (show (wantP done seen).mergeSort leP = (candP done).mergeSort leP from by
            obtain ⟨D, left, q1, q2, q3, q4, q5⟩ := HR.out
            refine sort_one (List.Perm.map _ (List.Perm.filter _ ((List.perm_ext_iff_of_nodup q4 (nodup_distP done)).2 fun y => ?_)))
            rw [mem_distP]
            refine ⟨fun hy => ?_, fun hy => hall y ?_⟩
            · have := q5 y hy
              unfold cntF at this
              split at this
              · cases this
              · exact List.count_pos_iff.1 (by omega)
            · have := List.count_pos_iff.2 hy
              unfold cntF
              rw [if_neg (by omega)]
              rfl)
          have HSL := Aside0.mk (show (wantP done seen).length ≤ 7168 by
            obtain ⟨D, left, q1, q2, q3, q4, q5⟩ := HR.out
            have h1 := wantP_len done seen
            have hdl := allP_len l0 1024
            rw [HALL.out] at hdl
            have h2 := nodup_len (all := done) q4 (fun y hy => by
              have := q5 y hy
              unfold cntF at this
              split at this
              · cases this
              · exact List.count_pos_iff.1 (by omega))
            omega)
          have HRES := Aside0.mk (show r = (((candP done).mergeSort leP).take 32).map (·.1) from by have h := Option.some.inj H.out; rw [← h, HALL.out]; rfl)
          clear hall HR
          generalize wantP done seen = ws at HPM HSL HO
          have HLEN := Aside0.mk (show ((candP done).mergeSort leP).length = ws.length by rw [← HPM.out, List.length_mergeSort])
          have HPM2 := HPM
          generalize (candP done).mergeSort leP = srt at HPM HRES HLEN
          obtain ⟨M, hMd⟩ : ∃ M : Nat, M = min 32 ws.length := ⟨_, rfl⟩
          have hmin : (if (ws.length : Int) < 32 then (ws.length : Int) else 32) = (M : Int) := by subst hMd; split <;> omega
          have hM0 : (0 : Int) ≤ (M : Int) := by omega
          have HMW := Aside0.mk (show M ≤ ws.length by omega)
          have HM32 := Aside0.mk (show M ≤ 32 by omega)
          have HRES2 := Aside0.mk (show r = (srt.take M).map (·.1) by
            rw [HRES.out]
            congr 1
            rcases Nat.le_total 32 ws.length with h | h
            · rw [show M = 32 by omega]
            · rw [show M = ws.length by omega, List.take_of_length_le (by rw [HLEN.out]; omega), List.take_of_length_le (by rw [HLEN.out]; omega)])
          clear HRES hMd
          go_wp2_with (go_at_call 47; refine (sort_calls w.heap.size ws u10 _ (below_size HB.out) (by have := HSL.out; omega) HO.out).mono ?_; rintro e w2 ⟨rfl, hb2, hrow⟩; rw [HPM.out] at hrow; have HB2 := Aside0.mk (HB.out.trans hb2); clear hb2; obtain ⟨hw0, hv0⟩ | ⟨g, cap, hv0, hcap, hcells⟩ := hrow; (case' inl => have HW0 := Aside0.mk hw0; clear hw0); (case' inr => have HCELLS := Aside0.mk hcells; have hMc : (M : Int) ≤ (cap : Int) := (by have := HMW.out; omega); clear hcells hcap); all_goals subst hv0)
          rotate_left
          · go_loopg [13, 86] 0 (fun kq v13 v86 wq => v13 = .slice none 0 0 ∧ v86 = .int .i64 0 ∧ wq = w2)
            case atStart => exact ⟨rfl, rfl, rfl⟩
            case round =>
              obtain ⟨rfl, rfl, rfl⟩ := hrel
              go_wp2
              go_ret
              refine ⟨_, rfl, ?_, HB2.out⟩
              have hr : r = [] := by
                have h1 := HRES2.out
                have h2 := HLEN.out
                rw [HW0.out] at h2
                rw [h1, List.length_eq_zero_iff.1 h2]
                simp
              rw [hr]
              exact Kd.R_nil _ _ _ _ _
          · clear hmin
            obtain ⟨i1, hi1, hy0, hy1, hy2⟩ := info_parts gPiece
            go_loopg [13, 86] M (fun kq v13 v86 wq => ∃ i : Nat, v86 = .int .i64 (i : Int) ∧ i + kq = M ∧ Aside0 (Kd.R Kd.string 9 wq w2.heap.size (fun _ => True) v13 ((srt.take i).map (·.1))) ∧ Aside0 (Below w2.heap.size w2 wq))
            case atStart => exact ⟨0, rfl, by omega, ⟨Kd.R_nil _ _ _ _ _⟩, ⟨Below.refl _ _⟩⟩
            case round =>
              obtain ⟨i, rfl, hi, HT, HBT⟩ := hrel
              cases gk with
              | zero =>
                have f1 : decide ((i : Int) < (M : Int)) = false := decide_eq_false (by omega)
                have f2 : decide (i < M) = false := decide_eq_false (by omega)
                obtain rfl : i = M := by omega
                go_wp2
                go_ret
                exact ⟨_, rfl, by rw [HRES2.out]; exact Kd.R_lower HT.out (below_size HB2.out), HB2.out.trans (HBT.out.mono (below_size HB2.out))⟩
              | succ k1 =>
                have f1 : decide ((i : Int) < (M : Int)) = true := decide_eq_true (by omega)
                have f2 : decide (i < M) = true := decide_eq_true (by omega)
                have f3 : (0 : Int) ≤ (i : Int) := by omega
                have f4 : (i : Int) < (M : Int) := by omega
                have f5 : (M : Int) ≤ 32 := by have := HM32.out; omega
                have hj : i < srt.length := by rw [HLEN.out]; have := HMW.out; omega
                obtain ⟨k0', k1'⟩ := HCELLS.out i hj
                replace k0' := (HBT.out.cell (World.block_lt_of_cell? w2 _ k0')).trans k0'
                replace k1' := (HBT.out.cell (World.block_lt_of_cell? w2 _ k1')).trans k1'
                have HTK := Aside0.mk (show (srt.take (i + 1)).map (·.1) = (srt.take i).map (·.1) ++ [srt[i].1] by rw [List.take_succ_eq_append_getElem hj, List.map_append]; rfl)
                have HLT := Aside0.mk (show ((srt.take i).map (·.1)).length ≤ 32 by rw [List.length_map, List.length_take]; have := HM32.out; omega)
                have HIK := Aside0.mk hi
                clear hi
                generalize srt[i] = pc at k0' k1' HTK
                clear hj
                obtain ⟨ps, pw⟩ := pc
                dsimp only at k0' k1' HTK
                have HT1 := Aside0.mk (Kd.R_alloc HT.out (.cells #[.string ps, .int .i64 pw] 74))
                have HBT1 := Aside0.mk (HBT.out.alloc (below_size HBT.out) (.cells #[.string ps, .int .i64 pw] 74))
                go_wp2_with ((with_reducible refine gate_dst (N := 94) rfl ?_); refine Kd.R_append Kd.string (w0 := w2) w2.heap.size rfl (.tmp 90) (.tmp 93) 22 9 (.string ⟨#[]⟩) 16 rfl Try.underlying22 info_str rfl (by decide) (by omega) u13 ((srt.take i).map (·.1)) ps [.string ps] (fun _ => True) (fun _ => False) ?b1 ?b2 ?b3 (fun _ hk => hk.elim) (fun _ _ => trivial) ?b6 ?b7 ?b8 ?b9 ?_; (case b1 => rfl); (case b2 => show Value.slice (some ⟨wr.heap.size + 1, 0, none⟩) 1 1 = _; rw [World.size_alloc]); (case b3 => rfl); (case b6 => exact HT1.out); (case b7 => exact HBT1.out); (case b8 => exact below_size HBT1.out); (case b9 => have := HLT.out; omega); intro v3 w3 ho hb hg hat; have HT3 := Aside0.mk ho; have HBT3 := Aside0.mk hb; clear ho hb hg hat)
                go_roundg k1
                case measure => omega
                case rel => exact ⟨i + 1, by go_num, by have := HIK.out; omega, ⟨by rw [HTK.out]; exact HT3.out⟩, HBT3⟩
        · intro x c w1 cnt1 hfx hns hxs hr1 hlt hg1 hs1 hen
          have hcm := HR.out
          have hcx : c = (done.count x : Int) ∧ done.count x ≠ 0 := by
            unfold cntF at hfx
            split at hfx
            · cases hfx
            · rename_i hz
              exact ⟨(Option.some.inj hfx).symm, hz⟩
          have hxd : x ∈ done := List.count_pos_iff.1 (by omega)
          have hsz := allP_size l0 1024 x (by rw [HALL.out]; exact hxd)
          have hdl := allP_len l0 1024
          rw [HALL.out] at hdl
          have hcl : (done.count x : Int) ≤ 7168 := by have := List.count_le_length (a := x) (l := done); omega
          have c1 : (1 : Int) ≤ c := by omega
          have c2 : c ≤ 7168 := by omega
          have x1 : (2 : Int) ≤ (x.size : Int) := by omega
          have x2 : (x.size : Int) ≤ 8 := by omega
          have HCX := Aside0.mk hcx.1
          have HR2 := Aside0.mk hr1
          have HLT := Aside0.mk hlt
          have HSL := Aside0.mk (show (wantP done seen).length ≤ 7168 by
            obtain ⟨D, left, q1, q2, q3, q4, q5⟩ := hcm
            have h1 := wantP_len done seen
            have h2 := nodup_len (all := done) q4 (fun y hy => by
              have := q5 y hy
              unfold cntF at this
              split at this
              · cases this
              · exact List.count_pos_iff.1 (by omega))
            omega)
          have HO1 := Aside0.mk (own_grown HO.out hg1 (fun q hq => by
            obtain ⟨cur, hcur⟩ := own_cells' HO.out q hq
            obtain ⟨_, m, s, l, c', hmi⟩ := HR.out.no_cells
            intro e
            cases e
            rw [hcur] at hmi
            cases hmi))
          have HB1 := Aside0.mk (HB.out.grown hg1 (below_size HB.out) (fun q hq => by cases hq; exact Nat.le_trans (below_size HB0.out) (Nat.le_refl _)))
          clear hfx hns hxs hr1 hlt hg1 hs1 hcx hxd hsz hdl hcl hcm HR HO HB
          by_cases hgt : (1 : Int) < c
          · have hb1 : decide ((1 : Int) < c) = true := decide_eq_true hgt
            have hp0 : 0 ≤ ((x.size : Int) - 1) * c := Int.mul_nonneg (by omega) (by omega)
            have hp1 : ((x.size : Int) - 1) * c ≤ 7 * 7168 := Int.mul_le_mul (by omega) c2 (by omega) (by omega)
            have hwr : wrap64 (((x.size : Int) - 1) * c) = ((x.size : Int) - 1) * c := by
              generalize ((x.size : Int) - 1) * c = y at hp0 hp1
              unfold wrap64
              omega
            clear hp0 hp1
            obtain ⟨i0, hi, hz0, hz1, hz2⟩ := info_parts gPiece
            go_wp2_with ((with_reducible refine gate_dst (N := 77) rfl ?_); refine wpList_append_own _ rfl _ _ 72 rfl w.heap.size 74 i0 (.agg #[.string ⟨#[]⟩, .int .i64 0]) 2 24 Try.underlying72 hi hz0 hz1 hz2 rfl (by decide) _ _ _ rfl (HO1.out.alloc _) ⟨w1.heap.size, 0, none⟩ 1 1 (encP (x, ((x.size : Int) - 1) * c)) rfl rfl (cellsP _ _ _) (encP_one _) (by have := HSL.out; unfold maxLen; omega) (by have := HSL.out; omega) (by have := below_size HB1.out; simp; omega) ?_; intro v' w4 hown' hgrow hnil; have HO4 := Aside0.mk hown'; have HG4 := Aside0.mk hgrow; clear hown' hgrow hnil)
            have HR4 := Aside0.mk ((HR2.out.alloc (.cells (encP (x, ((x.size : Int) - 1) * c)).toArray 74)).kept HG4.out (fun e => by
              obtain ⟨cur, hcur⟩ := own_cells' HO1.out w.heap.size e.symm
              obtain ⟨⟨es, q, hmi⟩, _⟩ := HR2.out.no_cells
              rw [hcur] at hmi
              cases hmi) (fun e => by
              obtain ⟨cur, hcur⟩ := own_cells' HO1.out wo.heap.size e.symm
              obtain ⟨_, m, s, l, c', hmi⟩ := HR2.out.no_cells
              rw [hcur] at hmi
              cases hmi))
            have HB4 := Aside0.mk ((HB1.out.alloc (below_size HB1.out) (.cells (encP (x, ((x.size : Int) - 1) * c)).toArray 74)).grown HG4.out (by have := below_size HB1.out; simp; omega) (fun j ej => own_base HO1.out j ej))
            go_roundg cnt1
            case measure => exact HLT.out
            case rel => exact ⟨seen ++ [x], HR4, ⟨by rw [wantP_yes (by have := HCX.out; omega), flatP_snoc, List.length_append, show worthP done x = (x, ((x.size : Int) - 1) * c) by unfold worthP; rw [HCX.out]]; exact HO4.out⟩, HB4⟩
          · have hb1 : decide ((1 : Int) < c) = false := decide_eq_false hgt
            go_wp2
            go_roundg cnt1
            case measure => exact HLT.out
            case rel => exact ⟨seen ++ [x], HR2, ⟨by rw [wantP_no (by have := HCX.out; omega)]; exact HO1.out⟩, HB1⟩
    | succ k1 =>
      have hklt : k < l0.length := by omega
      have e0 : decide ((k : Int) < (l0.length : Int)) = true := decide_eq_true (by omega)
      have hk0 : (0 : Int) ≤ (k : Int) := by omega
      have hk1' : (k : Int) < (l0.length : Int) := by omega
      have hl0 : (0 : Int) ≤ (left : Int) := by omega
      have hl1 : (left : Int) ≤ 1024 := by omega
      obtain ⟨ad, Ai, ci, hA0, hx, hci, hCi⟩ := at_row HR0.out k hklt
      subst hA0
      replace hx := (HB.out.cell (World.block_lt_of_cell? w _ hx)).trans hx
      have HDROP := Aside0.mk (List.drop_eq_getElem_cons hklt)
      generalize l0[k] = b at hx hci hCi HDROP
      have hml : min left b.length ≤ b.length := Nat.min_le_right _ _
      have hcv := Kd.C_string (P := Try.prog) (A := Ai) (c := ci) Try.underlying23 Try.underlying5 Try.underlying9 (Kd.C_below (Kd.C_take hCi hml) HB.out)
      have HSZ := Aside0.mk (takeS_size left b)
      have hs0 : strOfNums (b.take (min left b.length)) = takeS left b := rfl
      rw [hs0, List.length_take, Nat.min_eq_left hml] at hcv
      have HA2 := Aside0.mk (show allP 1024 l0 = done ++ piecesS (takeS left b) ++ allP (left - (takeS left b).size) (l0.drop (k + 1)) by rw [HA.out, HDROP.out, allP, List.append_assoc])
      clear HA hs0 hml HDROP
      generalize hsz : takeS left b = s at hcv HSZ HA2
      clear hsz
      have hs0 : (0 : Int) ≤ (s.size : Int) := by omega
      have hs1 : (s.size : Int) ≤ (left : Int) := by have := HSZ.out; omega
      have HS1 := Aside0.mk hs1
      have HREST := Aside0.mk (rfl : allP (left - s.size) (l0.drop (k + 1)) = allP (left - s.size) (l0.drop (k + 1)))
      have HK := Aside0.mk hk
      clear hk
      by_cases hmn : left ≤ b.length
      case' pos => rw [Nat.min_eq_left hmn] at hcv; have hmi : ¬ ((b.length : Int) < (left : Int)) := by omega
      case' neg => rw [Nat.min_eq_right (by omega)] at hcv; have hmi : ((b.length : Int) < (left : Int)) := by omega
      all_goals
        clear hmn
        go_wp2
        obtain ⟨wo, rfl⟩ : ∃ wo : World, wo = wr := ⟨_, rfl⟩
        clear hcv hx hci hCi
        go_loopg [36] s.size (fun kq v36 wq => ∃ (a : Nat) (cur : List ByteArray), v36 = .int .i64 (a : Int) ∧ a + kq = s.size ∧ Aside0 (allP 1024 l0 = cur ++ piecesFrom s a kq ++ allP (left - s.size) (l0.drop (k + 1))) ∧ Aside0 (MapIs Try.prog 9 3 (.int .i64) wq w.heap.size cur.length (cntF cur)) ∧ Aside0 (Below w.heap.size w wq))
        case atStart => exact ⟨0, done, rfl, by omega, ⟨HA2.out⟩, HM, HB⟩
        case round =>
          clear HM HB HA2
          obtain ⟨a, cur, rfl, ha, HA, HM, HB⟩ := hrel
          cases gk with
          | zero =>
            have e1 : decide ((a : Int) < (s.size : Int)) = false := decide_eq_false (by omega)
            have e1n : decide (a < s.size) = false := decide_eq_false (by omega)
            have HSD := Aside0.mk ha
            clear ha
            go_wp2
            go_roundg k1
            case measure => omega
            case rel => exact ⟨k + 1, left - s.size, cur, by congr 1; have := HS1.out; omega, by rw [wrapK k (by have := HM0.out; omega)], by have := HK.out; omega, by omega, ⟨by have h := HA.out; rw [piecesFrom, List.append_nil] at h; exact h⟩, HM, HB⟩
          | succ d2 =>
            have e1 : decide ((a : Int) < (s.size : Int)) = true := decide_eq_true (by omega)
            have e1n : decide (a < s.size) = true := decide_eq_true (by omega)
            have a0 : (0 : Int) ≤ (a : Int) := by omega
            have a1 : (a : Int) < (s.size : Int) := by omega
            have HAA := Aside0.mk ha
            clear ha
            go_wp2
            obtain ⟨wo, rfl⟩ : ∃ wo : World, wo = wr := ⟨_, rfl⟩
            have HA3 := Aside0.mk (show allP 1024 l0 = cur ++ piecesAt s a 2 (howMany s a) ++ (piecesFrom s (a + 1) d2 ++ allP (left - s.size) (l0.drop (k + 1))) by rw [HA.out, piecesFrom]; simp only [List.append_assoc])
            clear HA
            go_loopg [9] (howMany s a) (fun kq v9 wq => ∃ (n : Nat) (cur : List ByteArray), v9 = .int .i64 (n : Int) ∧ 2 ≤ n ∧ n ≤ 9 ∧ Aside0 (n + kq = 2 + howMany s a) ∧ Aside0 (allP 1024 l0 = cur ++ piecesAt s a n kq ++ (piecesFrom s (a + 1) d2 ++ allP (left - s.size) (l0.drop (k + 1)))) ∧ Aside0 (MapIs Try.prog 9 3 (.int .i64) wq w.heap.size cur.length (cntF cur)) ∧ Aside0 (Below w.heap.size w wq))
            case atStart => exact ⟨2, cur, rfl, by omega, by omega, ⟨rfl⟩, HA3, HM, HB⟩
            case round =>
              clear HM HB HA3
              obtain ⟨n, cur, rfl, hn2, hn9, HN, HA, HM, HB⟩ := hrel
              have hn2' : (2 : Int) ≤ (n : Int) := by omega
              have hn9' : (n : Int) ≤ 9 := by omega
              clear hn2 hn9
              cases gk with
              | zero =>
                by_cases hmin : (s.size : Int) - (a : Int) < 8
                case' pos => have e2 : decide ((n : Int) ≤ (s.size : Int) - (a : Int)) = false := decide_eq_false (by have := HN.out; unfold howMany at this; omega)
                case' neg => have e2 : decide ((n : Int) ≤ 8) = false := decide_eq_false (by have := HN.out; unfold howMany at this; omega)
                all_goals
                  go_wp2
                  go_roundg d2
                  case measure => omega
                  case rel => exact ⟨a + 1, cur, by go_num, by have := HAA.out; omega, ⟨by have h := HA.out; rw [piecesAt, List.append_nil, ← List.append_assoc] at h; exact h⟩, HM, HB⟩
              | succ d3 =>
                have f0 := HN.out
                have hh : howMany s a = min 8 (s.size - a) + 1 - 2 := rfl
                have f1 : (a : Int) + (n : Int) ≤ (s.size : Int) := by omega
                have f2 : (n : Int) ≤ 8 := by omega
                have f3 : (n : Int) ≤ (s.size : Int) - (a : Int) := by omega
                have HCL := Aside0.mk (show cur.length < 8000 by
                  have h1 := congrArg List.length HA.out
                  have h2 := allP_len l0 1024
                  simp only [List.length_append, piecesAt_len] at h1
                  omega)
                have HSX := Aside0.mk (show (s.extract a (a + n)).size ≤ maxLen by rw [ByteArray.size_extract]; unfold maxLen; omega)
                have HA4 := Aside0.mk (show allP 1024 l0 = cur ++ [s.extract a (a + n)] ++ piecesAt s a (n + 1) d3 ++ (piecesFrom s (a + 1) d2 ++ allP (left - s.size) (l0.drop (k + 1))) by rw [HA.out, piecesAt]; simp only [List.append_assoc, List.singleton_append, List.cons_append, List.nil_append])
                have HN2 := Aside0.mk (show (n + 1) + d3 = 2 + howMany s a by omega)
                clear f0 hh
                have hlk := HM.out.look Try.underlying9 (show El.fits _ _ (.int .i64) from Try.underlying3) Try.underlying55 (zero_int wr) HSX.out
                simp only [El.val, El.zero, cntF_getD] at hlk
                have hct : (cur.count (s.extract a (a + n)) : Int) ≤ 8000 := by have := List.count_le_length (a := s.extract a (a + n)) (l := cur); have := HCL.out; omega
                have hcs := cntF_snoc cur (s.extract a (a + n))
                have hsl := run_slice_string (P := Try.prog) wr 9 s .i64 .i64 (a : Int) ((a : Int) + (n : Int)) Try.underlying9 (by omega) (by omega) (by omega)
                rw [Int.toNat_natCast, show ((a : Int) + (n : Int)).toNat = a + n by omega] at hsl
                generalize hx : s.extract a (a + n) = x at hlk hct hcs HSX HA4 hsl
                clear hx
                generalize hcn : cur.count x = cn at hlk hct hcs
                have hc0 : (0 : Int) ≤ (cn : Int) := by omega
                clear hcn
                have HCS := Aside0.mk hcs
                clear hcs
                have e3 : decide ((n : Int) ≤ (s.size : Int) - (a : Int)) = true := decide_eq_true f3
                have e4 : decide ((n : Int) ≤ 8) = true := decide_eq_true f2
                clear hn9'
                have HM2 := HM
                by_cases hmin : (s.size : Int) - (a : Int) < 8
                all_goals
                  go_wp2_with (at_mapUpdate; refine wpList_store rfl _ _ _ 55 rfl Try.underlying9 (show El.fits _ _ (.int .i64) from Try.underlying3) Try.underlying55 rfl HM2.out (by have := HCL.out; unfold maxLen; omega) x rfl HSX.out ((cn : Int) + 1) rfl (WalkArith.wf_i64 (by omega)) ?_; intro w2 hm1 hg1; have HM3 := Aside0.mk hm1; have HB3 := Aside0.mk (HB.out.grown hg1 (below_size HB.out) (fun j hj => by cases hj; exact Nat.le_refl _)); clear hm1 hg1)
                  go_roundg d3
                  case measure => omega
                  case rel => exact ⟨n + 1, cur ++ [x], by go_num, by omega, by omega, HN2, HA4, ⟨by rw [← HCS.out, List.length_append]; exact HM3.out⟩, HB3⟩
end Go.Proofs.Ytnmidkjmflnolaa.P
end
