/- What sym.Train tells: the pieces of the samples, how often each comes, the worthiest 32 of those that come twice at least. -/
import Derived.Test.YtnmidkjmflnolaaMaps
import Derived.Test.YtnmidkjmflnolaaWWords
import Derived.Test.YtnmidkjmflnolaaWLast
import Derived.Lib.Bytealg
import Derived.Lib.Small
namespace Go.Proofs.Ytnmidkjmflnolaa.P
open Go Go.RowKit Go.Lib Go.Proofs.YtnmidkjmflnolaaW.PrintWords Go.Proofs.YtnmidkjmflnolaaW.PrintLast Go.Proofs.Ytnmidkjmflnolaa.Maps
set_option linter.unusedVariables false
set_option linter.unusedSimpArgs false

instance : LawfulBEq ByteArray where
  eq_of_beq := by
    intro a b h
    cases a; cases b
    congr
    exact eq_of_beq h
  rfl := by
    intro a
    cases a
    exact beq_self_eq_true (α := Array UInt8) _
def takeS (left : Nat) (b : List Int) : ByteArray := strOfNums (b.take (min left b.length))
theorem takeS_size (left : Nat) (b : List Int) : (takeS left b).size = min left b.length := by
  unfold takeS
  rw [Lib.size_eq, strOfNums_data, List.length_map, List.length_take]
  omega
def piecesAt (s : ByteArray) (a n : Nat) : Nat → List ByteArray
  | 0 => []
  | d + 1 => s.extract a (a + n) :: piecesAt s a (n + 1) d
def howMany (s : ByteArray) (a : Nat) : Nat := min 8 (s.size - a) + 1 - 2
def piecesFrom (s : ByteArray) (a : Nat) : Nat → List ByteArray
  | 0 => []
  | d + 1 => piecesAt s a 2 (howMany s a) ++ piecesFrom s (a + 1) d
def piecesS (s : ByteArray) : List ByteArray := piecesFrom s 0 s.size
def allP : Nat → List (List Int) → List ByteArray
  | _, [] => []
  | left, b :: r => piecesS (takeS left b) ++ allP (left - (takeS left b).size) r
theorem piecesAt_len (s : ByteArray) (a : Nat) : ∀ d n : Nat, (piecesAt s a n d).length = d
  | 0, _ => rfl
  | d + 1, n => by rw [piecesAt, List.length_cons, piecesAt_len]
theorem piecesFrom_len (s : ByteArray) : ∀ d a : Nat, (piecesFrom s a d).length ≤ 7 * d
  | 0, _ => Nat.le_refl _
  | d + 1, a => by
    rw [piecesFrom, List.length_append, piecesAt_len]
    have := piecesFrom_len s d (a + 1)
    unfold howMany
    omega
theorem allP_len : ∀ (l : List (List Int)) (left : Nat), (allP left l).length ≤ 7 * left
  | [], left => Nat.zero_le _
  | b :: r, left => by
    rw [allP, List.length_append]
    have h1 := allP_len r (left - (takeS left b).size)
    have h2 : (piecesS (takeS left b)).length ≤ 7 * (takeS left b).size := piecesFrom_len _ _ _
    have h3 := takeS_size left b
    omega
theorem piecesAt_size (s : ByteArray) (a : Nat) : ∀ d n : Nat, a + n + d ≤ s.size + 1 → ∀ x ∈ piecesAt s a n d, n ≤ x.size ∧ x.size < n + d
  | 0, _, _, x, h => by simp [piecesAt] at h
  | d + 1, n, hn, x, h => by
    rw [piecesAt] at h
    rcases List.mem_cons.1 h with rfl | h
    · rw [ByteArray.size_extract]
      omega
    · have := piecesAt_size s a d (n + 1) (by omega) x h
      omega
theorem piecesFrom_size (s : ByteArray) : ∀ d a : Nat, a + d ≤ s.size → ∀ x ∈ piecesFrom s a d, 2 ≤ x.size ∧ x.size ≤ 8
  | 0, _, _, x, h => by simp [piecesFrom] at h
  | d + 1, a, hn, x, h => by
    rw [piecesFrom] at h
    rcases List.mem_append.1 h with h | h
    · have hh : howMany s a = min 8 (s.size - a) + 1 - 2 := rfl
      by_cases h2 : s.size - a < 2
      · rw [show howMany s a = 0 by omega] at h
        simp [piecesAt] at h
      · have := piecesAt_size s a _ 2 (by omega) x h
        omega
    · exact piecesFrom_size s d (a + 1) (by omega) x h
theorem allP_size : ∀ (l : List (List Int)) (left : Nat), ∀ x ∈ allP left l, 2 ≤ x.size ∧ x.size ≤ 8
  | [], _, x, h => by simp [allP] at h
  | b :: r, left, x, h => by
    rw [allP] at h
    rcases List.mem_append.1 h with h | h
    · exact piecesFrom_size _ _ 0 (by omega) x h
    · exact allP_size r _ x h
/-- How often each text comes: a map. -/
def cntF (l : List ByteArray) (s : ByteArray) : Option Int := if l.count s = 0 then none else some (l.count s : Int)
theorem cntF_nil : cntF [] = fun _ => none := by
  funext s
  simp [cntF]
theorem cntF_getD (l : List ByteArray) (s : ByteArray) : (cntF l s).getD 0 = (l.count s : Int) := by
  unfold cntF
  split
  · rename_i h; rw [h]; rfl
  · rfl
theorem cntF_snoc (l : List ByteArray) (s : ByteArray) : upd (cntF l) s ((l.count s : Int) + 1) = cntF (l ++ [s]) := by
  funext t
  unfold upd cntF
  by_cases h : t = s
  · subst h
    rw [if_pos rfl, List.count_append, List.count_singleton_self, if_neg (by omega)]
    rfl
  · rw [if_neg h, List.count_append, show ([s] : List ByteArray).count t = 0 from List.count_eq_zero.2 (by simpa using h), Nat.add_zero]
/-- A piece and its worth: the two cells of Train's own struct. -/
def encP (x : ByteArray × Int) : List Value := [.string x.1, .int .i64 x.2]
/-- Which of two pieces stands ahead: the worthier, then the lesser text. -/
def cmpP (x y : ByteArray × Int) : Int := if compareInt y.2 x.2 ≠ 0 then compareInt y.2 x.2 else compareBytes x.1.data.toList y.1.data.toList
def leP (x y : ByteArray × Int) : Bool := !decide (cmpP y x < 0)
def worthP (all : List ByteArray) (s : ByteArray) : ByteArray × Int := (s, ((s.size : Int) - 1) * (all.count s : Int))
/-- Each once. -/
def distP : List ByteArray → List ByteArray
  | [] => []
  | x :: l => if x ∈ distP l then distP l else x :: distP l
theorem mem_distP {x : ByteArray} : ∀ {l : List ByteArray}, x ∈ distP l ↔ x ∈ l
  | [] => Iff.rfl
  | y :: l => by
    rw [distP]
    split
    · rename_i h
      rw [mem_distP, List.mem_cons]
      exact ⟨.inr, fun e => e.elim (fun e => by rw [e]; exact mem_distP.1 h) id⟩
    · rw [List.mem_cons, List.mem_cons, mem_distP]
theorem nodup_distP : ∀ l : List ByteArray, (distP l).Nodup
  | [] => List.nodup_nil
  | y :: l => by
    rw [distP]
    split
    · exact nodup_distP l
    · rename_i h
      exact List.nodup_cons.2 ⟨h, nodup_distP l⟩
/-- The pieces that come twice at least, each once. -/
def candP (all : List ByteArray) : List (ByteArray × Int) := ((distP all).filter fun s => decide (1 < all.count s)).map (worthP all)
def trainAll (all : List ByteArray) : List ByteArray := (((candP all).mergeSort leP).take 32).map (·.1)
def sym_Train.f (l0 : List (List Int)) : Option (List ByteArray) := some (trainAll (allP 1024 l0))
end Go.Proofs.Ytnmidkjmflnolaa.P
