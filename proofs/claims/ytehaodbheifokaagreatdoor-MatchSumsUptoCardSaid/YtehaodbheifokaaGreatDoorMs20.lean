/- Joined by wip/tools/pack.py, pruned: Form19. -/
import Derived.Test.YtehaodbheifokaaGreatDoorMs18
import Derived.Test.YtehaodbheifokaaGreatDoorMs19
set_option maxHeartbeats 8000000
set_option maxRecDepth 100000
set_option linter.unusedVariables false
set_option linter.unusedSimpArgs false
section
namespace Go.Proofs.YtehaodbheifokaaGreatDoor.P
open Go Go.RowKit Go.Proofs.YtehaodbheifokaaGreatDoorW.PrintWords Go.Proofs.YtehaodbheifokaaGreatDoorW.PrintLast Go.Proofs.YtehaodbheifokaaGreatDoorW.PrintMore
attribute [local go_sem] max2_int min2_int max_two min_two
theorem rsame_ev (k a b : Int) (tx : ByteArray) (tm : List ByteArray) (ky : ByteArray) (lo hi : Int) (hb : tm.length ≤ 1099511627776) : Ev (fun n => dragnetref19_SameNode.f n k a b tx tm ky lo hi k a b tx tm ky lo hi) true := by
 obtain ⟨n, hn⟩ := rsl_ev tm tm hb
 refine ⟨n, fun m hm => ?_⟩
 have e1 := hn m hm
 simp only at e1
 show dragnetref19_SameNode.f m k a b tx tm ky lo hi k a b tx tm ky lo hi = some true
 unfold dragnetref19_SameNode.f
 rw [e1]
 simp
theorem rd_node {ns : List ND} {i : Nat} (h : i < ns.length) : rd_T37 ns (i : Int) = ns[i] := by
 unfold rd_T37
 simp [List.getD_eq_getElem?_getD, h]
theorem askl_loop (ns : List ND) (h64 : ns.length ≤ 1099511627776) (h4 : ∀ n ∈ ns, n.f4.length ≤ 1099511627776) (k1 : Int) (y1 : ByteArray) (w1 s1 m1 k2 : Int) (y2 : ByteArray) (w2 s2 m2 : Int) : ∀ (d i : Nat), i + d = ns.length → Ev (fun k => dragnetref19_Same.l0 k (i : Int) ns k1 y1 w1 s1 m1 ns k2 y2 w2 s2 m2) true
 | 0, i, hi => by
  refine Ev.step (f := fun _ => some true) (fun k => ?_) (Ev.now _)
  simp only [dragnetref19_Same.l0]
  rw [if_neg (by omega)]
 | d + 1, i, hi => by
  have ih := askl_loop ns h64 h4 k1 y1 w1 s1 m1 k2 y2 w2 s2 m2 d (i + 1) (by omega)
  have hin : i < ns.length := by omega
  have hs := rsame_ev (ns[i]).f0 (ns[i]).f1 (ns[i]).f2 (ns[i]).f3 (ns[i]).f4 (ns[i]).f5 (ns[i]).f6 (ns[i]).f7 (h4 _ (List.getElem_mem hin))
  have ew : wrap64 ((i : Int) + 1) = ((i + 1 : Nat) : Int) := by unfold wrap64; omega
  refine Pure.Ev.sb (F := fun k (t : Bool) => if t = true then dragnetref19_Same.l0 k (wrap64 ((i : Int) + 1)) ns k1 y1 w1 s1 m1 ns k2 y2 w2 s2 m2 else some false) hs (fun k => ?_) ?_
  ·simp only [dragnetref19_Same.l0]
   rw [if_pos (by omega), if_pos (by omega), if_pos (by omega), rd_node hin]
  ·simp only [if_true, ew]
   exact ih
theorem askSame_ev (ns : List ND) (h64 : ns.length ≤ 1099511627776) (h4 : ∀ n ∈ ns, n.f4.length ≤ 1099511627776) (k1 : Int) (y1 : ByteArray) (w1 s1 m1 k2 : Int) (y2 : ByteArray) (w2 s2 m2 : Int) :
  Ev (fun k => dragnetref19_Same.f k ns k1 y1 w1 s1 m1 ns k2 y2 w2 s2 m2) (decide (k1 = k2 ∧ y1 = y2 ∧ w1 = w2 ∧ s1 = s2 ∧ m1 = m2)) := by
 have hl : ((ns.length : Int) != (ns.length : Int)) = false := by simp
 have yes : Ev (fun k => dragnetref19_Same.j0 k false ns k1 y1 w1 s1 m1 ns k2 y2 w2 s2 m2) true := by
  refine Ev.step (fun k => ?_) (askl_loop ns h64 h4 k1 y1 w1 s1 m1 k2 y2 w2 s2 m2 ns.length 0 (by omega))
  simp only [dragnetref19_Same.j0]
  rw [if_neg (by decide)]
  rfl
 have no : Ev (fun k => dragnetref19_Same.j0 k true ns k1 y1 w1 s1 m1 ns k2 y2 w2 s2 m2) false := by
  refine Ev.step (f := fun _ => some false) (fun k => ?_) (Ev.now _)
  simp only [dragnetref19_Same.j0, if_true]
 unfold dragnetref19_Same.f
 simp only [bytes_inj0, hl]
 by_cases e1 : k1 = k2
 ·by_cases e2 : y1 = y2
  ·by_cases e3 : w1 = w2
   ·by_cases e4 : s1 = s2
    ·by_cases e5 : m1 = m2
     ·simp only [e1, e2, e3, e4, e5, if_true, and_self, decide_true]; subst e1 e2 e3 e4 e5; exact yes
     ·simp only [e1, e2, e3, e4, e5, if_true, if_false, and_false, decide_false]; subst e1 e2 e3 e4; exact no
    ·simp only [e1, e2, e3, e4, if_true, if_false, and_false, false_and, decide_false]; subst e1 e2 e3; exact no
   ·simp only [e1, e2, e3, if_true, if_false, and_false, false_and, decide_false]; subst e1 e2; exact no
  ·simp only [e1, e2, if_true, if_false, and_false, false_and, decide_false]; subst e1; exact no
 ·simp only [e1, if_false, false_and, decide_false]; exact no
theorem askSame_calls (A : Option Addr) (c : Nat) (A' : Option Addr) (c' : Nat) (ns : List ND) (h64 : ns.length ≤ 1099511627776) (h4 : ∀ n ∈ ns, n.f4.length ≤ 1099511627776) (k1 : Int) (y1 : ByteArray) (w1 s1 m1 k2 : Int) (y2 : ByteArray) (w2 s2 m2 : Int) (w : World) (hC : Kd.C k37 w A ns.length ns) (hc : ns.length ≤ c) (hC' : Kd.C k37 w A' ns.length ns) (hc' : ns.length ≤ c') :
  Calls Tryz.prog 26 #[.agg #[.slice A ns.length c, .int .i64 k1, .string y1, .int .i64 w1, .int .i64 s1, .int .i64 m1], .agg #[.slice A' ns.length c', .int .i64 k2, .string y2, .int .i64 w2, .int .i64 s2, .int .i64 m2]] w fun e w' => e = .returned (.bool (decide (k1 = k2 ∧ y1 = y2 ∧ w1 = w2 ∧ s1 = s2 ∧ m1 = m2))) ∧ Below w.heap.size w w' := by
 obtain ⟨n, hn⟩ := askSame_ev ns h64 h4 k1 y1 w1 s1 m1 k2 y2 w2 s2 m2
 exact dragnetref19_Same.calls n A c ns k1 y1 w1 s1 m1 A' c' ns k2 y2 w2 s2 m2 _ w hC hc hC' hc' (hn n (Nat.le_refl _))
def xOf (k : Int) (ky : ByteArray) (wd sk mo : Int) (q : ByteArray × Int × Int × Int) : Prop :=
 (k = 1 ∧ q = (⟨#[]⟩, 0, sk, mo)) ∨ (k = 2 ∧ q = (⟨#[]⟩, 0, 0, 0)) ∨ (k = 3 ∧ q = (ky, 0, 0, 0)) ∨ (k = 4 ∧ q = (ky, 0, 0, mo)) ∨ ((k = 5 ∨ k = 6) ∧ q = (⟨#[]⟩, wd, 0, 0))
theorem asked_of {k : Int} {ky : ByteArray} {wd sk mo : Int} {q : ByteArray × Int × Int × Int} (hx : xOf k ky wd sk mo q) : askedB k ky wd sk mo = (decide (ky = q.1 ∧ wd = q.2.1 ∧ sk = q.2.2.1 ∧ mo = q.2.2.2) && rngB sk mo && decide (k = 4 → mo ≤ 1000) && decide (k = 3 ∨ k = 4 → Pure.keyB ky = true) && decide (5 ≤ k → 1 ≤ wd)) := by
 unfold askedB
 rcases hx with ⟨rfl, rfl⟩ | ⟨rfl, rfl⟩ | ⟨rfl, rfl⟩ | ⟨rfl, rfl⟩ | ⟨h, rfl⟩
 ·rw [if_pos rfl]; simp; rw [Bool.and_comm]
 ·rw [if_neg (by decide), if_pos rfl, Bool.eq_iff_iff]
  unfold rngB
  simp only [decide_eq_true_eq, Bool.and_eq_true]
  constructor
  ·rintro ⟨h1, h2, h3, h4⟩; refine ⟨⟨⟨⟨⟨h1, h2, h3, h4⟩, by omega⟩, by omega⟩, by omega⟩, by omega⟩
  ·rintro ⟨⟨⟨⟨h, _⟩, _⟩, _⟩, _⟩; exact h
 ·rw [if_neg (by decide), if_neg (by decide), if_pos rfl, Bool.eq_iff_iff]
  unfold rngB
  simp only [decide_eq_true_eq, Bool.and_eq_true]
  constructor
  ·rintro ⟨h0, h2, h3, h4⟩; exact ⟨⟨⟨⟨⟨trivial, h2, h3, h4⟩, by omega⟩, by omega⟩, fun _ => h0⟩, by omega⟩
  ·rintro ⟨⟨⟨⟨h, _⟩, _⟩, h5⟩, _⟩; exact ⟨h5 (by simp), h.2.1, h.2.2.1, h.2.2.2⟩
 ·rw [if_neg (by decide), if_neg (by decide), if_neg (by decide), if_pos rfl, Bool.eq_iff_iff]
  unfold rngB
  simp only [decide_eq_true_eq, Bool.and_eq_true]
  constructor
  ·rintro ⟨h0, h2, h3, h4, h5⟩; exact ⟨⟨⟨⟨⟨trivial, h4, h5, trivial⟩, by omega⟩, by omega⟩, fun _ => h0⟩, by omega⟩
  ·rintro ⟨⟨⟨⟨h, h6⟩, h7⟩, h5⟩, _⟩; exact ⟨h5 (by simp), h6.2.1, h7 (by simp), h.2.1, h.2.2.1⟩
 ·rw [if_neg (by omega), if_neg (by omega), if_neg (by omega), if_neg (by omega), if_pos h, Bool.eq_iff_iff]
  unfold rngB
  simp only [decide_eq_true_eq, Bool.and_eq_true]
  constructor
  ·rintro ⟨h0, h2, h3, h4⟩; exact ⟨⟨⟨⟨⟨h2, trivial, h3, h4⟩, by omega⟩, by omega⟩, fun h5 => by omega⟩, fun _ => h0⟩
  ·rintro ⟨⟨⟨⟨h2, _⟩, _⟩, _⟩, h6⟩; exact ⟨h6 (by omega), h2.1, h2.2.2.1, h2.2.2.2⟩
def pass14 (n : Nat) (k : Int) (ky : ByteArray) (wd sk mo : Int) (q1 : ByteArray) (q2 q3 q4 : Int) : Bool := decide (1 ≤ n ∧ n ≤ 64) && decide (ky = q1 ∧ wd = q2 ∧ sk = q3 ∧ mo = q4) && rngB sk mo && decide (k = 4 → mo ≤ 1000)
def pass16 (k : Int) (ky : ByteArray) (wd : Int) : Bool := decide (k = 3 ∨ k = 4 → Pure.keyB ky = true) && decide (5 ≤ k → 1 ≤ wd)
section
variable {n : Nat} {k : Int} {ky : ByteArray} {wd sk mo : Int} {q1 : ByteArray} {q2 q3 q4 : Int} {ns : List ND}
theorem p14_len (h : ¬ (1 ≤ n ∧ n ≤ 64)) : true = !pass14 n k ky wd sk mo q1 q2 q3 q4 := by unfold pass14; rw [decide_eq_false h]; rfl
theorem p14_sb (h : decide (ky = q1 ∧ wd = q2 ∧ sk = q3 ∧ mo = q4) = false) : true = !pass14 n k ky wd sk mo q1 q2 q3 q4 := by unfold pass14; rw [h, Bool.and_false]; rfl
theorem p14_rng (h : ¬ (0 ≤ sk ∧ 0 ≤ mo ∧ sk ≤ 2147483647 ∧ mo ≤ 2147483647)) : true = !pass14 n k ky wd sk mo q1 q2 q3 q4 := by unfold pass14 rngB; rw [decide_eq_false h, Bool.and_false]; rfl
theorem p14_mo (h : ¬ (k = 4 → mo ≤ 1000)) : true = !pass14 n k ky wd sk mo q1 q2 q3 q4 := by unfold pass14; rw [decide_eq_false h, Bool.and_false]; rfl
theorem p14_ok (h0 : 1 ≤ n ∧ n ≤ 64) (h1 : decide (ky = q1 ∧ wd = q2 ∧ sk = q3 ∧ mo = q4) = true) (h2 : 0 ≤ sk ∧ 0 ≤ mo ∧ sk ≤ 2147483647 ∧ mo ≤ 2147483647) (h3 : k = 4 → mo ≤ 1000) : false = !pass14 n k ky wd sk mo q1 q2 q3 q4 := by unfold pass14 rngB; rw [decide_eq_true h0, h1, decide_eq_true h2, decide_eq_true h3]; rfl
theorem p16_key {kb : Bool} (h : k = 3 ∨ k = 4) (hk : Pure.keyB ky = kb) : (!kb) = !pass16 k ky wd := by
 unfold pass16
 rw [hk, decide_eq_true (show 5 ≤ k → 1 ≤ wd by omega), Bool.and_true]
 cases kb
 ·rw [decide_eq_false (fun e => absurd (e h) (by decide))]
 ·rw [decide_eq_true (fun _ => rfl)]
theorem p16_wd (h : ¬ (k = 3 ∨ k = 4)) (h5 : 5 ≤ k) : decide (wd < 1) = !pass16 k ky wd := by
 unfold pass16
 rw [decide_eq_true (show k = 3 ∨ k = 4 → Pure.keyB ky = true from fun e => absurd e h), Bool.true_and]
 by_cases hw : wd < 1
 ·rw [decide_eq_true hw, decide_eq_false (fun e => by have := e h5; omega)]; rfl
 ·rw [decide_eq_false hw, decide_eq_true (fun _ => by omega)]; rfl
theorem p16_no (h : ¬ (k = 3 ∨ k = 4)) (h5 : ¬ 5 ≤ k) : false = !pass16 k ky wd := by
 unfold pass16
 rw [decide_eq_true (show k = 3 ∨ k = 4 → Pure.keyB ky = true from fun e => absurd e h), decide_eq_true (show 5 ≤ k → 1 ≤ wd from fun e => absurd e h5)]
 rfl
theorem form_of (hx : xOf k ky wd sk mo (q1, q2, q3, q4)) : formedB ns k ky wd sk mo = (pass14 ns.length k ky wd sk mo q1 q2 q3 q4 && pass16 k ky wd && (match formL 0 ns (List.replicate ns.length 0) with | none => false | some u => onesB u)) := by
 unfold formedB
 rw [asked_of hx]
 unfold pass14 pass16
 simp only [Bool.and_assoc]; try rfl
theorem form_no14 (hx : xOf k ky wd sk mo (q1, q2, q3, q4)) (h : true = !pass14 ns.length k ky wd sk mo q1 q2 q3 q4) : formedB ns k ky wd sk mo = false := by
 rw [form_of hx]
 cases hp : pass14 ns.length k ky wd sk mo q1 q2 q3 q4 with
 | true => rw [hp] at h; cases h
 | false => rfl
theorem form_no16 (hx : xOf k ky wd sk mo (q1, q2, q3, q4)) (h : true = !pass16 k ky wd) : formedB ns k ky wd sk mo = false := by
 rw [form_of hx]
 cases hp : pass16 k ky wd with
 | true => rw [hp] at h; cases h
 | false => rw [Bool.and_false]; rfl
theorem form_yes (hx : xOf k ky wd sk mo (q1, q2, q3, q4)) (h : false = !pass14 ns.length k ky wd sk mo q1 q2 q3 q4) (h2 : false = !pass16 k ky wd) : formedB ns k ky wd sk mo = (match formL 0 ns (List.replicate ns.length 0) with | none => false | some u => onesB u) := by
 rw [form_of hx]
 cases hp : pass14 ns.length k ky wd sk mo q1 q2 q3 q4 with
 | false => rw [hp] at h; cases h
 | true =>
  cases hp2 : pass16 k ky wd with
  | false => rw [hp2] at h2; cases h2
  | true => rfl
theorem form_len (h : false = !pass14 n k ky wd sk mo q1 q2 q3 q4) : 1 ≤ n ∧ n ≤ 64 := by
 unfold pass14 at h
 by_cases h0 : 1 ≤ n ∧ n ≤ 64
 ·exact h0
 ·rw [decide_eq_false h0] at h; cases h
end
theorem ones_no {u : List Int} {j : Nat} {z : Int} (hj : j < u.length - 1) (hz : u.getD j 0 = z) (h1 : z ≠ 1) : onesB u = false := by
 unfold onesB
 rw [List.all_eq_false]
 refine ⟨z, ?_, by simpa using h1⟩
 rw [List.getD_eq_getElem?_getD, List.getElem?_eq_getElem (by omega)] at hz
 rw [← hz]
 exact List.mem_take_iff_getElem.2 ⟨j, by omega, rfl⟩
theorem ones_yes {u : List Int} (h : ∀ q, q < u.length - 1 → u.getD q 0 = 1) : onesB u = true := by
 unfold onesB
 rw [List.all_eq_true]
 intro x hx
 obtain ⟨q, hq, rfl⟩ := List.mem_take_iff_getElem.1 hx
 have h2 := h q (by omega)
 rw [List.getD_eq_getElem?_getD, List.getElem?_eq_getElem (by omega)] at h2
 exact beq_iff_eq.2 h2
theorem formL_step2 (i : Nat) (n : ND) (r : List ND) (u : List Int) (h : rightN n = true) (ha : (partsN n).all (inN i) = true) : formL i (n :: r) u = formL (i + 1) r (bump u (partsN n)) := by rw [formL, if_pos ⟨h, ha⟩]
theorem right_lt {n : ND} (h : rightN n = true) (h10 : n.f0 ≠ 10) (h11 : n.f0 ≠ 11) (h12 : n.f0 ≠ 12) : n.f0 < 10 := by
 rcases Int.lt_or_le n.f0 10 with hl | hl
 ·exact hl
 ·exfalso
  unfold rightN rightB at h
  rw [if_neg (by omega), if_neg (by omega), if_neg (by omega), if_neg (by omega), if_neg (by omega), if_neg (by omega), if_neg (by omega), if_neg (by omega), if_neg h12] at h
  cases h
noncomputable def sndSeq : Code → Code
 | .seq _ b => b
 | c => c
noncomputable def rf14C : Code := sndSeq (sndSeq (sndSeq ((Tryz.f16.body).getD .skip)))
noncomputable def rf16C : Code := sndSeq rf14C
noncomputable def rf18C : Code := sndSeq rf16C
theorem rf18 (A : Option Addr) (c : Nat) (ns : List ND) (k : Int) (ky : ByteArray) (wd sk mo : Int) (w : World) (r : Bool) (wc : World) (HR : Aside0 ((match formL 0 ns (List.replicate ns.length 0) with | none => false | some u => onesB u) = r)) (HLEN : Aside0 (1 ≤ ns.length ∧ ns.length ≤ 64)) (HC : Aside0 (Kd.C k37 w A ns.length ns)) (hc : ns.length ≤ c) (H4 : Aside0 (∀ n ∈ ns, n.f4.length ≤ 1099511627776)) (H5 : Aside0 (∀ n ∈ ns, n.f5.size ≤ 9223372036854775807)) (HAB : Aside0 (wc.heap[w.heap.size]? = some (.cells #[.slice A ns.length c, .int .i64 k, .string ky, .int .i64 wd, .int .i64 sk, .int .i64 mo] 24 (0, 0)))) (HB : Aside0 (Below w.heap.size w wc)) (u0 u2 u3 u4 u5 u6 u7 u8 u9 u10 u11 u12 u13 u14 u15 u16 u17 u18 u19 u20 u21 u22 u23 u24 u25 u26 u27 u28 u29 u30 u31 u32 u33 u34 u35 u36 u37 u38 u39 u40 u41 u42 u43 u44 u45 u46 u47 u48 u49 u50 u51 u52 u53 u54 u55 u56 u57 u58 u59 u60 u61 u62 u63 u64 u65 u66 u67 u68 u69 u70 u71 u72 u73 u74 u75 u76 u77 u78 u79 u80 u81 u82 u83 u84 u85 u86 u87 u88 u89 u90 u91 u92 u93 u94 u95 u96 u97 u98 u99 u100 u101 u102 u103 u104 u105 u106 u107 u108 u109 u110 u111 u112 u113 u114 u115 u116 u117 u118 u119 u120 u121 u122 u123 u124 u125 u126 u127 u128 u129 u130 u131 u132 u133 u134 u135 u136 u137 u138 u139 u140 u141 u142 u143 u144 u145 u146 u147 u148 u149 u150 u151 u152 u153 u154 u155 u156 u157 u158 u159 u160 u161 u162 u163 u164 u165 u166 u167 u168 u169 u170 u171 u172 u173 u174 u175 u176 u177 u178 u179 u180 u181 : Value) :
  Code.wp Tryz.prog rf18C (bodyPost Tryz.prog Tryz.f16 (fun e w' => e = .returned (.bool r) ∧ Below w.heap.size w w')) ⟨List.toArray (u0 :: .pointer (some ⟨w.heap.size, 0, none⟩) :: u2 :: u3 :: u4 :: u5 :: u6 :: u7 :: u8 :: u9 :: u10 :: u11 :: u12 :: u13 :: u14 :: u15 :: u16 :: u17 :: u18 :: u19 :: u20 :: u21 :: u22 :: u23 :: u24 :: u25 :: u26 :: u27 :: u28 :: u29 :: u30 :: u31 :: u32 :: u33 :: u34 :: u35 :: u36 :: u37 :: u38 :: u39 :: u40 :: u41 :: u42 :: u43 :: u44 :: u45 :: u46 :: u47 :: u48 :: u49 :: u50 :: u51 :: u52 :: u53 :: u54 :: u55 :: u56 :: u57 :: u58 :: u59 :: u60 :: u61 :: u62 :: u63 :: u64 :: u65 :: u66 :: u67 :: u68 :: u69 :: u70 :: u71 :: u72 :: u73 :: u74 :: u75 :: u76 :: u77 :: u78 :: u79 :: u80 :: u81 :: u82 :: u83 :: u84 :: u85 :: u86 :: u87 :: u88 :: u89 :: u90 :: u91 :: u92 :: u93 :: u94 :: u95 :: u96 :: u97 :: u98 :: u99 :: u100 :: u101 :: u102 :: u103 :: u104 :: u105 :: u106 :: u107 :: u108 :: u109 :: u110 :: u111 :: u112 :: u113 :: u114 :: u115 :: u116 :: u117 :: u118 :: u119 :: u120 :: u121 :: u122 :: u123 :: u124 :: u125 :: u126 :: u127 :: u128 :: u129 :: u130 :: u131 :: u132 :: u133 :: u134 :: u135 :: u136 :: u137 :: u138 :: u139 :: u140 :: u141 :: u142 :: u143 :: u144 :: u145 :: u146 :: u147 :: u148 :: u149 :: u150 :: u151 :: u152 :: u153 :: u154 :: u155 :: u156 :: u157 :: u158 :: u159 :: u160 :: u161 :: u162 :: u163 :: u164 :: u165 :: u166 :: u167 :: u168 :: u169 :: u170 :: u171 :: u172 :: u173 :: u174 :: u175 :: u176 :: u177 :: u178 :: u179 :: u180 :: u181 :: []), []⟩ wc := by
 conv => arg 2; whnf
 have HWA := Aside0.mk (show w.heap.size < wc.heap.size from blk_lt HAB.out)
 have HWC := Aside0.mk HB.out.size
 have HU0 := Aside0.mk (show (wc.alloc (Obj.cells #[.int .i64 0, .int .i64 0, .int .i64 0, .int .i64 0, .int .i64 0, .int .i64 0, .int .i64 0, .int .i64 0, .int .i64 0, .int .i64 0, .int .i64 0, .int .i64 0, .int .i64 0, .int .i64 0, .int .i64 0, .int .i64 0, .int .i64 0, .int .i64 0, .int .i64 0, .int .i64 0, .int .i64 0, .int .i64 0, .int .i64 0, .int .i64 0, .int .i64 0, .int .i64 0, .int .i64 0, .int .i64 0, .int .i64 0, .int .i64 0, .int .i64 0, .int .i64 0, .int .i64 0, .int .i64 0, .int .i64 0, .int .i64 0, .int .i64 0, .int .i64 0, .int .i64 0, .int .i64 0, .int .i64 0, .int .i64 0, .int .i64 0, .int .i64 0, .int .i64 0, .int .i64 0, .int .i64 0, .int .i64 0, .int .i64 0, .int .i64 0, .int .i64 0, .int .i64 0, .int .i64 0, .int .i64 0, .int .i64 0, .int .i64 0, .int .i64 0, .int .i64 0, .int .i64 0, .int .i64 0, .int .i64 0, .int .i64 0, .int .i64 0, .int .i64 0] 80)).heap[wc.heap.size]? = some (.cells (nums .i64 (List.replicate ns.length 0 ++ List.replicate (64 - ns.length) 0)).toArray 80 (0, 0)) by rw [List.replicate_append_replicate, show ns.length + (64 - ns.length) = 64 by have := HLEN.out; omega]; exact blk_new wc _)
 have HAB0 := Aside0.mk (blk_alloc HAB.out (Obj.cells #[.int .i64 0, .int .i64 0, .int .i64 0, .int .i64 0, .int .i64 0, .int .i64 0, .int .i64 0, .int .i64 0, .int .i64 0, .int .i64 0, .int .i64 0, .int .i64 0, .int .i64 0, .int .i64 0, .int .i64 0, .int .i64 0, .int .i64 0, .int .i64 0, .int .i64 0, .int .i64 0, .int .i64 0, .int .i64 0, .int .i64 0, .int .i64 0, .int .i64 0, .int .i64 0, .int .i64 0, .int .i64 0, .int .i64 0, .int .i64 0, .int .i64 0, .int .i64 0, .int .i64 0, .int .i64 0, .int .i64 0, .int .i64 0, .int .i64 0, .int .i64 0, .int .i64 0, .int .i64 0, .int .i64 0, .int .i64 0, .int .i64 0, .int .i64 0, .int .i64 0, .int .i64 0, .int .i64 0, .int .i64 0, .int .i64 0, .int .i64 0, .int .i64 0, .int .i64 0, .int .i64 0, .int .i64 0, .int .i64 0, .int .i64 0, .int .i64 0, .int .i64 0, .int .i64 0, .int .i64 0, .int .i64 0, .int .i64 0, .int .i64 0, .int .i64 0] 80))
 have HB0 := Aside0.mk (below_alloc HB.out (Obj.cells #[.int .i64 0, .int .i64 0, .int .i64 0, .int .i64 0, .int .i64 0, .int .i64 0, .int .i64 0, .int .i64 0, .int .i64 0, .int .i64 0, .int .i64 0, .int .i64 0, .int .i64 0, .int .i64 0, .int .i64 0, .int .i64 0, .int .i64 0, .int .i64 0, .int .i64 0, .int .i64 0, .int .i64 0, .int .i64 0, .int .i64 0, .int .i64 0, .int .i64 0, .int .i64 0, .int .i64 0, .int .i64 0, .int .i64 0, .int .i64 0, .int .i64 0, .int .i64 0, .int .i64 0, .int .i64 0, .int .i64 0, .int .i64 0, .int .i64 0, .int .i64 0, .int .i64 0, .int .i64 0, .int .i64 0, .int .i64 0, .int .i64 0, .int .i64 0, .int .i64 0, .int .i64 0, .int .i64 0, .int .i64 0, .int .i64 0, .int .i64 0, .int .i64 0, .int .i64 0, .int .i64 0, .int .i64 0, .int .i64 0, .int .i64 0, .int .i64 0, .int .i64 0, .int .i64 0, .int .i64 0, .int .i64 0, .int .i64 0, .int .i64 0, .int .i64 0] 80))
 clear HAB HB
 go_wp2_with fail
 go_loopg [5] ns.length (fun kq v5 wr => ∃ (i : Nat) (u : List Int), v5 = .int .i64 (i : Int) ∧ Aside0 (kq + i = ns.length) ∧ Aside0 (u.length = ns.length) ∧ Aside0 ((match formL i (ns.drop i) u with | none => false | some u => onesB u) = r) ∧ Aside0 (wr.heap[w.heap.size]? = some (.cells #[.slice A ns.length c, .int .i64 k, .string ky, .int .i64 wd, .int .i64 sk, .int .i64 mo] 24 (0, 0))) ∧ Aside0 (wr.heap[wc.heap.size]? = some (.cells (nums .i64 (u ++ List.replicate (64 - ns.length) 0)).toArray 80 (0, 0))) ∧ Aside0 (Below w.heap.size w wr))
 case atStart => exact ⟨0, List.replicate ns.length 0, rfl, ⟨rfl⟩, ⟨by simp⟩, ⟨HR.out⟩, HAB0, HU0, HB0⟩
 case round =>
  clear HAB0 HU0 HB0
  obtain ⟨i, u, rfl, HI, HUL, HS, HAB, HU, HB⟩ := hrel
  have a0 : wr.cell? ⟨w.heap.size, 0, none⟩ = some (.slice A ns.length c) := (blk_cell HAB.out 0).trans rfl
  by_cases hi : i < ns.length
  ·have d3 : decide ((i : Int) < (ns.length : Int)) = true := decide_eq_true (by omega)
   have d4 : decide (i < ns.length) = true := decide_eq_true hi
   have dp : 0 ≤ (i : Int) := by omega
   obtain ⟨ad, A4, c4, hAe, k0, k1, k2, k3, k4, k5, k6, k7, l4, g4⟩ := at_T37 (Kd.C_below HC.out HB.out) (i : Int) (by omega) (by omega)
   subst hAe
   obtain ⟨n, hn⟩ : ∃ n, ns[i]? = some n := ⟨_, List.getElem?_eq_getElem hi⟩
   have hrd : rd_T37 ns (i : Int) = n := by simp [rd_T37, List.getD_eq_getElem?_getD, hn]
   rw [hrd, Int.toNat_natCast] at k0 k1 k2 k3 k4 k5 k6 k7
   rw [hrd] at l4 g4
   have HN := Aside0.mk hn
   have HDR := Aside0.mk (show ns.drop i = n :: ns.drop (i + 1) by rw [List.drop_eq_getElem_cons hi]; rw [List.getElem?_eq_getElem hi] at hn; rw [Option.some.inj hn])
   have HI2 := Aside0.mk hi
   have hip : i < ns.length := hi
   have HNB := Aside0.mk (blk_new wr (Obj.cells #[.int .i64 n.f0, .int .i64 n.f1, .int .i64 n.f2, .string n.f3, .slice A4 n.f4.length c4, .string n.f5, .int .i64 n.f6, .int .i64 n.f7] 37))
   have HBn := Aside0.mk (below_alloc HB.out (Obj.cells #[.int .i64 n.f0, .int .i64 n.f1, .int .i64 n.f2, .string n.f3, .slice A4 n.f4.length c4, .string n.f5, .int .i64 n.f6, .int .i64 n.f7] 37))
   have HABn := Aside0.mk (blk_alloc HAB.out (Obj.cells #[.int .i64 n.f0, .int .i64 n.f1, .int .i64 n.f2, .string n.f3, .slice A4 n.f4.length c4, .string n.f5, .int .i64 n.f6, .int .i64 n.f7] 37))
   have HUn := Aside0.mk (blk_alloc HU.out (Obj.cells #[.int .i64 n.f0, .int .i64 n.f1, .int .i64 n.f2, .string n.f3, .slice A4 n.f4.length c4, .string n.f5, .int .i64 n.f6, .int .i64 n.f7] 37))
   have HRG := Aside0.mk (rright_calls n (wr.alloc (Obj.cells #[.int .i64 n.f0, .int .i64 n.f1, .int .i64 n.f2, .string n.f3, .slice A4 n.f4.length c4, .string n.f5, .int .i64 n.f6, .int .i64 n.f7] 37)) A4 c4 (Kd.C_below g4 (below_alloc (Below.refl _ _) _)) l4 (H4.out n (List.mem_of_getElem? hn)) (H5.out n (List.mem_of_getElem? hn)))
   obtain ⟨rb, hrb⟩ : ∃ rb, rightN n = rb := ⟨_, rfl⟩
   rw [hrb] at HRG
   have HRB := Aside0.mk hrb
   clear hrb hrd hn l4 g4 hi
   go_wp2_with fail
   refine HRG.out.mono ?_
   rintro e w2 ⟨rfl, hb⟩
   have HB2 := Aside0.mk (below_step HBn.out hb)
   have HNB2 := Aside0.mk (blk_below HNB.out hb)
   have HAB2 := Aside0.mk (blk_below HABn.out hb)
   have HU2 := Aside0.mk (blk_below HUn.out hb)
   have HWL := Aside0.mk (blk_lt HU.out)
   clear HAB HU HB HBn HABn HUn HNB hb HRG
   cases rb
   ·go_wp2_with fail
    go_ret
    exact ⟨by rw [← HS.out, HDR.out, formL, if_neg (fun h => by rw [HRB.out] at h; exact absurd h.1 (by decide))]; rfl, HB2.out⟩
   ·skip
    by_cases k10 : n.f0 = 10
    ·have HK := Aside0.mk k10
     clear k10
     have m0 : w2.cell? ⟨wr.heap.size, 0, none⟩ = some (.int .i64 10) := by rw [← HK.out]; exact (blk_cell HNB2.out 0).trans rfl
     have HPS := Aside0.mk (show partsN n = [n.f1, n.f2] by unfold partsN; rw [if_pos (by have := HK.out; omega)])
     by_cases hf10 : n.f1 < 0
     ·have m1 : w2.cell? ⟨wr.heap.size, 1, none⟩ = some (.int .i64 n.f1) := (blk_cell HNB2.out 1).trans rfl
      have d_f10 : decide (n.f1 < 0) = true := decide_eq_true hf10
      have HQ := Aside0.mk hf10
      clear hf10
      go_wp2_with fail
      go_ret
      exact ⟨by rw [← HS.out, HDR.out, formL_stop _ _ _ _ (p := n.f1) (by rw [HPS.out]; simp) (by have := HQ.out; unfold inN; exact decide_eq_false (by omega))]; rfl, HB2.out⟩
     ·by_cases hf11 : (i : Int) ≤ n.f1
      ·have m1 : w2.cell? ⟨wr.heap.size, 1, none⟩ = some (.int .i64 n.f1) := (blk_cell HNB2.out 1).trans rfl
       have d_f10 : decide (n.f1 < 0) = false := decide_eq_false hf10
       have d_f11 : decide ((i : Int) ≤ n.f1) = true := decide_eq_true hf11
       have HQ := Aside0.mk hf11
       clear hf10 hf11
       go_wp2_with fail
       go_ret
       exact ⟨by rw [← HS.out, HDR.out, formL_stop _ _ _ _ (p := n.f1) (by rw [HPS.out]; simp) (by have := HQ.out; unfold inN; exact decide_eq_false (by omega))]; rfl, HB2.out⟩
      ·obtain ⟨pf1, hpf1⟩ : ∃ q : Nat, n.f1 = (q : Int) := ⟨n.f1.toNat, by omega⟩
       have m1 : w2.cell? ⟨wr.heap.size, 1, none⟩ = some (.int .i64 (pf1 : Int)) := by rw [← hpf1]; exact (blk_cell HNB2.out 1).trans rfl
       have HPf1 := Aside0.mk hpf1
       have HInf1 := Aside0.mk (show inN i n.f1 = true by unfold inN; exact decide_eq_true (by omega))
       have ef10 : decide ((pf1 : Int) < 0) = false := decide_eq_false (by omega)
       have ef11 : decide ((i : Int) ≤ (pf1 : Int)) = false := decide_eq_false (by omega)
       have ef15 : decide (i ≤ pf1) = false := decide_eq_false (by omega)
       have hi_ := HI2.out
       have hl_ := HLEN.out
       have hu_ := HUL.out
       have hp64f1 : pf1 < 64 := by omega
       have hpu_ : pf1 < u.length := by omega
       have ef12 : decide ((pf1 : Int) < 64) = true := decide_eq_true (by omega)
       have ef13 : decide (pf1 < 64) = true := decide_eq_true hp64f1
       have ef14 : 0 ≤ (pf1 : Int) := by omega
       obtain ⟨zf1, hz_⟩ : ∃ z, u.getD pf1 0 = z := ⟨_, rfl⟩
       have HZf1 := Aside0.mk hz_
       have kuf1 : w2.cell? ⟨wc.heap.size, pf1, none⟩ = some (.int .i64 zf1) := nums_cell HU2.out (by rw [← hz_, List.getElem?_append_left hpu_, List.getD_eq_getElem?_getD, List.getElem?_eq_getElem hpu_]; rfl)
       have kzf1 := blk_frozen HU2.out pf1
       have hput_ := nums_put HU2.out pf1 (wrap64 (zf1 + 1))
       rw [List.set_append_left _ _ hpu_] at hput_
       have HS1 := Aside0.mk hput_
       have HNS1 := Aside0.mk (blk_far (p := ⟨wc.heap.size, pf1, none⟩) HNB2.out (by show wr.heap.size ≠ wc.heap.size; have := HWL.out; omega) (.int .i64 (wrap64 (zf1 + 1))))
       have HAS1 := Aside0.mk (blk_far (p := ⟨wc.heap.size, pf1, none⟩) HAB2.out (by show w.heap.size ≠ wc.heap.size; have := HWA.out; omega) (.int .i64 (wrap64 (zf1 + 1))))
       have HBS1 := Aside0.mk (Below.setCell (p := ⟨wc.heap.size, pf1, none⟩) HB2.out HWC.out (.int .i64 (wrap64 (zf1 + 1))))
       clear hf10 hf11 hpf1 hi_ hl_ hu_ hpu_ hput_ hz_
       have n0_ : (w2.setCell ⟨wc.heap.size, pf1, none⟩ (.int .i64 (wrap64 (zf1 + 1)))).cell? ⟨wr.heap.size, 0, none⟩ = some (.int .i64 10) := by rw [← HK.out]; exact (blk_cell HNS1.out 0).trans rfl
       by_cases hf20 : n.f2 < 0
       ·have m2 : (w2.setCell ⟨wc.heap.size, pf1, none⟩ (.int .i64 (wrap64 (zf1 + 1)))).cell? ⟨wr.heap.size, 2, none⟩ = some (.int .i64 n.f2) := (blk_cell HNS1.out 2).trans rfl
        have d_f20 : decide (n.f2 < 0) = true := decide_eq_true hf20
        have HQ := Aside0.mk hf20
        clear hf20
        go_wp2_with fail
        go_ret
        exact ⟨by rw [← HS.out, HDR.out, formL_stop _ _ _ _ (p := n.f2) (by rw [HPS.out]; simp) (by have := HQ.out; unfold inN; exact decide_eq_false (by omega))]; rfl, HBS1.out⟩
       ·by_cases hf21 : (i : Int) ≤ n.f2
        ·have m2 : (w2.setCell ⟨wc.heap.size, pf1, none⟩ (.int .i64 (wrap64 (zf1 + 1)))).cell? ⟨wr.heap.size, 2, none⟩ = some (.int .i64 n.f2) := (blk_cell HNS1.out 2).trans rfl
         have d_f20 : decide (n.f2 < 0) = false := decide_eq_false hf20
         have d_f21 : decide ((i : Int) ≤ n.f2) = true := decide_eq_true hf21
         have HQ := Aside0.mk hf21
         clear hf20 hf21
         go_wp2_with fail
         go_ret
         exact ⟨by rw [← HS.out, HDR.out, formL_stop _ _ _ _ (p := n.f2) (by rw [HPS.out]; simp) (by have := HQ.out; unfold inN; exact decide_eq_false (by omega))]; rfl, HBS1.out⟩
        ·obtain ⟨pf2, hpf2⟩ : ∃ q : Nat, n.f2 = (q : Int) := ⟨n.f2.toNat, by omega⟩
         have m2 : (w2.setCell ⟨wc.heap.size, pf1, none⟩ (.int .i64 (wrap64 (zf1 + 1)))).cell? ⟨wr.heap.size, 2, none⟩ = some (.int .i64 (pf2 : Int)) := by rw [← hpf2]; exact (blk_cell HNS1.out 2).trans rfl
         have HPf2 := Aside0.mk hpf2
         have HInf2 := Aside0.mk (show inN i n.f2 = true by unfold inN; exact decide_eq_true (by omega))
         have ef20 : decide ((pf2 : Int) < 0) = false := decide_eq_false (by omega)
         have ef21 : decide ((i : Int) ≤ (pf2 : Int)) = false := decide_eq_false (by omega)
         have ef25 : decide (i ≤ pf2) = false := decide_eq_false (by omega)
         have hi_ := HI2.out
         have hl_ := HLEN.out
         have hu_ := HUL.out
         have hp64f2 : pf2 < 64 := by omega
         have hpu_ : pf2 < (u.set pf1 (wrap64 (zf1 + 1))).length := by rw [List.length_set]; omega
         have ef22 : decide ((pf2 : Int) < 64) = true := decide_eq_true (by omega)
         have ef23 : decide (pf2 < 64) = true := decide_eq_true hp64f2
         have ef24 : 0 ≤ (pf2 : Int) := by omega
         obtain ⟨zf2, hz_⟩ : ∃ z, (u.set pf1 (wrap64 (zf1 + 1))).getD pf2 0 = z := ⟨_, rfl⟩
         have HZf2 := Aside0.mk hz_
         have kuf2 : (w2.setCell ⟨wc.heap.size, pf1, none⟩ (.int .i64 (wrap64 (zf1 + 1)))).cell? ⟨wc.heap.size, pf2, none⟩ = some (.int .i64 zf2) := nums_cell HS1.out (by rw [← hz_, List.getElem?_append_left hpu_, List.getD_eq_getElem?_getD, List.getElem?_eq_getElem hpu_]; rfl)
         have kzf2 := blk_frozen HS1.out pf2
         have hput_ := nums_put HS1.out pf2 (wrap64 (zf2 + 1))
         rw [List.set_append_left _ _ hpu_] at hput_
         have HS2 := Aside0.mk hput_
         have HNS2 := Aside0.mk (blk_far (p := ⟨wc.heap.size, pf2, none⟩) HNS1.out (by show wr.heap.size ≠ wc.heap.size; have := HWL.out; omega) (.int .i64 (wrap64 (zf2 + 1))))
         have HAS2 := Aside0.mk (blk_far (p := ⟨wc.heap.size, pf2, none⟩) HAS1.out (by show w.heap.size ≠ wc.heap.size; have := HWA.out; omega) (.int .i64 (wrap64 (zf2 + 1))))
         have HBS2 := Aside0.mk (Below.setCell (p := ⟨wc.heap.size, pf2, none⟩) HBS1.out HWC.out (.int .i64 (wrap64 (zf2 + 1))))
         clear hf20 hf21 hpf2 hi_ hl_ hu_ hpu_ hput_ hz_
         go_wp2_with fail
         try rw [show wrap64 ((i : Int) + 1) = ((i + 1 : Nat) : Int) by have := HI2.out; have := HLEN.out; unfold wrap64; omega]
         go_roundg (ns.length - i - 1)
         case measure => have := HI.out; have := HI2.out; omega
         case rel => exact ⟨i + 1, ((u.set pf1 (wrap64 (zf1 + 1))).set pf2 (wrap64 (zf2 + 1))), rfl, ⟨by have := HI.out; have := HI2.out; omega⟩, ⟨by simp [HUL.out]⟩, ⟨by rw [show ((u.set pf1 (wrap64 (zf1 + 1))).set pf2 (wrap64 (zf2 + 1))) = bump u (partsN n) by rw [HPS.out]; rw [HPf1.out, HPf2.out, ← HZf2.out, ← HZf1.out]; rfl, ← HS.out, HDR.out, formL_step2 _ _ _ _ HRB.out (by rw [HPS.out]; simp only [List.all_cons, List.all_nil, HInf1.out, HInf2.out, Bool.and_true])]⟩, HAS2, HS2, HBS2⟩
    by_cases k11 : n.f0 = 11
    ·have HK := Aside0.mk k11
     clear k11 k10
     have m0 : w2.cell? ⟨wr.heap.size, 0, none⟩ = some (.int .i64 11) := by rw [← HK.out]; exact (blk_cell HNB2.out 0).trans rfl
     have HPS := Aside0.mk (show partsN n = [n.f1, n.f2] by unfold partsN; rw [if_pos (by have := HK.out; omega)])
     by_cases hf10 : n.f1 < 0
     ·have m1 : w2.cell? ⟨wr.heap.size, 1, none⟩ = some (.int .i64 n.f1) := (blk_cell HNB2.out 1).trans rfl
      have d_f10 : decide (n.f1 < 0) = true := decide_eq_true hf10
      have HQ := Aside0.mk hf10
      clear hf10
      go_wp2_with fail
      go_ret
      exact ⟨by rw [← HS.out, HDR.out, formL_stop _ _ _ _ (p := n.f1) (by rw [HPS.out]; simp) (by have := HQ.out; unfold inN; exact decide_eq_false (by omega))]; rfl, HB2.out⟩
     ·by_cases hf11 : (i : Int) ≤ n.f1
      ·have m1 : w2.cell? ⟨wr.heap.size, 1, none⟩ = some (.int .i64 n.f1) := (blk_cell HNB2.out 1).trans rfl
       have d_f10 : decide (n.f1 < 0) = false := decide_eq_false hf10
       have d_f11 : decide ((i : Int) ≤ n.f1) = true := decide_eq_true hf11
       have HQ := Aside0.mk hf11
       clear hf10 hf11
       go_wp2_with fail
       go_ret
       exact ⟨by rw [← HS.out, HDR.out, formL_stop _ _ _ _ (p := n.f1) (by rw [HPS.out]; simp) (by have := HQ.out; unfold inN; exact decide_eq_false (by omega))]; rfl, HB2.out⟩
      ·obtain ⟨pf1, hpf1⟩ : ∃ q : Nat, n.f1 = (q : Int) := ⟨n.f1.toNat, by omega⟩
       have m1 : w2.cell? ⟨wr.heap.size, 1, none⟩ = some (.int .i64 (pf1 : Int)) := by rw [← hpf1]; exact (blk_cell HNB2.out 1).trans rfl
       have HPf1 := Aside0.mk hpf1
       have HInf1 := Aside0.mk (show inN i n.f1 = true by unfold inN; exact decide_eq_true (by omega))
       have ef10 : decide ((pf1 : Int) < 0) = false := decide_eq_false (by omega)
       have ef11 : decide ((i : Int) ≤ (pf1 : Int)) = false := decide_eq_false (by omega)
       have ef15 : decide (i ≤ pf1) = false := decide_eq_false (by omega)
       have hi_ := HI2.out
       have hl_ := HLEN.out
       have hu_ := HUL.out
       have hp64f1 : pf1 < 64 := by omega
       have hpu_ : pf1 < u.length := by omega
       have ef12 : decide ((pf1 : Int) < 64) = true := decide_eq_true (by omega)
       have ef13 : decide (pf1 < 64) = true := decide_eq_true hp64f1
       have ef14 : 0 ≤ (pf1 : Int) := by omega
       obtain ⟨zf1, hz_⟩ : ∃ z, u.getD pf1 0 = z := ⟨_, rfl⟩
       have HZf1 := Aside0.mk hz_
       have kuf1 : w2.cell? ⟨wc.heap.size, pf1, none⟩ = some (.int .i64 zf1) := nums_cell HU2.out (by rw [← hz_, List.getElem?_append_left hpu_, List.getD_eq_getElem?_getD, List.getElem?_eq_getElem hpu_]; rfl)
       have kzf1 := blk_frozen HU2.out pf1
       have hput_ := nums_put HU2.out pf1 (wrap64 (zf1 + 1))
       rw [List.set_append_left _ _ hpu_] at hput_
       have HS1 := Aside0.mk hput_
       have HNS1 := Aside0.mk (blk_far (p := ⟨wc.heap.size, pf1, none⟩) HNB2.out (by show wr.heap.size ≠ wc.heap.size; have := HWL.out; omega) (.int .i64 (wrap64 (zf1 + 1))))
       have HAS1 := Aside0.mk (blk_far (p := ⟨wc.heap.size, pf1, none⟩) HAB2.out (by show w.heap.size ≠ wc.heap.size; have := HWA.out; omega) (.int .i64 (wrap64 (zf1 + 1))))
       have HBS1 := Aside0.mk (Below.setCell (p := ⟨wc.heap.size, pf1, none⟩) HB2.out HWC.out (.int .i64 (wrap64 (zf1 + 1))))
       clear hf10 hf11 hpf1 hi_ hl_ hu_ hpu_ hput_ hz_
       have n0_ : (w2.setCell ⟨wc.heap.size, pf1, none⟩ (.int .i64 (wrap64 (zf1 + 1)))).cell? ⟨wr.heap.size, 0, none⟩ = some (.int .i64 11) := by rw [← HK.out]; exact (blk_cell HNS1.out 0).trans rfl
       by_cases hf20 : n.f2 < 0
       ·have m2 : (w2.setCell ⟨wc.heap.size, pf1, none⟩ (.int .i64 (wrap64 (zf1 + 1)))).cell? ⟨wr.heap.size, 2, none⟩ = some (.int .i64 n.f2) := (blk_cell HNS1.out 2).trans rfl
        have d_f20 : decide (n.f2 < 0) = true := decide_eq_true hf20
        have HQ := Aside0.mk hf20
        clear hf20
        go_wp2_with fail
        go_ret
        exact ⟨by rw [← HS.out, HDR.out, formL_stop _ _ _ _ (p := n.f2) (by rw [HPS.out]; simp) (by have := HQ.out; unfold inN; exact decide_eq_false (by omega))]; rfl, HBS1.out⟩
       ·by_cases hf21 : (i : Int) ≤ n.f2
        ·have m2 : (w2.setCell ⟨wc.heap.size, pf1, none⟩ (.int .i64 (wrap64 (zf1 + 1)))).cell? ⟨wr.heap.size, 2, none⟩ = some (.int .i64 n.f2) := (blk_cell HNS1.out 2).trans rfl
         have d_f20 : decide (n.f2 < 0) = false := decide_eq_false hf20
         have d_f21 : decide ((i : Int) ≤ n.f2) = true := decide_eq_true hf21
         have HQ := Aside0.mk hf21
         clear hf20 hf21
         go_wp2_with fail
         go_ret
         exact ⟨by rw [← HS.out, HDR.out, formL_stop _ _ _ _ (p := n.f2) (by rw [HPS.out]; simp) (by have := HQ.out; unfold inN; exact decide_eq_false (by omega))]; rfl, HBS1.out⟩
        ·obtain ⟨pf2, hpf2⟩ : ∃ q : Nat, n.f2 = (q : Int) := ⟨n.f2.toNat, by omega⟩
         have m2 : (w2.setCell ⟨wc.heap.size, pf1, none⟩ (.int .i64 (wrap64 (zf1 + 1)))).cell? ⟨wr.heap.size, 2, none⟩ = some (.int .i64 (pf2 : Int)) := by rw [← hpf2]; exact (blk_cell HNS1.out 2).trans rfl
         have HPf2 := Aside0.mk hpf2
         have HInf2 := Aside0.mk (show inN i n.f2 = true by unfold inN; exact decide_eq_true (by omega))
         have ef20 : decide ((pf2 : Int) < 0) = false := decide_eq_false (by omega)
         have ef21 : decide ((i : Int) ≤ (pf2 : Int)) = false := decide_eq_false (by omega)
         have ef25 : decide (i ≤ pf2) = false := decide_eq_false (by omega)
         have hi_ := HI2.out
         have hl_ := HLEN.out
         have hu_ := HUL.out
         have hp64f2 : pf2 < 64 := by omega
         have hpu_ : pf2 < (u.set pf1 (wrap64 (zf1 + 1))).length := by rw [List.length_set]; omega
         have ef22 : decide ((pf2 : Int) < 64) = true := decide_eq_true (by omega)
         have ef23 : decide (pf2 < 64) = true := decide_eq_true hp64f2
         have ef24 : 0 ≤ (pf2 : Int) := by omega
         obtain ⟨zf2, hz_⟩ : ∃ z, (u.set pf1 (wrap64 (zf1 + 1))).getD pf2 0 = z := ⟨_, rfl⟩
         have HZf2 := Aside0.mk hz_
         have kuf2 : (w2.setCell ⟨wc.heap.size, pf1, none⟩ (.int .i64 (wrap64 (zf1 + 1)))).cell? ⟨wc.heap.size, pf2, none⟩ = some (.int .i64 zf2) := nums_cell HS1.out (by rw [← hz_, List.getElem?_append_left hpu_, List.getD_eq_getElem?_getD, List.getElem?_eq_getElem hpu_]; rfl)
         have kzf2 := blk_frozen HS1.out pf2
         have hput_ := nums_put HS1.out pf2 (wrap64 (zf2 + 1))
         rw [List.set_append_left _ _ hpu_] at hput_
         have HS2 := Aside0.mk hput_
         have HNS2 := Aside0.mk (blk_far (p := ⟨wc.heap.size, pf2, none⟩) HNS1.out (by show wr.heap.size ≠ wc.heap.size; have := HWL.out; omega) (.int .i64 (wrap64 (zf2 + 1))))
         have HAS2 := Aside0.mk (blk_far (p := ⟨wc.heap.size, pf2, none⟩) HAS1.out (by show w.heap.size ≠ wc.heap.size; have := HWA.out; omega) (.int .i64 (wrap64 (zf2 + 1))))
         have HBS2 := Aside0.mk (Below.setCell (p := ⟨wc.heap.size, pf2, none⟩) HBS1.out HWC.out (.int .i64 (wrap64 (zf2 + 1))))
         clear hf20 hf21 hpf2 hi_ hl_ hu_ hpu_ hput_ hz_
         go_wp2_with fail
         try rw [show wrap64 ((i : Int) + 1) = ((i + 1 : Nat) : Int) by have := HI2.out; have := HLEN.out; unfold wrap64; omega]
         go_roundg (ns.length - i - 1)
         case measure => have := HI.out; have := HI2.out; omega
         case rel => exact ⟨i + 1, ((u.set pf1 (wrap64 (zf1 + 1))).set pf2 (wrap64 (zf2 + 1))), rfl, ⟨by have := HI.out; have := HI2.out; omega⟩, ⟨by simp [HUL.out]⟩, ⟨by rw [show ((u.set pf1 (wrap64 (zf1 + 1))).set pf2 (wrap64 (zf2 + 1))) = bump u (partsN n) by rw [HPS.out]; rw [HPf1.out, HPf2.out, ← HZf2.out, ← HZf1.out]; rfl, ← HS.out, HDR.out, formL_step2 _ _ _ _ HRB.out (by rw [HPS.out]; simp only [List.all_cons, List.all_nil, HInf1.out, HInf2.out, Bool.and_true])]⟩, HAS2, HS2, HBS2⟩
    by_cases k12 : n.f0 = 12
    ·have HK := Aside0.mk k12
     clear k12 k10 k11
     have m0 : w2.cell? ⟨wr.heap.size, 0, none⟩ = some (.int .i64 12) := by rw [← HK.out]; exact (blk_cell HNB2.out 0).trans rfl
     have HPS := Aside0.mk (show partsN n = [n.f1] by unfold partsN; rw [if_neg (by have := HK.out; omega), if_pos HK.out])
     by_cases hf10 : n.f1 < 0
     ·have m1 : w2.cell? ⟨wr.heap.size, 1, none⟩ = some (.int .i64 n.f1) := (blk_cell HNB2.out 1).trans rfl
      have d_f10 : decide (n.f1 < 0) = true := decide_eq_true hf10
      have HQ := Aside0.mk hf10
      clear hf10
      go_wp2_with fail
      go_ret
      exact ⟨by rw [← HS.out, HDR.out, formL_stop _ _ _ _ (p := n.f1) (by rw [HPS.out]; simp) (by have := HQ.out; unfold inN; exact decide_eq_false (by omega))]; rfl, HB2.out⟩
     ·by_cases hf11 : (i : Int) ≤ n.f1
      ·have m1 : w2.cell? ⟨wr.heap.size, 1, none⟩ = some (.int .i64 n.f1) := (blk_cell HNB2.out 1).trans rfl
       have d_f10 : decide (n.f1 < 0) = false := decide_eq_false hf10
       have d_f11 : decide ((i : Int) ≤ n.f1) = true := decide_eq_true hf11
       have HQ := Aside0.mk hf11
       clear hf10 hf11
       go_wp2_with fail
       go_ret
       exact ⟨by rw [← HS.out, HDR.out, formL_stop _ _ _ _ (p := n.f1) (by rw [HPS.out]; simp) (by have := HQ.out; unfold inN; exact decide_eq_false (by omega))]; rfl, HB2.out⟩
      ·obtain ⟨pf1, hpf1⟩ : ∃ q : Nat, n.f1 = (q : Int) := ⟨n.f1.toNat, by omega⟩
       have m1 : w2.cell? ⟨wr.heap.size, 1, none⟩ = some (.int .i64 (pf1 : Int)) := by rw [← hpf1]; exact (blk_cell HNB2.out 1).trans rfl
       have HPf1 := Aside0.mk hpf1
       have HInf1 := Aside0.mk (show inN i n.f1 = true by unfold inN; exact decide_eq_true (by omega))
       have ef10 : decide ((pf1 : Int) < 0) = false := decide_eq_false (by omega)
       have ef11 : decide ((i : Int) ≤ (pf1 : Int)) = false := decide_eq_false (by omega)
       have ef15 : decide (i ≤ pf1) = false := decide_eq_false (by omega)
       have hi_ := HI2.out
       have hl_ := HLEN.out
       have hu_ := HUL.out
       have hp64f1 : pf1 < 64 := by omega
       have hpu_ : pf1 < u.length := by omega
       have ef12 : decide ((pf1 : Int) < 64) = true := decide_eq_true (by omega)
       have ef13 : decide (pf1 < 64) = true := decide_eq_true hp64f1
       have ef14 : 0 ≤ (pf1 : Int) := by omega
       obtain ⟨zf1, hz_⟩ : ∃ z, u.getD pf1 0 = z := ⟨_, rfl⟩
       have HZf1 := Aside0.mk hz_
       have kuf1 : w2.cell? ⟨wc.heap.size, pf1, none⟩ = some (.int .i64 zf1) := nums_cell HU2.out (by rw [← hz_, List.getElem?_append_left hpu_, List.getD_eq_getElem?_getD, List.getElem?_eq_getElem hpu_]; rfl)
       have kzf1 := blk_frozen HU2.out pf1
       have hput_ := nums_put HU2.out pf1 (wrap64 (zf1 + 1))
       rw [List.set_append_left _ _ hpu_] at hput_
       have HS1 := Aside0.mk hput_
       have HNS1 := Aside0.mk (blk_far (p := ⟨wc.heap.size, pf1, none⟩) HNB2.out (by show wr.heap.size ≠ wc.heap.size; have := HWL.out; omega) (.int .i64 (wrap64 (zf1 + 1))))
       have HAS1 := Aside0.mk (blk_far (p := ⟨wc.heap.size, pf1, none⟩) HAB2.out (by show w.heap.size ≠ wc.heap.size; have := HWA.out; omega) (.int .i64 (wrap64 (zf1 + 1))))
       have HBS1 := Aside0.mk (Below.setCell (p := ⟨wc.heap.size, pf1, none⟩) HB2.out HWC.out (.int .i64 (wrap64 (zf1 + 1))))
       clear hf10 hf11 hpf1 hi_ hl_ hu_ hpu_ hput_ hz_
       have n0_ : (w2.setCell ⟨wc.heap.size, pf1, none⟩ (.int .i64 (wrap64 (zf1 + 1)))).cell? ⟨wr.heap.size, 0, none⟩ = some (.int .i64 12) := by rw [← HK.out]; exact (blk_cell HNS1.out 0).trans rfl
       go_wp2_with fail
       try rw [show wrap64 ((i : Int) + 1) = ((i + 1 : Nat) : Int) by have := HI2.out; have := HLEN.out; unfold wrap64; omega]
       go_roundg (ns.length - i - 1)
       case measure => have := HI.out; have := HI2.out; omega
       case rel => exact ⟨i + 1, (u.set pf1 (wrap64 (zf1 + 1))), rfl, ⟨by have := HI.out; have := HI2.out; omega⟩, ⟨by simp [HUL.out]⟩, ⟨by rw [show (u.set pf1 (wrap64 (zf1 + 1))) = bump u (partsN n) by rw [HPS.out]; rw [HPf1.out, ← HZf1.out]; rfl, ← HS.out, HDR.out, formL_step2 _ _ _ _ HRB.out (by rw [HPS.out]; simp only [List.all_cons, List.all_nil, HInf1.out, Bool.and_true])]⟩, HAS1, HS1, HBS1⟩
    have m0 : w2.cell? ⟨wr.heap.size, 0, none⟩ = some (.int .i64 n.f0) := (blk_cell HNB2.out 0).trans rfl
    have HPS := Aside0.mk (show partsN n = [] by unfold partsN; rw [if_neg (by omega), if_neg k12])
    have dk : decide (10 ≤ n.f0) = false := decide_eq_false (by have := right_lt HRB.out k10 k11 k12; omega)
    have dk10 : (n.f0 == 10) = false := beq_eq_false_iff_ne.2 k10
    have dk11 : (n.f0 == 11) = false := beq_eq_false_iff_ne.2 k11
    clear k10 k11 k12
    go_wp2_with fail
    try rw [show wrap64 ((i : Int) + 1) = ((i + 1 : Nat) : Int) by have := HI2.out; have := HLEN.out; unfold wrap64; omega]
    go_roundg (ns.length - i - 1)
    case measure => have := HI.out; have := HI2.out; omega
    case rel => exact ⟨i + 1, u, rfl, ⟨by have := HI.out; have := HI2.out; omega⟩, ⟨by exact HUL.out⟩, ⟨by rw [show u = bump u (partsN n) by rw [HPS.out]; rfl, ← HS.out, HDR.out, formL_step2 _ _ _ _ HRB.out (by rw [HPS.out]; rfl)]⟩, HAB2, HU2, HB2⟩
  ·have hie : i = ns.length := by have := HI.out; omega
   have d3 : decide ((i : Int) < (ns.length : Int)) = false := decide_eq_false (by omega)
   have d4 : decide (i < ns.length) = false := decide_eq_false (by omega)
   have HSu := Aside0.mk (show onesB u = r by have h_ := HS.out; rw [hie, List.drop_length] at h_; exact h_)
   clear hie hi HS
   go_wp2_with fail
   go_loopg [7] ns.length (fun kq v7 wq => ∃ (j : Nat), v7 = .int .i64 (j : Int) ∧ Aside0 (kq + j = ns.length) ∧ wq = wr ∧ Aside0 (∀ q, q < j → u.getD q 0 = 1))
   case atStart => exact ⟨0, rfl, ⟨rfl⟩, rfl, ⟨fun q hq => by omega⟩⟩
   case round =>
    obtain ⟨j, rfl, HJ, rfl, HON⟩ := hrel
    have hlen_ := HLEN.out
    by_cases hj : j < ns.length - 1
    ·have d5 : decide ((j : Int) < wrap64 ((ns.length : Int) - 1)) = true := decide_eq_true (by unfold wrap64; omega)
     have hul_ := HUL.out
     have hju_ : j < u.length := by omega
     obtain ⟨z, hz⟩ : ∃ z, u.getD j 0 = z := ⟨_, rfl⟩
     have kj : wr.cell? ⟨wc.heap.size, j, none⟩ = some (.int .i64 z) := nums_cell HU.out (by rw [← hz, List.getElem?_append_left hju_, List.getD_eq_getElem?_getD, List.getElem?_eq_getElem hju_]; rfl)
     have hj64 : j < 64 := by omega
     have f2 : decide ((j : Int) < 64) = true := decide_eq_true (by omega)
     have f3 : decide (j < 64) = true := decide_eq_true hj64
     have f4 : 0 ≤ (j : Int) := by omega
     have HZ := Aside0.mk hz
     have HJ2 := Aside0.mk hj
     clear hz hj hlen_ hul_
     by_cases hz1 : z = 1
     ·have g1 : (z == 1) = true := beq_iff_eq.2 hz1
      have g2 : (z != 1) = false := by rw [bne, g1]; rfl
      have HZ1 := Aside0.mk hz1
      clear hz1 hju_
      go_wp2_with fail
      try rw [show wrap64 ((j : Int) + 1) = ((j + 1 : Nat) : Int) by have := HJ2.out; have := HLEN.out; unfold wrap64; omega]
      go_roundg (ns.length - j - 1)
      case measure => have := HJ.out; have := HJ2.out; omega
      case rel =>
       refine ⟨j + 1, rfl, ⟨by have := HJ.out; have := HJ2.out; omega⟩, rfl, ⟨fun q hq => ?_⟩⟩
       rcases Nat.lt_or_ge q j with h_ | h_
       ·exact HON.out q h_
       ·obtain rfl : q = j := by omega
        rw [HZ.out, HZ1.out]
     ·have g1 : (z == 1) = false := beq_eq_false_iff_ne.2 hz1
      have g2 : (z != 1) = true := by rw [bne, g1]; rfl
      have HZ1 := Aside0.mk hz1
      clear hz1
      go_wp2_with fail
      go_ret
      refine ⟨?_, HB.out⟩
      rw [← HSu.out, ones_no (by have := HJ2.out; have := HUL.out; omega) HZ.out HZ1.out]; rfl
    ·have d5 : decide ((j : Int) < wrap64 ((ns.length : Int) - 1)) = false := decide_eq_false (by unfold wrap64; omega)
     have HJE := Aside0.mk (show ns.length - 1 ≤ j by omega)
     clear hlen_
     go_wp2_with fail
     go_ret
     refine ⟨?_, HB.out⟩
     rw [← HSu.out, ones_yes (fun q hq => HON.out q (by have := HJE.out; have := HUL.out; omega))]; rfl
noncomputable def fstSeq : Code → Code
 | .seq a _ => a
 | c => c
noncomputable def rf14A : Code := fstSeq rf14C
noncomputable def rf16A : Code := fstSeq rf16C
theorem rf14_eq : rf14C = Code.seq rf14A rf16C := by kernel_rfl
theorem rf16_eq : rf16C = Code.seq rf16A rf18C := by kernel_rfl
theorem rf16 (A : Option Addr) (c : Nat) (ns : List ND) (k : Int) (ky : ByteArray) (wd sk mo : Int) (w : World) (r : Bool) (q1 : ByteArray) (q2 q3 q4 : Int) (wc : World) (HR : Aside0 (formedB ns k ky wd sk mo = r)) (HXQ : Aside0 (xOf k ky wd sk mo (q1, q2, q3, q4))) (HBAD : Aside0 (false = !pass14 ns.length k ky wd sk mo q1 q2 q3 q4)) (HC : Aside0 (Kd.C k37 w A ns.length ns)) (hc : ns.length ≤ c) (H4 : Aside0 (∀ n ∈ ns, n.f4.length ≤ 1099511627776)) (H5 : Aside0 (∀ n ∈ ns, n.f5.size ≤ 9223372036854775807)) (HKY : Aside0 (ky.size ≤ 9223372036854775807)) (HAB : Aside0 (wc.heap[w.heap.size]? = some (.cells #[.slice A ns.length c, .int .i64 k, .string ky, .int .i64 wd, .int .i64 sk, .int .i64 mo] 24 (0, 0)))) (HB : Aside0 (Below w.heap.size w wc)) (u0 u2 u3 u4 u5 u6 u7 u8 u9 u10 u11 u12 u13 u14 u15 u16 u17 u18 u19 u20 u21 u22 u23 u24 u25 u26 u27 u28 u29 u30 u31 u32 u33 u34 u35 u36 u37 u38 u39 u40 u41 u42 u43 u44 u45 u46 u47 u48 u49 u50 u51 u52 u53 u54 u55 u56 u57 u58 u59 u60 u61 u62 u63 u64 u65 u66 u67 u68 u69 u70 u71 u72 u73 u74 u75 u76 u77 u78 u79 u80 u81 u82 u83 u84 u85 u86 u87 u88 u89 u90 u91 u92 u93 u94 u95 u96 u97 u98 u99 u100 u101 u102 u103 u104 u105 u106 u107 u108 u109 u110 u111 u112 u113 u114 u115 u116 u117 u118 u119 u120 u121 u122 u123 u124 u125 u126 u127 u128 u129 u130 u131 u132 u133 u134 u135 u136 u137 u138 u139 u140 u141 u142 u143 u144 u145 u146 u147 u148 u149 u150 u151 u152 u153 u154 u155 u156 u157 u158 u159 u160 u161 u162 u163 u164 u165 u166 u167 u168 u169 u170 u171 u172 u173 u174 u175 u176 u177 u178 u179 u180 u181 : Value) :
  Code.wp Tryz.prog rf16C (bodyPost Tryz.prog Tryz.f16 (fun e w' => e = .returned (.bool r) ∧ Below w.heap.size w w')) ⟨List.toArray (u0 :: .pointer (some ⟨w.heap.size, 0, none⟩) :: u2 :: u3 :: u4 :: u5 :: u6 :: u7 :: u8 :: u9 :: u10 :: u11 :: u12 :: u13 :: u14 :: u15 :: u16 :: u17 :: u18 :: u19 :: u20 :: u21 :: u22 :: u23 :: u24 :: u25 :: u26 :: u27 :: u28 :: u29 :: u30 :: u31 :: u32 :: u33 :: u34 :: u35 :: u36 :: u37 :: u38 :: u39 :: u40 :: u41 :: u42 :: u43 :: u44 :: u45 :: u46 :: u47 :: u48 :: u49 :: u50 :: u51 :: u52 :: u53 :: u54 :: u55 :: u56 :: u57 :: u58 :: u59 :: u60 :: u61 :: u62 :: u63 :: u64 :: u65 :: u66 :: u67 :: u68 :: u69 :: u70 :: u71 :: u72 :: u73 :: u74 :: u75 :: u76 :: u77 :: u78 :: u79 :: u80 :: u81 :: u82 :: u83 :: u84 :: u85 :: u86 :: u87 :: u88 :: u89 :: u90 :: u91 :: u92 :: u93 :: u94 :: u95 :: u96 :: u97 :: u98 :: u99 :: u100 :: u101 :: u102 :: u103 :: u104 :: u105 :: u106 :: u107 :: u108 :: u109 :: u110 :: u111 :: u112 :: u113 :: u114 :: u115 :: u116 :: u117 :: u118 :: u119 :: u120 :: u121 :: u122 :: u123 :: u124 :: u125 :: u126 :: u127 :: u128 :: u129 :: u130 :: u131 :: u132 :: u133 :: u134 :: u135 :: u136 :: u137 :: u138 :: u139 :: u140 :: u141 :: u142 :: u143 :: u144 :: u145 :: u146 :: u147 :: u148 :: u149 :: u150 :: u151 :: u152 :: u153 :: u154 :: u155 :: u156 :: u157 :: u158 :: u159 :: u160 :: u161 :: u162 :: u163 :: u164 :: u165 :: u166 :: u167 :: u168 :: u169 :: u170 :: u171 :: u172 :: u173 :: u174 :: u175 :: u176 :: u177 :: u178 :: u179 :: u180 :: u181 :: []), []⟩ wc := by
 rw [rf16_eq]
 refine wp_seq_k (fun K hK => ?_)
 conv => arg 2; whnf
 obtain ⟨kb, hkb⟩ : ∃ kb, Pure.keyB ky = kb := ⟨_, rfl⟩
 obtain ⟨kk, hkk⟩ := Pure.refKey_ev ky HKY.out
 have HKK := Aside0.mk (fun W => dragnetref08_IsKey.calls kk ky _ W (hkk kk (Nat.le_refl _)))
 rw [hkb] at HKK
 have HKB := Aside0.mk hkb
 clear hkb hkk
 have hA_ := HAB.out
 have a0 : wc.cell? ⟨w.heap.size, 0, none⟩ = some (.slice A ns.length c) := (blk_cell hA_ 0).trans rfl
 have a1 : wc.cell? ⟨w.heap.size, 1, none⟩ = some (.int .i64 k) := (blk_cell hA_ 1).trans rfl
 have a2 : wc.cell? ⟨w.heap.size, 2, none⟩ = some (.string ky) := (blk_cell hA_ 2).trans rfl
 have a3 : wc.cell? ⟨w.heap.size, 3, none⟩ = some (.int .i64 wd) := (blk_cell hA_ 3).trans rfl
 have a4 : wc.cell? ⟨w.heap.size, 4, none⟩ = some (.int .i64 sk) := (blk_cell hA_ 4).trans rfl
 have a5 : wc.cell? ⟨w.heap.size, 5, none⟩ = some (.int .i64 mo) := (blk_cell hA_ 5).trans rfl
 clear hA_
 go_upto_region 16 with fail
 go_cut [113] (fun s113 wx => ∃ bad : Bool, s113 = .bool bad ∧ Aside0 (bad = !pass16 k ky wd) ∧ Aside0 (wx.heap[w.heap.size]? = some (.cells #[.slice A ns.length c, .int .i64 k, .string ky, .int .i64 wd, .int .i64 sk, .int .i64 mo] 24 (0, 0))) ∧ Aside0 (Below w.heap.size w wx))
 case first =>
  by_cases k3 : k = 3
  ·have e3 : (k == 3) = true := beq_iff_eq.2 k3
   have HKQ := Aside0.mk k3
   have e5 : decide (5 ≤ k) = false := decide_eq_false (by omega)
   clear k3
   cases kb
   ·skip
    go_wp2_with fail
    refine (HKK.out wc).mono ?_
    rintro e w4 ⟨rfl, ⟨⟨nd, rfl⟩⟩⟩
    have HB4 := Aside0.mk (pw_below_drewN HB.out nd)
    have HAB4 := Aside0.mk (show (wc.drewN nd).heap[w.heap.size]? = some (.cells #[.slice A ns.length c, .int .i64 k, .string ky, .int .i64 wd, .int .i64 sk, .int .i64 mo] 24 (0, 0)) from HAB.out)
    go_wp2_with fail
    go_meet
    exact ⟨true, rfl, ⟨by exact p16_key (by have := HKQ.out; omega) HKB.out⟩, HAB4, HB4⟩
   ·skip
    go_wp2_with fail
    refine (HKK.out wc).mono ?_
    rintro e w4 ⟨rfl, ⟨⟨nd, rfl⟩⟩⟩
    have HB4 := Aside0.mk (pw_below_drewN HB.out nd)
    have HAB4 := Aside0.mk (show (wc.drewN nd).heap[w.heap.size]? = some (.cells #[.slice A ns.length c, .int .i64 k, .string ky, .int .i64 wd, .int .i64 sk, .int .i64 mo] 24 (0, 0)) from HAB.out)
    go_wp2_with fail
    go_meet
    exact ⟨false, rfl, ⟨by exact p16_key (by have := HKQ.out; omega) HKB.out⟩, HAB4, HB4⟩
  have e3 : (k == 3) = false := beq_eq_false_iff_ne.2 k3
  by_cases k4 : k = 4
  ·have e4 : (k == 4) = true := beq_iff_eq.2 k4
   have HKQ := Aside0.mk k4
   have e5 : decide (5 ≤ k) = false := decide_eq_false (by omega)
   have e3 := e3
   clear k4
   clear k3
   cases kb
   ·skip
    go_wp2_with fail
    refine (HKK.out wc).mono ?_
    rintro e w4 ⟨rfl, ⟨⟨nd, rfl⟩⟩⟩
    have HB4 := Aside0.mk (pw_below_drewN HB.out nd)
    have HAB4 := Aside0.mk (show (wc.drewN nd).heap[w.heap.size]? = some (.cells #[.slice A ns.length c, .int .i64 k, .string ky, .int .i64 wd, .int .i64 sk, .int .i64 mo] 24 (0, 0)) from HAB.out)
    go_wp2_with fail
    go_meet
    exact ⟨true, rfl, ⟨by exact p16_key (by have := HKQ.out; omega) HKB.out⟩, HAB4, HB4⟩
   ·skip
    go_wp2_with fail
    refine (HKK.out wc).mono ?_
    rintro e w4 ⟨rfl, ⟨⟨nd, rfl⟩⟩⟩
    have HB4 := Aside0.mk (pw_below_drewN HB.out nd)
    have HAB4 := Aside0.mk (show (wc.drewN nd).heap[w.heap.size]? = some (.cells #[.slice A ns.length c, .int .i64 k, .string ky, .int .i64 wd, .int .i64 sk, .int .i64 mo] 24 (0, 0)) from HAB.out)
    go_wp2_with fail
    go_meet
    exact ⟨false, rfl, ⟨by exact p16_key (by have := HKQ.out; omega) HKB.out⟩, HAB4, HB4⟩
  have e4 : (k == 4) = false := beq_eq_false_iff_ne.2 k4
  by_cases k5 : 5 ≤ k
  ·have e5 : decide (5 ≤ k) = true := decide_eq_true k5
   by_cases w1 : wd < 1
   ·have e6 : decide (wd < 1) = true := decide_eq_true w1
    have Hk3 := Aside0.mk k3
    have Hk4 := Aside0.mk k4
    have Hk5 := Aside0.mk k5
    have Hw1 := Aside0.mk w1
    clear k3 k4 k5 w1
    go_wp2_with fail
    go_meet
    exact ⟨true, rfl, ⟨by rw [← p16_wd (by have := Hk3.out; have := Hk4.out; omega) (by have := Hk5.out; omega), decide_eq_true (show wd < 1 by have := Hw1.out; omega)]⟩, HAB, HB⟩
   ·have e6 : decide (wd < 1) = false := decide_eq_false w1
    have Hk3 := Aside0.mk k3
    have Hk4 := Aside0.mk k4
    have Hk5 := Aside0.mk k5
    have Hw1 := Aside0.mk w1
    clear k3 k4 k5 w1
    go_wp2_with fail
    go_meet
    exact ⟨false, rfl, ⟨by rw [← p16_wd (by have := Hk3.out; have := Hk4.out; omega) (by have := Hk5.out; omega), decide_eq_false (show ¬ wd < 1 by have := Hw1.out; omega)]⟩, HAB, HB⟩
  ·have e5 : decide (5 ≤ k) = false := decide_eq_false k5
   have Hk3 := Aside0.mk k3
   have Hk4 := Aside0.mk k4
   have Hk5 := Aside0.mk k5
   clear k3 k4 k5
   go_wp2_with fail
   go_meet
   exact ⟨false, rfl, ⟨by exact p16_no (by have := Hk3.out; have := Hk4.out; omega) (by have := Hk5.out; omega)⟩, HAB, HB⟩
 case rest =>
  clear a0 a1 a2 a3 a4 a5
  clear HAB HB
  obtain ⟨bad, rfl, HBAD2, HAB, HB⟩ := hcut
  cases bad
  rotate_left
  ·have HF := Aside0.mk (form_no16 (ns := ns) HXQ.out HBAD2.out)
   go_wp2_with fail
   go_ret
   exact ⟨by rw [← HR.out, HF.out]; rfl, HB.out⟩
  go_wp2_with fail
  exact rf18 A c ns k ky wd sk mo w r wc ⟨by rw [← form_yes (ns := ns) HXQ.out HBAD.out HBAD2.out]; exact HR.out⟩ ⟨form_len HBAD.out⟩ HC hc H4 H5 HAB HB _ _ _ _ _ _ _ _ _ _ _ _ _ _ _ _ _ _ _ _ _ _ _ _ _ _ _ _ _ _ _ _ _ _ _ _ _ _ _ _ _ _ _ _ _ _ _ _ _ _ _ _ _ _ _ _ _ _ _ _ _ _ _ _ _ _ _ _ _ _ _ _ _ _ _ _ _ _ _ _ _ _ _ _ _ _ _ _ _ _ _ _ _ _ _ _ _ _ _ _ _ _ _ _ _ _ _ _ _ _ _ _ _ _ _ _ _ _ _ _ _ _ _ _ _ _ _ _ _ _ _ _ _ _ _ _ _ _ _ _ _ _ _ _ _ _ _ _ _ _ _ _ _ _ _ _ _ _ _ _ _ _ _ _ _ _ _ _ _ _ _ _ _ _ _ _ _ _ _ _ _
theorem rf14 (A : Option Addr) (c : Nat) (ns : List ND) (k : Int) (ky : ByteArray) (wd sk mo : Int) (w : World) (r : Bool) (q1 : ByteArray) (q2 q3 q4 : Int) (wc : World) (hN : ns.length ≤ 1099511627776) (HR : Aside0 (formedB ns k ky wd sk mo = r)) (HXQ : Aside0 (xOf k ky wd sk mo (q1, q2, q3, q4))) (HC : Aside0 (Kd.C k37 w A ns.length ns)) (hc : ns.length ≤ c) (H4 : Aside0 (∀ n ∈ ns, n.f4.length ≤ 1099511627776)) (H5 : Aside0 (∀ n ∈ ns, n.f5.size ≤ 9223372036854775807)) (HKY : Aside0 (ky.size ≤ 9223372036854775807)) (HAB : Aside0 (wc.heap[w.heap.size]? = some (.cells #[.slice A ns.length c, .int .i64 k, .string ky, .int .i64 wd, .int .i64 sk, .int .i64 mo] 24 (0, 0)))) (HXB : Aside0 (wc.heap[w.heap.size + 1]? = some (.cells #[.slice A ns.length c, .int .i64 k, .string q1, .int .i64 q2, .int .i64 q3, .int .i64 q4] 24 (0, 0)))) (HB : Aside0 (Below w.heap.size w wc)) (u0 u2 u4 u5 u6 u7 u8 u9 u10 u11 u12 u13 u14 u15 u16 u17 u18 u19 u20 u21 u22 u23 u24 u25 u26 u27 u28 u29 u30 u31 u32 u33 u34 u35 u36 u37 u38 u39 u40 u41 u42 u43 u44 u45 u46 u47 u48 u49 u50 u51 u52 u53 u54 u55 u56 u57 u58 u59 u60 u61 u62 u63 u64 u65 u66 u67 u68 u69 u70 u71 u72 u73 u74 u75 u76 u77 u78 u79 u80 u81 u82 u83 u84 u85 u86 u87 u88 u89 u90 u91 u92 u93 u94 u95 u96 u97 u98 u99 u100 u101 u102 u103 u104 u105 u106 u107 u108 u109 u110 u111 u112 u113 u114 u115 u116 u117 u118 u119 u120 u121 u122 u123 u124 u125 u126 u127 u128 u129 u130 u131 u132 u133 u134 u135 u136 u137 u138 u139 u140 u141 u142 u143 u144 u145 u146 u147 u148 u149 u150 u151 u152 u153 u154 u155 u156 u157 u158 u159 u160 u161 u162 u163 u164 u165 u166 u167 u168 u169 u170 u171 u172 u173 u174 u175 u176 u177 u178 u179 u180 u181 : Value) :
  Code.wp Tryz.prog rf14C (bodyPost Tryz.prog Tryz.f16 (fun e w' => e = .returned (.bool r) ∧ Below w.heap.size w w')) ⟨List.toArray (u0 :: .pointer (some ⟨w.heap.size, 0, none⟩) :: u2 :: .pointer (some ⟨w.heap.size + 1, 0, none⟩) :: u4 :: u5 :: u6 :: u7 :: u8 :: u9 :: u10 :: u11 :: u12 :: u13 :: u14 :: u15 :: u16 :: u17 :: u18 :: u19 :: u20 :: u21 :: u22 :: u23 :: u24 :: u25 :: u26 :: u27 :: u28 :: u29 :: u30 :: u31 :: u32 :: u33 :: u34 :: u35 :: u36 :: u37 :: u38 :: u39 :: u40 :: u41 :: u42 :: u43 :: u44 :: u45 :: u46 :: u47 :: u48 :: u49 :: u50 :: u51 :: u52 :: u53 :: u54 :: u55 :: u56 :: u57 :: u58 :: u59 :: u60 :: u61 :: u62 :: u63 :: u64 :: u65 :: u66 :: u67 :: u68 :: u69 :: u70 :: u71 :: u72 :: u73 :: u74 :: u75 :: u76 :: u77 :: u78 :: u79 :: u80 :: u81 :: u82 :: u83 :: u84 :: u85 :: u86 :: u87 :: u88 :: u89 :: u90 :: u91 :: u92 :: u93 :: u94 :: u95 :: u96 :: u97 :: u98 :: u99 :: u100 :: u101 :: u102 :: u103 :: u104 :: u105 :: u106 :: u107 :: u108 :: u109 :: u110 :: u111 :: u112 :: u113 :: u114 :: u115 :: u116 :: u117 :: u118 :: u119 :: u120 :: u121 :: u122 :: u123 :: u124 :: u125 :: u126 :: u127 :: u128 :: u129 :: u130 :: u131 :: u132 :: u133 :: u134 :: u135 :: u136 :: u137 :: u138 :: u139 :: u140 :: u141 :: u142 :: u143 :: u144 :: u145 :: u146 :: u147 :: u148 :: u149 :: u150 :: u151 :: u152 :: u153 :: u154 :: u155 :: u156 :: u157 :: u158 :: u159 :: u160 :: u161 :: u162 :: u163 :: u164 :: u165 :: u166 :: u167 :: u168 :: u169 :: u170 :: u171 :: u172 :: u173 :: u174 :: u175 :: u176 :: u177 :: u178 :: u179 :: u180 :: u181 :: []), []⟩ wc := by
 rw [rf14_eq]
 refine wp_seq_k (fun K hK => ?_)
 conv => arg 2; whnf
 have HSM := Aside0.mk (fun (W : World) (hW : Below w.heap.size w W) => askSame_calls A c A c ns hN H4.out k ky wd sk mo k q1 q2 q3 q4 W (Kd.C_below HC.out hW) hc (Kd.C_below HC.out hW) hc)
 simp only [true_and] at HSM
 obtain ⟨sb, hsb⟩ : ∃ sb, decide (ky = q1 ∧ wd = q2 ∧ sk = q3 ∧ mo = q4) = sb := ⟨_, rfl⟩
 rw [hsb] at HSM
 have HSB := Aside0.mk hsb
 clear hsb
 have hA_ := HAB.out
 have hX_ := HXB.out
 have a0 : wc.cell? ⟨w.heap.size, 0, none⟩ = some (.slice A ns.length c) := (blk_cell hA_ 0).trans rfl
 have a1 : wc.cell? ⟨w.heap.size, 1, none⟩ = some (.int .i64 k) := (blk_cell hA_ 1).trans rfl
 have a2 : wc.cell? ⟨w.heap.size, 2, none⟩ = some (.string ky) := (blk_cell hA_ 2).trans rfl
 have a3 : wc.cell? ⟨w.heap.size, 3, none⟩ = some (.int .i64 wd) := (blk_cell hA_ 3).trans rfl
 have a4 : wc.cell? ⟨w.heap.size, 4, none⟩ = some (.int .i64 sk) := (blk_cell hA_ 4).trans rfl
 have a5 : wc.cell? ⟨w.heap.size, 5, none⟩ = some (.int .i64 mo) := (blk_cell hA_ 5).trans rfl
 have x0 : wc.cell? ⟨w.heap.size + 1, 0, none⟩ = some (.slice A ns.length c) := (blk_cell hX_ 0).trans rfl
 have x1 : wc.cell? ⟨w.heap.size + 1, 1, none⟩ = some (.int .i64 k) := (blk_cell hX_ 1).trans rfl
 have x2 : wc.cell? ⟨w.heap.size + 1, 2, none⟩ = some (.string q1) := (blk_cell hX_ 2).trans rfl
 have x3 : wc.cell? ⟨w.heap.size + 1, 3, none⟩ = some (.int .i64 q2) := (blk_cell hX_ 3).trans rfl
 have x4 : wc.cell? ⟨w.heap.size + 1, 4, none⟩ = some (.int .i64 q3) := (blk_cell hX_ 4).trans rfl
 have x5 : wc.cell? ⟨w.heap.size + 1, 5, none⟩ = some (.int .i64 q4) := (blk_cell hX_ 5).trans rfl
 clear hA_ hX_
 go_upto_region 14 with fail
 go_cut [89] (fun s89 wx => ∃ bad : Bool, s89 = .bool bad ∧ Aside0 (bad = !pass14 ns.length k ky wd sk mo q1 q2 q3 q4) ∧ Aside0 (wx.heap[w.heap.size]? = some (.cells #[.slice A ns.length c, .int .i64 k, .string ky, .int .i64 wd, .int .i64 sk, .int .i64 mo] 24 (0, 0))) ∧ Aside0 (wx.heap[w.heap.size + 1]? = some (.cells #[.slice A ns.length c, .int .i64 k, .string q1, .int .i64 q2, .int .i64 q3, .int .i64 q4] 24 (0, 0))) ∧ Aside0 (Below w.heap.size w wx))
 case first =>
  by_cases g0 : ns.length < 1
  ·have d0 : decide ((ns.length : Int) < 1) = true := decide_eq_true (by omega)
   have Hg0 := Aside0.mk g0
   clear g0
   go_wp2_with fail
   go_meet
   exact ⟨true, rfl, ⟨by exact p14_len (by have := Hg0.out; omega)⟩, HAB, HXB, HB⟩
  ·have d0 : decide ((ns.length : Int) < 1) = false := decide_eq_false (by omega)
   by_cases g1 : 64 < ns.length
   ·have d1 : decide ((64 : Int) < (ns.length : Int)) = true := decide_eq_true (by omega)
    have Hg0 := Aside0.mk g0
    have Hg1 := Aside0.mk g1
    clear g0 g1
    go_wp2_with fail
    go_meet
    exact ⟨true, rfl, ⟨by exact p14_len (by have := Hg1.out; omega)⟩, HAB, HXB, HB⟩
   ·have d1 : decide ((64 : Int) < (ns.length : Int)) = false := decide_eq_false (by omega)
    cases sb
    ·have Hg0 := Aside0.mk g0
     have Hg1 := Aside0.mk g1
     clear g0 g1
     go_wp2_with fail
     refine (HSM.out wc HB.out).mono ?_
     rintro e w4 ⟨rfl, hb⟩
     have HB4 := Aside0.mk (below_step HB.out hb)
     have HAB4 := Aside0.mk (blk_below HAB.out hb)
     have HXB4 := Aside0.mk (blk_below HXB.out hb)
     have b1 : w4.cell? ⟨w.heap.size, 1, none⟩ = some (.int .i64 k) := (blk_cell HAB4.out 1).trans rfl
     have b4 : w4.cell? ⟨w.heap.size, 4, none⟩ = some (.int .i64 sk) := (blk_cell HAB4.out 4).trans rfl
     have b5 : w4.cell? ⟨w.heap.size, 5, none⟩ = some (.int .i64 mo) := (blk_cell HAB4.out 5).trans rfl
     clear hb
     go_wp2_with fail
     go_meet
     exact ⟨true, rfl, ⟨by exact p14_sb HSB.out⟩, HAB4, HXB4, HB4⟩
    ·skip
     by_cases g3 : sk < 0
     ·have d3 : decide (sk < 0) = true := decide_eq_true (by omega)
      have Hg0 := Aside0.mk g0
      have Hg1 := Aside0.mk g1
      have Hg3 := Aside0.mk g3
      clear g0 g1 g3
      go_wp2_with fail
      refine (HSM.out wc HB.out).mono ?_
      rintro e w4 ⟨rfl, hb⟩
      have HB4 := Aside0.mk (below_step HB.out hb)
      have HAB4 := Aside0.mk (blk_below HAB.out hb)
      have HXB4 := Aside0.mk (blk_below HXB.out hb)
      have b1 : w4.cell? ⟨w.heap.size, 1, none⟩ = some (.int .i64 k) := (blk_cell HAB4.out 1).trans rfl
      have b4 : w4.cell? ⟨w.heap.size, 4, none⟩ = some (.int .i64 sk) := (blk_cell HAB4.out 4).trans rfl
      have b5 : w4.cell? ⟨w.heap.size, 5, none⟩ = some (.int .i64 mo) := (blk_cell HAB4.out 5).trans rfl
      clear hb
      go_wp2_with fail
      go_meet
      exact ⟨true, rfl, ⟨by exact p14_rng (by have := Hg3.out; omega)⟩, HAB4, HXB4, HB4⟩
     ·have d3 : decide (sk < 0) = false := decide_eq_false (by omega)
      by_cases g4 : 2147483647 < sk
      ·have d4 : decide (2147483647 < sk) = true := decide_eq_true (by omega)
       have Hg0 := Aside0.mk g0
       have Hg1 := Aside0.mk g1
       have Hg3 := Aside0.mk g3
       have Hg4 := Aside0.mk g4
       clear g0 g1 g3 g4
       go_wp2_with fail
       refine (HSM.out wc HB.out).mono ?_
       rintro e w4 ⟨rfl, hb⟩
       have HB4 := Aside0.mk (below_step HB.out hb)
       have HAB4 := Aside0.mk (blk_below HAB.out hb)
       have HXB4 := Aside0.mk (blk_below HXB.out hb)
       have b1 : w4.cell? ⟨w.heap.size, 1, none⟩ = some (.int .i64 k) := (blk_cell HAB4.out 1).trans rfl
       have b4 : w4.cell? ⟨w.heap.size, 4, none⟩ = some (.int .i64 sk) := (blk_cell HAB4.out 4).trans rfl
       have b5 : w4.cell? ⟨w.heap.size, 5, none⟩ = some (.int .i64 mo) := (blk_cell HAB4.out 5).trans rfl
       clear hb
       go_wp2_with fail
       go_meet
       exact ⟨true, rfl, ⟨by exact p14_rng (by have := Hg4.out; omega)⟩, HAB4, HXB4, HB4⟩
      ·have d4 : decide (2147483647 < sk) = false := decide_eq_false (by omega)
       by_cases g5 : mo < 0
       ·have d5 : decide (mo < 0) = true := decide_eq_true (by omega)
        have Hg0 := Aside0.mk g0
        have Hg1 := Aside0.mk g1
        have Hg3 := Aside0.mk g3
        have Hg4 := Aside0.mk g4
        have Hg5 := Aside0.mk g5
        clear g0 g1 g3 g4 g5
        go_wp2_with fail
        refine (HSM.out wc HB.out).mono ?_
        rintro e w4 ⟨rfl, hb⟩
        have HB4 := Aside0.mk (below_step HB.out hb)
        have HAB4 := Aside0.mk (blk_below HAB.out hb)
        have HXB4 := Aside0.mk (blk_below HXB.out hb)
        have b1 : w4.cell? ⟨w.heap.size, 1, none⟩ = some (.int .i64 k) := (blk_cell HAB4.out 1).trans rfl
        have b4 : w4.cell? ⟨w.heap.size, 4, none⟩ = some (.int .i64 sk) := (blk_cell HAB4.out 4).trans rfl
        have b5 : w4.cell? ⟨w.heap.size, 5, none⟩ = some (.int .i64 mo) := (blk_cell HAB4.out 5).trans rfl
        clear hb
        go_wp2_with fail
        go_meet
        exact ⟨true, rfl, ⟨by exact p14_rng (by have := Hg5.out; omega)⟩, HAB4, HXB4, HB4⟩
       ·have d5 : decide (mo < 0) = false := decide_eq_false (by omega)
        by_cases g6 : 2147483647 < mo
        ·have d6 : decide (2147483647 < mo) = true := decide_eq_true (by omega)
         have Hg0 := Aside0.mk g0
         have Hg1 := Aside0.mk g1
         have Hg3 := Aside0.mk g3
         have Hg4 := Aside0.mk g4
         have Hg5 := Aside0.mk g5
         have Hg6 := Aside0.mk g6
         clear g0 g1 g3 g4 g5 g6
         go_wp2_with fail
         refine (HSM.out wc HB.out).mono ?_
         rintro e w4 ⟨rfl, hb⟩
         have HB4 := Aside0.mk (below_step HB.out hb)
         have HAB4 := Aside0.mk (blk_below HAB.out hb)
         have HXB4 := Aside0.mk (blk_below HXB.out hb)
         have b1 : w4.cell? ⟨w.heap.size, 1, none⟩ = some (.int .i64 k) := (blk_cell HAB4.out 1).trans rfl
         have b4 : w4.cell? ⟨w.heap.size, 4, none⟩ = some (.int .i64 sk) := (blk_cell HAB4.out 4).trans rfl
         have b5 : w4.cell? ⟨w.heap.size, 5, none⟩ = some (.int .i64 mo) := (blk_cell HAB4.out 5).trans rfl
         clear hb
         go_wp2_with fail
         go_meet
         exact ⟨true, rfl, ⟨by exact p14_rng (by have := Hg6.out; omega)⟩, HAB4, HXB4, HB4⟩
        ·have d6 : decide (2147483647 < mo) = false := decide_eq_false (by omega)
         by_cases g8 : k = 4
         ·have d8 : (k == 4) = true := beq_iff_eq.2 g8
          by_cases g9 : 1000 < mo
          ·have d9 : decide (1000 < mo) = true := decide_eq_true g9
           have Hg0 := Aside0.mk g0
           have Hg1 := Aside0.mk g1
           have Hg3 := Aside0.mk g3
           have Hg4 := Aside0.mk g4
           have Hg5 := Aside0.mk g5
           have Hg6 := Aside0.mk g6
           have Hg8 := Aside0.mk g8
           have Hg9 := Aside0.mk g9
           clear g0 g1 g3 g4 g5 g6 g8 g9
           go_wp2_with fail
           refine (HSM.out wc HB.out).mono ?_
           rintro e w4 ⟨rfl, hb⟩
           have HB4 := Aside0.mk (below_step HB.out hb)
           have HAB4 := Aside0.mk (blk_below HAB.out hb)
           have HXB4 := Aside0.mk (blk_below HXB.out hb)
           have b1 : w4.cell? ⟨w.heap.size, 1, none⟩ = some (.int .i64 k) := (blk_cell HAB4.out 1).trans rfl
           have b4 : w4.cell? ⟨w.heap.size, 4, none⟩ = some (.int .i64 sk) := (blk_cell HAB4.out 4).trans rfl
           have b5 : w4.cell? ⟨w.heap.size, 5, none⟩ = some (.int .i64 mo) := (blk_cell HAB4.out 5).trans rfl
           clear hb
           go_wp2_with fail
           go_meet
           exact ⟨true, rfl, ⟨by exact p14_mo (fun e => by have := e Hg8.out; have := Hg9.out; omega)⟩, HAB4, HXB4, HB4⟩
          ·have d9 : decide (1000 < mo) = false := decide_eq_false g9
           have Hg0 := Aside0.mk g0
           have Hg1 := Aside0.mk g1
           have Hg3 := Aside0.mk g3
           have Hg4 := Aside0.mk g4
           have Hg5 := Aside0.mk g5
           have Hg6 := Aside0.mk g6
           have Hg8 := Aside0.mk g8
           have Hg9 := Aside0.mk g9
           clear g0 g1 g3 g4 g5 g6 g8 g9
           go_wp2_with fail
           refine (HSM.out wc HB.out).mono ?_
           rintro e w4 ⟨rfl, hb⟩
           have HB4 := Aside0.mk (below_step HB.out hb)
           have HAB4 := Aside0.mk (blk_below HAB.out hb)
           have HXB4 := Aside0.mk (blk_below HXB.out hb)
           have b1 : w4.cell? ⟨w.heap.size, 1, none⟩ = some (.int .i64 k) := (blk_cell HAB4.out 1).trans rfl
           have b4 : w4.cell? ⟨w.heap.size, 4, none⟩ = some (.int .i64 sk) := (blk_cell HAB4.out 4).trans rfl
           have b5 : w4.cell? ⟨w.heap.size, 5, none⟩ = some (.int .i64 mo) := (blk_cell HAB4.out 5).trans rfl
           clear hb
           go_wp2_with fail
           go_meet
           exact ⟨false, rfl, ⟨by exact p14_ok (by have := Hg0.out; have := Hg1.out; omega) HSB.out (by have := Hg3.out; have := Hg4.out; have := Hg5.out; have := Hg6.out; omega) (fun _ => by have := Hg9.out; omega)⟩, HAB4, HXB4, HB4⟩
         ·have d8 : (k == 4) = false := beq_eq_false_iff_ne.2 g8
          have Hg0 := Aside0.mk g0
          have Hg1 := Aside0.mk g1
          have Hg3 := Aside0.mk g3
          have Hg4 := Aside0.mk g4
          have Hg5 := Aside0.mk g5
          have Hg6 := Aside0.mk g6
          have Hg8 := Aside0.mk g8
          clear g0 g1 g3 g4 g5 g6 g8
          go_wp2_with fail
          refine (HSM.out wc HB.out).mono ?_
          rintro e w4 ⟨rfl, hb⟩
          have HB4 := Aside0.mk (below_step HB.out hb)
          have HAB4 := Aside0.mk (blk_below HAB.out hb)
          have HXB4 := Aside0.mk (blk_below HXB.out hb)
          have b1 : w4.cell? ⟨w.heap.size, 1, none⟩ = some (.int .i64 k) := (blk_cell HAB4.out 1).trans rfl
          have b4 : w4.cell? ⟨w.heap.size, 4, none⟩ = some (.int .i64 sk) := (blk_cell HAB4.out 4).trans rfl
          have b5 : w4.cell? ⟨w.heap.size, 5, none⟩ = some (.int .i64 mo) := (blk_cell HAB4.out 5).trans rfl
          clear hb
          go_wp2_with fail
          go_meet
          exact ⟨false, rfl, ⟨by exact p14_ok (by have := Hg0.out; have := Hg1.out; omega) HSB.out (by have := Hg3.out; have := Hg4.out; have := Hg5.out; have := Hg6.out; omega) (fun h => absurd h (Hg8.out))⟩, HAB4, HXB4, HB4⟩
 case rest =>
  clear a0 x0 a1 x1 a2 x2 a3 x3 a4 x4 a5 x5
  clear HAB HXB HB HSM
  obtain ⟨bad, rfl, HBAD, HAB, HXB, HB⟩ := hcut
  cases bad
  rotate_left
  ·have HF := Aside0.mk (form_no14 HXQ.out HBAD.out)
   go_wp2_with fail
   go_ret
   exact ⟨by rw [← HR.out, HF.out]; rfl, HB.out⟩
  go_wp2_with fail
  exact rf16 A c ns k ky wd sk mo w r q1 q2 q3 q4 wc HR HXQ HBAD HC hc H4 H5 HKY HAB HB _ _ _ _ _ _ _ _ _ _ _ _ _ _ _ _ _ _ _ _ _ _ _ _ _ _ _ _ _ _ _ _ _ _ _ _ _ _ _ _ _ _ _ _ _ _ _ _ _ _ _ _ _ _ _ _ _ _ _ _ _ _ _ _ _ _ _ _ _ _ _ _ _ _ _ _ _ _ _ _ _ _ _ _ _ _ _ _ _ _ _ _ _ _ _ _ _ _ _ _ _ _ _ _ _ _ _ _ _ _ _ _ _ _ _ _ _ _ _ _ _ _ _ _ _ _ _ _ _ _ _ _ _ _ _ _ _ _ _ _ _ _ _ _ _ _ _ _ _ _ _ _ _ _ _ _ _ _ _ _ _ _ _ _ _ _ _ _ _ _ _ _ _ _ _ _ _ _ _ _ _
theorem rformed_calls (A : Option Addr) (c : Nat) (ns : List ND) (k : Int) (ky : ByteArray) (wd sk mo : Int) (w : World) (hC : Kd.C k37 w A ns.length ns) (hc : ns.length ≤ c) (hN : ns.length ≤ 1099511627776) (h4 : ∀ n ∈ ns, n.f4.length ≤ 1099511627776) (h5 : ∀ n ∈ ns, n.f5.size ≤ 9223372036854775807) (hky : ky.size ≤ 9223372036854775807) :
  Calls Tryz.prog 16 #[.agg #[.slice A ns.length c, .int .i64 k, .string ky, .int .i64 wd, .int .i64 sk, .int .i64 mo]] w fun e w' => e = .returned (.bool (formedB ns k ky wd sk mo)) ∧ Below w.heap.size w w' := by
 obtain ⟨r, hr⟩ : ∃ r, formedB ns k ky wd sk mo = r := ⟨_, rfl⟩
 rw [hr]
 have HR := Aside0.mk hr
 have HC := Aside0.mk hC
 have H4 := Aside0.mk h4
 have H5 := Aside0.mk h5
 have HKY := Aside0.mk hky
 clear hr hC h4 h5 hky
 go_enter Tryz.func16, Tryz.ntmps16
 go_upto_block 0 with fail
 go_cut [] (fun wx => ∃ q, xOf k ky wd sk mo q ∧ Aside0 (wx.heap[w.heap.size]? = some (.cells #[.slice A ns.length c, .int .i64 k, .string ky, .int .i64 wd, .int .i64 sk, .int .i64 mo] 24 (0, 0))) ∧ Aside0 (wx.heap[w.heap.size + 1]? = some (.cells #[.slice A ns.length c, .int .i64 k, .string q.1, .int .i64 q.2.1, .int .i64 q.2.2.1, .int .i64 q.2.2.2] 24 (0, 0))) ∧ Aside0 (Below w.heap.size w wx))
 case first =>
  by_cases k1 : k = 1
  ·have d1 : (k == 1) = true := beq_iff_eq.2 k1
   have HK := Aside0.mk k1
   clear k1
   go_wp2_with fail
   go_region
   all_goals (go_wp2_with fail)
   all_goals go_meet
   all_goals refine ⟨(⟨#[]⟩, 0, sk, mo), .inl ⟨HK.out, rfl⟩, ⟨?_⟩, ⟨?_⟩, ⟨?_⟩⟩
   all_goals first
    | (have h := blk_alloc (blk_new w (.cells #[.slice A ns.length c, .int .i64 k, .string ky, .int .i64 wd, .int .i64 sk, .int .i64 mo] 24)) (.cells #[.slice A ns.length c, .int .i64 k, .string ⟨#[]⟩, .int .i64 0, .int .i64 sk, .int .i64 mo] 24); exact h)
    | (have h := blk_new (w.alloc (.cells #[.slice A ns.length c, .int .i64 k, .string ky, .int .i64 wd, .int .i64 sk, .int .i64 mo] 24)) (.cells #[.slice A ns.length c, .int .i64 k, .string ⟨#[]⟩, .int .i64 0, .int .i64 sk, .int .i64 mo] 24); rw [World.size_alloc] at h; exact h)
    | (repeat (first | exact Below.refl _ _ | apply pw_below_drewN | apply below_drew | apply below_alloc))
  have d1 : (k == 1) = false := beq_eq_false_iff_ne.2 k1
  by_cases k2 : k = 2
  ·have d2 : (k == 2) = true := beq_iff_eq.2 k2
   have HK := Aside0.mk k2
   clear k2
   go_wp2_with fail
   all_goals go_meet
   all_goals refine ⟨(⟨#[]⟩, 0, 0, 0), .inr (.inl ⟨HK.out, rfl⟩), ⟨?_⟩, ⟨?_⟩, ⟨?_⟩⟩
   all_goals first
    | (have h := blk_alloc (blk_new w (.cells #[.slice A ns.length c, .int .i64 k, .string ky, .int .i64 wd, .int .i64 sk, .int .i64 mo] 24)) (.cells #[.slice A ns.length c, .int .i64 k, .string ⟨#[]⟩, .int .i64 0, .int .i64 0, .int .i64 0] 24); exact h)
    | (have h := blk_new (w.alloc (.cells #[.slice A ns.length c, .int .i64 k, .string ky, .int .i64 wd, .int .i64 sk, .int .i64 mo] 24)) (.cells #[.slice A ns.length c, .int .i64 k, .string ⟨#[]⟩, .int .i64 0, .int .i64 0, .int .i64 0] 24); rw [World.size_alloc] at h; exact h)
    | (repeat (first | exact Below.refl _ _ | apply pw_below_drewN | apply below_drew | apply below_alloc))
  have d2 : (k == 2) = false := beq_eq_false_iff_ne.2 k2
  by_cases k3 : k = 3
  ·have d3 : (k == 3) = true := beq_iff_eq.2 k3
   have HK := Aside0.mk k3
   clear k3
   go_wp2_with fail
   all_goals go_meet
   all_goals refine ⟨(ky, 0, 0, 0), .inr (.inr (.inl ⟨HK.out, rfl⟩)), ⟨?_⟩, ⟨?_⟩, ⟨?_⟩⟩
   all_goals first
    | (have h := blk_alloc (blk_new w (.cells #[.slice A ns.length c, .int .i64 k, .string ky, .int .i64 wd, .int .i64 sk, .int .i64 mo] 24)) (.cells #[.slice A ns.length c, .int .i64 k, .string ky, .int .i64 0, .int .i64 0, .int .i64 0] 24); exact h)
    | (have h := blk_new (w.alloc (.cells #[.slice A ns.length c, .int .i64 k, .string ky, .int .i64 wd, .int .i64 sk, .int .i64 mo] 24)) (.cells #[.slice A ns.length c, .int .i64 k, .string ky, .int .i64 0, .int .i64 0, .int .i64 0] 24); rw [World.size_alloc] at h; exact h)
    | (repeat (first | exact Below.refl _ _ | apply pw_below_drewN | apply below_drew | apply below_alloc))
  have d3 : (k == 3) = false := beq_eq_false_iff_ne.2 k3
  by_cases k4 : k = 4
  ·have d4 : (k == 4) = true := beq_iff_eq.2 k4
   have HK := Aside0.mk k4
   clear k4
   go_wp2_with fail
   go_region
   all_goals (go_wp2_with fail)
   all_goals go_meet
   all_goals refine ⟨(ky, 0, 0, mo), .inr (.inr (.inr (.inl ⟨HK.out, rfl⟩))), ⟨?_⟩, ⟨?_⟩, ⟨?_⟩⟩
   all_goals first
    | (have h := blk_alloc (blk_new w (.cells #[.slice A ns.length c, .int .i64 k, .string ky, .int .i64 wd, .int .i64 sk, .int .i64 mo] 24)) (.cells #[.slice A ns.length c, .int .i64 k, .string ky, .int .i64 0, .int .i64 0, .int .i64 mo] 24); exact h)
    | (have h := blk_new (w.alloc (.cells #[.slice A ns.length c, .int .i64 k, .string ky, .int .i64 wd, .int .i64 sk, .int .i64 mo] 24)) (.cells #[.slice A ns.length c, .int .i64 k, .string ky, .int .i64 0, .int .i64 0, .int .i64 mo] 24); rw [World.size_alloc] at h; exact h)
    | (repeat (first | exact Below.refl _ _ | apply pw_below_drewN | apply below_drew | apply below_alloc))
  have d4 : (k == 4) = false := beq_eq_false_iff_ne.2 k4
  by_cases k5 : k = 5
  ·have d5 : (k == 5) = true := beq_iff_eq.2 k5
   have HK := Aside0.mk k5
   clear k5
   go_wp2_with fail
   all_goals go_meet
   all_goals refine ⟨(⟨#[]⟩, wd, 0, 0), .inr (.inr (.inr (.inr ⟨.inl HK.out, rfl⟩))), ⟨?_⟩, ⟨?_⟩, ⟨?_⟩⟩
   all_goals first
    | (have h := blk_alloc (blk_new w (.cells #[.slice A ns.length c, .int .i64 k, .string ky, .int .i64 wd, .int .i64 sk, .int .i64 mo] 24)) (.cells #[.slice A ns.length c, .int .i64 k, .string ⟨#[]⟩, .int .i64 wd, .int .i64 0, .int .i64 0] 24); exact h)
    | (have h := blk_new (w.alloc (.cells #[.slice A ns.length c, .int .i64 k, .string ky, .int .i64 wd, .int .i64 sk, .int .i64 mo] 24)) (.cells #[.slice A ns.length c, .int .i64 k, .string ⟨#[]⟩, .int .i64 wd, .int .i64 0, .int .i64 0] 24); rw [World.size_alloc] at h; exact h)
    | (repeat (first | exact Below.refl _ _ | apply pw_below_drewN | apply below_drew | apply below_alloc))
  have d5 : (k == 5) = false := beq_eq_false_iff_ne.2 k5
  by_cases k6 : k = 6
  ·have d6 : (k == 6) = true := beq_iff_eq.2 k6
   have HK := Aside0.mk k6
   clear k6
   go_wp2_with fail
   all_goals go_meet
   all_goals refine ⟨(⟨#[]⟩, wd, 0, 0), .inr (.inr (.inr (.inr ⟨.inr HK.out, rfl⟩))), ⟨?_⟩, ⟨?_⟩, ⟨?_⟩⟩
   all_goals first
    | (have h := blk_alloc (blk_new w (.cells #[.slice A ns.length c, .int .i64 k, .string ky, .int .i64 wd, .int .i64 sk, .int .i64 mo] 24)) (.cells #[.slice A ns.length c, .int .i64 k, .string ⟨#[]⟩, .int .i64 wd, .int .i64 0, .int .i64 0] 24); exact h)
    | (have h := blk_new (w.alloc (.cells #[.slice A ns.length c, .int .i64 k, .string ky, .int .i64 wd, .int .i64 sk, .int .i64 mo] 24)) (.cells #[.slice A ns.length c, .int .i64 k, .string ⟨#[]⟩, .int .i64 wd, .int .i64 0, .int .i64 0] 24); rw [World.size_alloc] at h; exact h)
    | (repeat (first | exact Below.refl _ _ | apply pw_below_drewN | apply below_drew | apply below_alloc))
  have d6 : (k == 6) = false := beq_eq_false_iff_ne.2 k6
  have HF := Aside0.mk (show formedB ns k ky wd sk mo = false by unfold formedB askedB; rw [if_neg k1, if_neg k2, if_neg k3, if_neg k4, if_neg (by omega)]; simp)
  clear k1 k2 k3 k4 k5 k6
  go_wp2_with fail
  go_ret
  exact ⟨by rw [← HR.out, HF.out]; rfl, by repeat (first | exact Below.refl _ _ | apply pw_below_drewN | apply below_drew | apply below_alloc)⟩
 case rest =>
  obtain ⟨⟨q1, q2, q3, q4⟩, hxq, HAB, HXB, HB⟩ := hcut
  dsimp only at hxq HXB
  exact ‹∀ (a : Act) (w' : World), Code.wp Tryz.prog _ _ a w' → _› _ _ (rf14 A c ns k ky wd sk mo w r q1 q2 q3 q4 _ hN HR ⟨hxq⟩ HC hc H4 H5 HKY HAB HXB HB _ _ _ _ _ _ _ _ _ _ _ _ _ _ _ _ _ _ _ _ _ _ _ _ _ _ _ _ _ _ _ _ _ _ _ _ _ _ _ _ _ _ _ _ _ _ _ _ _ _ _ _ _ _ _ _ _ _ _ _ _ _ _ _ _ _ _ _ _ _ _ _ _ _ _ _ _ _ _ _ _ _ _ _ _ _ _ _ _ _ _ _ _ _ _ _ _ _ _ _ _ _ _ _ _ _ _ _ _ _ _ _ _ _ _ _ _ _ _ _ _ _ _ _ _ _ _ _ _ _ _ _ _ _ _ _ _ _ _ _ _ _ _ _ _ _ _ _ _ _ _ _ _ _ _ _ _ _ _ _ _ _ _ _ _ _ _ _ _ _ _ _ _ _ _ _ _ _ _ _)
end Go.Proofs.YtehaodbheifokaaGreatDoor.P
end
