/- bytes.Join with no separator: the parts one behind the other. -/
import Derived.Test.YtnmidkjmflnolaaShelf
import Derived.Test.YtnmidkjmflnolaaBytes
import Derived.Test.YtnmidkjmflnolaaWords
namespace Go.Proofs.Ytnmidkjmflnolaa.P
open Go Go.RowKit Go.Proofs.YtnmidkjmflnolaaW.PrintWords Go.Proofs.YtnmidkjmflnolaaW.PrintLast Go.Proofs.YtnmidkjmflnolaaW.PrintMore
set_option linter.unusedVariables false
set_option linter.unusedSimpArgs false

def byteI (x : Int) : Bool := decide (0 ≤ x) && decide (x < 256)
def partOk (x : List Int) : Bool := decide (x.length ≤ 65536) && x.all byteI
def bytes_Join.f (l0 : List (List Int)) (l1 : List Int) : Option (List Int) := if l1 = [] ∧ l0.length ≤ 16 ∧ l0.all partOk = true then some l0.flatten else none
theorem plain_ad {w : World} {a : Addr} {v : Value} (h : w.cell? a = some v) : a = ⟨a.block, a.off, none⟩ := by
  have := World.cell?_spot h
  cases a
  simp_all
theorem row_at {α : Type} {d : Kd α} {e : Nat} {w : World} {A : Option Addr} {n : Nat} {xs : List (List α)} (h : (Kd.slice e d).C w A n xs) (i : Nat) (hi : i < xs.length) :
    ∃ ad Ai ci, A = some ad ∧ w.cell? (ad.add i) = some (.slice Ai xs[i].length ci) ∧ xs[i].length ≤ ci ∧ d.C w Ai xs[i].length xs[i] := by
  obtain ⟨hl, _, hc0⟩ := h
  obtain ⟨ad, hA, hc⟩ := hc0 (by omega)
  obtain ⟨cs, _, hk, hcell⟩ := hc i xs[i] (List.getElem?_eq_getElem hi)
  obtain ⟨Ai, ci, rfl, h1, h2⟩ := hk
  refine ⟨ad, Ai, ci, hA, ?_, h1, h2⟩
  have := hcell 0 _ rfl
  simpa [Kd.slice] using this
theorem nat_byte {x : Int} (h : byteI x = true) : ((UInt8.ofNat x.toNat).toNat : Int) = x := by
  simp only [byteI, Bool.and_eq_true, decide_eq_true_eq] at h
  simp only [UInt8.toNat_ofNat']
  omega
theorem cells_u8 {w : World} {A : Option Addr} {l : List Int} (h : (Kd.int .u8).C w A l.length l) (ad : Addr) (hA : A = some ad) (i : Nat) (x : Int) (hi : l[i]? = some x) : w.cell? (ad.add i) = some (.int .u8 x) := by
  have hlt : i < l.length := (List.getElem?_eq_some_iff.1 hi).1
  obtain ⟨ad', e, hc⟩ := Kd.at_int h (i : Int) (by omega) (by omega)
  rw [hA] at e
  cases e
  rw [Int.toNat_natCast] at hc
  rw [hc]
  have : rd l (i : Int) = x := by simp [rd, List.getD, hi]
  rw [this]
theorem holds_part {w : World} {A : Option Addr} {c : Nat} {l : List Int} (h : (Kd.int .u8).C w A l.length l) (hb : l.all byteI = true) : Lib.HoldsBytes w (.slice A l.length c) (Lib.bytesOf l) := by
  refine ⟨A, c, by simp [Lib.bytesOf], fun hA => ?_, fun a hA i x hx => ?_⟩
  · cases l with
    | nil => rfl
    | cons y r => obtain ⟨ad, e, _⟩ := h.2.2 (by simp); rw [hA] at e; cases e
  · unfold Lib.bytesOf at hx
    rw [List.getElem?_map] at hx
    obtain ⟨z, hz, rfl⟩ := Option.map_eq_some_iff.1 hx
    have hzb := List.all_eq_true.1 hb z (List.mem_of_getElem? hz)
    rw [cells_u8 h a hA i z hz]
    congr 2
    exact (nat_byte hzb).symm
theorem numsBack {l : List Int} (hb : l.all byteI = true) : (Lib.bytesOf l).map (fun x => (x.toNat : Int)) = l := by
  unfold Lib.bytesOf
  rw [List.map_map]
  conv => rhs; rw [← List.map_id l]
  refine List.map_congr_left fun x hx => ?_
  exact nat_byte (List.all_eq_true.1 hb x hx)
theorem kr_fresh {B : Nat} {w' : World} {v : Value} {l : List UInt8} {xs : List Int} (h : Lib.FreshBytes B w' v l) (hx : xs = l.map (fun x => (x.toNat : Int))) : Kr (Kd.int .u8) 5 w' B (fun _ => True) v xs := by
  subst hx
  obtain ⟨g, cap, zs, rfl, hB, hcap, hm, hz, hr, hbz, hc, _⟩ := h
  refine ⟨fun k hk => ?_, some ⟨g, 0, none⟩, cap, by rw [List.length_map], by rw [List.length_map]; exact hcap, ?_⟩
  · simp only [Value.ownBlock, Option.some.injEq] at hk
    omega
  · refine ⟨rfl, by rw [List.length_map]; unfold maxLen at hm; omega, fun _ => ⟨⟨g, 0, none⟩, rfl, fun j p hj => ⟨[.int .u8 p], rfl, rfl, fun i u hi => ?_⟩⟩⟩
    obtain ⟨rfl, rfl⟩ : i = 0 ∧ u = .int .u8 p := by
      cases i with
      | zero => simp at hi; exact ⟨rfl, hi.symm⟩
      | succ i => simp at hi
    show _ = _
    rw [WideShapes.add_plain, show 0 + (j * (Kd.int .u8).sz + 0) = j by show 0 + (j * 1 + 0) = j; omega]
    rw [List.getElem?_map] at hj
    obtain ⟨y, hy, rfl⟩ := Option.map_eq_some_iff.1 hj
    have hlt : j < l.length := (List.getElem?_eq_some_iff.1 hy).1
    rw [hc j (by omega)]
    congr 2
    have hzj : zs[j]? = some (zs.getD j 0) := by rw [List.getD_eq_getElem?_getD, List.getElem?_eq_getElem (by omega)]; rfl
    have hmem : zs.getD j 0 ∈ zs := List.mem_of_getElem? hzj
    obtain ⟨h0, h1⟩ := hr _ hmem
    have e : (Lib.bytesOf (zs.take l.length))[j]? = some y := by rw [hbz]; exact hy
    unfold Lib.bytesOf at e
    rw [List.getElem?_map, List.getElem?_take_of_lt hlt, hzj] at e
    simp only [Option.map_some, Option.some.injEq] at e
    rw [← e]
    exact (nat_byte (by unfold byteI; rw [decide_eq_true h0, decide_eq_true h1]; rfl)).symm
theorem parts_len : ∀ {l : List (List Int)}, l.all partOk = true → Lib.lens (l.map Lib.bytesOf) ≤ 65536 * l.length
  | [], _ => by simp [Lib.lens]
  | x :: r, h => by
    simp only [List.all_cons, Bool.and_eq_true] at h
    have ih := parts_len h.2
    have h1 := h.1
    simp only [partOk, Bool.and_eq_true, decide_eq_true_eq] at h1
    rw [List.map_cons, Lib.lens_cons]
    simp only [Lib.bytesOf, List.length_map, List.length_cons] at *
    omega
theorem nil_sep {w : World} : Lib.HoldsBytes w (.slice none 0 0) [] := ⟨none, 0, rfl, fun _ => rfl, fun a h => by cases h⟩
theorem join_none_sep (ls : List (List UInt8)) : Lib.join ls [] = ls.flatten := by
  cases ls with
  | nil => rfl
  | cons x r =>
    rw [Lib.join_cons, List.flatten_cons]
    congr 1
    simp [Lib.joinTail]
theorem flat_bytes : ∀ {l : List (List Int)}, l.all partOk = true → (l.map Lib.bytesOf).flatten.map (fun x => (x.toNat : Int)) = l.flatten
  | [], _ => rfl
  | x :: r, h => by
    simp only [List.all_cons, Bool.and_eq_true] at h
    have h1 := h.1
    simp only [partOk, Bool.and_eq_true] at h1
    rw [List.map_cons, List.flatten_cons, List.map_append, flat_bytes h.2, numsBack h1.2, List.flatten_cons]
theorem bytes_Join.calls (A0 : Option Addr) (c0 : Nat) (l0 : List (List Int)) (A1 : Option Addr) (c1 : Nat) (l1 : List Int) (r : List Int) (w : World) (hr0 : Kd.C (Kd.slice 23 (Kd.int .u8)) w A0 l0.length l0) (hc0 : l0.length ≤ c0) (hr1 : Kd.C (Kd.int .u8) w A1 l1.length l1) (hc1 : l1.length ≤ c1) (h : bytes_Join.f l0 l1 = some r)
    (hn : (Value.slice A1 l1.length c1) = .slice none 0 0 := by rfl) :
    Calls Try.prog 54 #[.slice A0 l0.length c0, .slice A1 l1.length c1] w fun e w' => ∃ v0_ : Value, e = .returned (v0_) ∧ Kr (Kd.int .u8) 5 w' w.heap.size (fun _ => True) v0_ r ∧ Below w.heap.size w w' := by
  rw [hn]
  unfold bytes_Join.f at h
  by_cases hcond : l1 = [] ∧ l0.length ≤ 16 ∧ l0.all partOk = true
  case neg => rw [if_neg hcond] at h; cases h
  rw [if_pos hcond] at h
  obtain rfl := Option.some.inj h
  obtain ⟨-, h16, hok⟩ := hcond
  clear h hn
  match l0, hr0, hc0, h16, hok with
  | [], hr0, hc0, h16, hok =>
    refine (Try.bytes_Join_none A0 c0 (.slice none 0 0) w).mono ?_
    rintro e w' ⟨rfl, rfl⟩
    refine ⟨_, rfl, ⟨fun k hk => ?_, some ⟨w.heap.size, 0, none⟩, 0, rfl, Nat.le_refl _, ?_⟩, below_alloc (Below.refl _ _) _⟩
    · simp only [Value.ownBlock, Option.some.injEq] at hk
      omega
    · exact ⟨rfl, by simp, fun h => absurd h (by simp)⟩
  | [x], hr0, hc0, h16, hok =>
    obtain ⟨ad, Ai, ci, rfl, hcell, hci, hC⟩ := row_at hr0 0 (by simp)
    simp only [List.getElem_cons_zero] at hcell hci hC
    have hx := hok
    simp only [List.all_cons, List.all_nil, Bool.and_true, partOk, Bool.and_eq_true, decide_eq_true_eq] at hx
    rw [Addr.add_zero'] at hcell
    have had := plain_ad hcell
    rw [had] at hcell ⊢
    simp only [List.flatten_cons, List.flatten_nil, List.append_nil]
    by_cases h0 : x.length = 0
    · have hx0 : x = [] := List.length_eq_zero_iff.1 h0
      subst hx0
      refine (Try.bytes_Join_one_empty _ _ c0 Ai ci (.slice none 0 0) w hcell).mono ?_
      rintro e w' ⟨rfl, rfl⟩
      exact ⟨_, rfl, ⟨fun k hk => (by simp [Value.ownBlock] at hk), none, 0, rfl, Nat.le_refl _, ⟨rfl, by simp, fun h => absurd h (by simp)⟩⟩, Below.refl _ _⟩
    · obtain ⟨ad0, hA0, _⟩ := hC.2.2 (by omega)
      subst hA0
      have hl : (Lib.bytesOf x).length = x.length := by simp [Lib.bytesOf]
      obtain ⟨A', c', he, _, hcs⟩ := holds_part (c := ci) hC hx.2
      injection he with e1 e2 e3
      have hc := hcs ad0 e1.symm
      subst e3
      rw [← hl] at hcell
      refine (Try.bytes_Join_one _ _ c0 ad0 ci (Lib.bytesOf x) (.slice none 0 0) w hcell hc (by omega) (by omega)).mono ?_
      rintro e w' ⟨v', rfl, hf, hb⟩
      exact ⟨v', rfl, kr_fresh hf (numsBack hx.2).symm, hb⟩
  | x :: y :: t, hr0, hc0, h16, hok =>
    generalize hl : x :: y :: t = l at hr0 hc0 h16 hok
    have h2 : 2 ≤ l.length := by rw [← hl]; simp
    obtain ⟨ad, _, _, rfl, hcell0, _, _⟩ := row_at hr0 0 (by omega)
    rw [Addr.add_zero'] at hcell0
    have had := plain_ad hcell0
    have hP : Lib.PartsAt w ad ((List.range l.length).map fun i => (w.cell? (ad.add i)).getD undef) (l.map Lib.bytesOf) := by
      refine ⟨by simp, fun i v hv => ?_, fun i v p hv hp => ?_⟩
      · rw [List.getElem?_map] at hv
        obtain ⟨j, hj, rfl⟩ := Option.map_eq_some_iff.1 hv
        have hil : i < l.length := by have := (List.getElem?_eq_some_iff.1 hj).1; simpa using this
        obtain rfl : j = i := by rw [List.getElem?_range hil] at hj; exact (Option.some.inj hj).symm
        obtain ⟨ad', Ai, ci, e, hc, _, _⟩ := row_at hr0 j hil
        cases e
        rw [hc]
        rfl
      · rw [List.getElem?_map] at hv hp
        obtain ⟨j, hj, rfl⟩ := Option.map_eq_some_iff.1 hv
        obtain ⟨z, hz, rfl⟩ := Option.map_eq_some_iff.1 hp
        have hil : i < l.length := by have := (List.getElem?_eq_some_iff.1 hj).1; simpa using this
        obtain rfl : j = i := by rw [List.getElem?_range hil] at hj; exact (Option.some.inj hj).symm
        obtain ⟨ad', Ai, ci, e, hc, _, hC⟩ := row_at hr0 j hil
        cases e
        obtain rfl : l[j] = z := by rw [List.getElem?_eq_getElem hil] at hz; exact Option.some.inj hz
        have hzb := List.all_eq_true.1 hok l[j] (List.getElem_mem hil)
        simp only [partOk, Bool.and_eq_true] at hzb
        rw [hc]
        exact holds_part hC hzb.2
    have hlen := parts_len hok
    rw [had] at hP ⊢
    refine (Try.bytes_Join_many ad.block ad.off l.length c0 _ (l.map Lib.bytesOf) (.slice none 0 0) [] w (by simp) h2 hP hc0 nil_sep (by omega) (by simp only [List.length_nil, Nat.zero_mul, Nat.add_zero]; omega)).mono ?_
    rintro e w' ⟨v', rfl, hf, hb⟩
    rw [join_none_sep] at hf
    exact ⟨v', rfl, kr_fresh hf (flat_bytes hok).symm, hb⟩
end Go.Proofs.Ytnmidkjmflnolaa.P
