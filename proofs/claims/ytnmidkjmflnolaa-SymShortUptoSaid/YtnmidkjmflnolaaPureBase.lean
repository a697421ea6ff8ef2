/- Plain lemmas: bytes, texts, lists, rounds. No program in sight. -/
import Derived.Test.YtnmidkjmflnolaaWWords
import Derived.Test.YtnmidkjmflnolaaWLast
import Derived.IntWalk
import Derived.Laws.BytesArg
namespace Go.Proofs.Ytnmidkjmflnolaa.Pure
open Go Go.RowKit Go.Proofs.YtnmidkjmflnolaaW.PrintWords

theorem wrap_in {x : Int} (h0 : -9223372036854775808 ≤ x) (h1 : x ≤ 9223372036854775807) : wrap64 x = x := by unfold wrap64; omega

/-! ### texts -/
theorem toList_loop (s : ByteArray) : ∀ (d i : Nat) (r : List UInt8), s.size - i = d → ByteArray.toList.loop s i r = r.reverse ++ s.data.toList.drop i := by
  intro d
  induction d with
  | zero =>
    intro i r h
    rw [ByteArray.toList.loop.eq_1]
    have hs : s.data.toList.length = s.size := by rw [Array.length_toList]; rfl
    rw [if_neg (by omega), List.drop_of_length_le (by omega)]
    simp
  | succ d ih =>
    intro i r h
    rw [ByteArray.toList.loop.eq_1]
    have hs : s.data.toList.length = s.size := by rw [Array.length_toList]; rfl
    have hi : i < s.size := by omega
    have hi' : i < s.data.toList.length := by omega
    rw [if_pos hi, ih (i + 1) _ (by omega), List.drop_eq_getElem_cons hi']
    have e : s.get! i = s.data.toList[i] := by
      rw [Array.getElem_toList]
      show s.data[i]! = _
      exact getElem!_pos s.data i (by have : s.data.size = s.size := rfl; omega)
    rw [e]
    simp
theorem toList_eq (s : ByteArray) : s.toList = s.data.toList := by
  show ByteArray.toList.loop s 0 [] = _
  rw [toList_loop s s.size 0 [] rfl]
  simp
theorem toList_inj {s t : ByteArray} : s.toList = t.toList ↔ s = t := by
  rw [toList_eq, toList_eq]
  constructor
  · intro h
    cases s; cases t
    congr 1
    exact Array.toList_inj.1 h
  · rintro rfl; rfl
theorem size_eq (s : ByteArray) : s.data.toList.length = s.size := by rw [Array.length_toList]; rfl
theorem text_ext {s t : ByteArray} (h : s.data.toList = t.data.toList) : s = t := toList_inj.1 (by rw [toList_eq, toList_eq, h])
theorem extract_list (s : ByteArray) (i j : Nat) : (s.extract i j).data.toList = (s.data.toList.take j).drop i := by
  rw [ByteArray.data_extract, Array.toList_extract]
  rw [List.extract_eq_take_drop, List.drop_take]

/-! ### bytes as numbers -/
def okb (n : Int) : Prop := 0 ≤ n ∧ n ≤ 255
theorem okb_wf {n : Int} (h : (Lit.int .u8 n).wf = true) : okb n := by
  simpa [Lit.wf, IntKind.min, IntKind.max, IntKind.signed, IntKind.bits, okb] using h
def okbs (l : List Int) : Prop := ∀ x ∈ l, okb x
theorem okbs_drop {l : List Int} (h : okbs l) (n : Nat) : okbs (l.drop n) := fun x hx => h x (List.mem_of_mem_drop hx)
theorem okbs_take {l : List Int} (h : okbs l) (n : Nat) : okbs (l.take n) := fun x hx => h x (List.mem_of_mem_take hx)
theorem okbs_append {l r : List Int} (h : okbs l) (h' : okbs r) : okbs (l ++ r) := fun x hx => (List.mem_append.1 hx).elim (h x) (h' x)
theorem okbs_wf {l : List Int} (h : ∀ x ∈ l, (Lit.int .u8 x).wf = true) : okbs l := fun x hx => okb_wf (h x hx)
def b8 (n : Int) : UInt8 := UInt8.ofNat n.toNat
theorem b8_inj {m n : Int} (hm : okb m) (hn : okb n) (h : b8 m = b8 n) : m = n := by
  unfold okb at hm hn
  unfold b8 at h
  have h2 := congrArg UInt8.toNat h
  rw [UInt8.toNat_ofNat', UInt8.toNat_ofNat'] at h2
  omega
theorem b8_nat {n : Int} (h : okb n) : ((b8 n).toNat : Int) = n := by
  unfold okb at h
  unfold b8
  rw [UInt8.toNat_ofNat']
  omega
theorem str_list (l : List Int) : (strOfNums l).data.toList = l.map b8 := by simp [strOfNums, b8]
theorem str_size (l : List Int) : (strOfNums l).size = l.length := by rw [← size_eq, str_list, List.length_map]
theorem map_b8_inj : ∀ {l r : List Int}, okbs l → okbs r → l.map b8 = r.map b8 → l = r
  | [], [], _, _, _ => rfl
  | [], _ :: _, _, _, h => by simp at h
  | _ :: _, [], _, _, h => by simp at h
  | x :: l, y :: r, hl, hr, h => by
    simp only [List.map_cons, List.cons.injEq] at h
    rw [b8_inj (hl x (by simp)) (hr y (by simp)) h.1, map_b8_inj (fun z hz => hl z (by simp [hz])) (fun z hz => hr z (by simp [hz])) h.2]
theorem str_inj {l r : List Int} (hl : okbs l) (hr : okbs r) (h : strOfNums l = strOfNums r) : l = r :=
  map_b8_inj hl hr (by rw [← str_list, ← str_list, h])
theorem str_beq {l r : List Int} (hl : okbs l) (hr : okbs r) : ((strOfNums l).toList == (strOfNums r).toList) = decide (l = r) := by
  by_cases h : l = r
  · subst h; simp
  · rw [decide_eq_false h, beq_eq_false_iff_ne]
    intro e
    exact h (str_inj hl hr (toList_inj.1 e))
theorem str_take (l : List Int) (n : Nat) : (strOfNums l).extract 0 n = strOfNums (l.take n) := by
  apply text_ext
  rw [extract_list, str_list, str_list]
  simp [List.map_take]
theorem str_drop (l : List Int) (n : Nat) : (strOfNums l).extract n (strOfNums l).size = strOfNums (l.drop n) := by
  apply text_ext
  rw [extract_list, str_list, str_list, str_size, List.take_of_length_le (by simp)]
  simp [List.map_drop]
theorem str_bt {l : List Int} (h : okbs l) {i : Int} (h0 : 0 ≤ i) (h1 : i < l.length) : bt (strOfNums l) i = rd l i := by
  obtain ⟨n, rfl⟩ := Int.eq_ofNat_of_zero_le h0
  have hn : n < l.length := by omega
  have hs : n < (strOfNums l).size := by rw [str_size]; exact hn
  have hb := bt_at (strOfNums l) (n : Int) (by simpa using hs)
  rw [← hb]
  simp only [Int.toNat_natCast]
  have e : (strOfNums l)[n]'hs = b8 l[n] := by
    show (strOfNums l).data[n]'_ = _
    have : (strOfNums l).data.toList[n]'(by rw [size_eq]; exact hs) = b8 l[n] := by
      have := str_list l
      simp only [this]
      simp
    rw [← this, Array.getElem_toList]
  rw [e, b8_nat (h _ (List.getElem_mem hn))]
  simp [rd, List.getD, hn]
theorem bytesOf_ok (s : ByteArray) : okbs (bytesOf s) := by
  intro x hx
  unfold bytesOf at hx
  obtain ⟨b, _, rfl⟩ := List.mem_map.1 hx
  have := b.toNat_lt
  unfold okb
  omega
theorem str_bytesOf (s : ByteArray) : strOfNums (bytesOf s) = s := by
  apply text_ext
  rw [str_list]
  unfold bytesOf
  rw [List.map_map]
  have : ∀ b : UInt8, (b8 ∘ fun b : UInt8 => (b.toNat : Int)) b = b := fun b => by simp [b8]
  rw [List.map_congr_left (fun b _ => this b), List.map_id']
theorem bytesOf_str {l : List Int} (h : okbs l) : bytesOf (strOfNums l) = l := str_inj (bytesOf_ok _) h (str_bytesOf _)

/-! ### elements -/
theorem rdOf_nat {α : Type} (d : α) (l : List α) (i : Nat) (h : i < l.length) : rdOf d l (i : Int) = l[i] := by simp [rdOf, List.getD, h]
theorem rd_nat (l : List Int) (i : Nat) (h : i < l.length) : rd l (i : Int) = l[i] := by simp [rd, List.getD, h]
theorem rd_ok {l : List Int} (h : okbs l) (i : Int) : okb (rd l i) := by
  unfold rd
  rw [List.getD_eq_getElem?_getD]
  cases hx : l[i.toNat]? with
  | none => exact ⟨by simp, by simp⟩
  | some x => exact h x (List.mem_of_getElem? hx)
theorem drop_cons_rd (l : List Int) (i : Nat) (h : i < l.length) : l.drop i = rd l (i : Int) :: l.drop (i + 1) := by
  rw [List.drop_eq_getElem_cons h, rd_nat l i h]

/-! ### rounds: 'Ev' -/
theorem Ev.map_step {α : Type} {g f : Nat → Option α} {r : α} (k : Ev f r) (h : ∀ k, g (k + 1) = f k) : Ev g r := Ev.step h k
theorem Ev.two {α : Type} {g : Nat → Option α} {r q : α} (h : Ev g r) (h' : Ev g q) : r = q := by
  obtain ⟨K, h⟩ := h
  obtain ⟨K', h'⟩ := h'
  have a := h (max K K') (Nat.le_max_left _ _)
  have b := h' (max K K') (Nat.le_max_right _ _)
  rw [a] at b
  exact Option.some.inj b
theorem Ev.const {α : Type} {o : Option α} {r : α} (h : o = some r) : Ev (fun _ => o) r := ⟨0, fun _ _ => h⟩
theorem Ev.let_ {α β : Type} {o : Option α} {f : Nat → α → Option β} {a : α} {r : β} (h : o = some a) (k : Ev (fun n => f n a) r) : Ev (fun n => o.bind (f n)) r := Ev.bind (Ev.const h) k
/-- A call, and what follows; with a round, and without. -/
theorem Ev.call {α β : Type} {g f : Nat → Option β} {c : Nat → Option α} {a : α} {r : β} (hc : Ev c a) (hk : Ev f r) (h : ∀ k, c k = some a → g (k + 1) = f k) : Ev g r := by
  obtain ⟨K, hc⟩ := hc
  obtain ⟨K', hk⟩ := hk
  refine ⟨max K K' + 1, fun n hn => ?_⟩
  obtain ⟨m, rfl⟩ : ∃ m, n = m + 1 := ⟨n - 1, by omega⟩
  rw [h m (hc m (by omega))]
  exact hk m (by omega)
theorem Ev.call0 {α β : Type} {g f : Nat → Option β} {c : Nat → Option α} {a : α} {r : β} (hc : Ev c a) (hk : Ev f r) (h : ∀ k, c k = some a → g k = f k) : Ev g r := by
  obtain ⟨K, hc⟩ := hc
  obtain ⟨K', hk⟩ := hk
  refine ⟨max K K', fun n hn => ?_⟩
  rw [h n (hc n (by omega))]
  exact hk n (by omega)
end Go.Proofs.Ytnmidkjmflnolaa.Pure
