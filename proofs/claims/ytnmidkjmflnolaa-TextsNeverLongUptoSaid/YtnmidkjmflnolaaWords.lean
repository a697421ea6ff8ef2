/- Small words beside the print's own: for walks that are typed by hand. -/
import Derived.Test.YtnmidkjmflnolaaP0
import Derived.Test.YtnmidkjmflnolaaMaps
import Derived.Lib.SlBytesConst
namespace Go.Proofs.Ytnmidkjmflnolaa.P
open Go.RowKit Go.Proofs.YtnmidkjmflnolaaW.PrintWords Go.Proofs.YtnmidkjmflnolaaW.PrintLast Go.Proofs.YtnmidkjmflnolaaW.PrintMore Go.Proofs.Ytnmidkjmflnolaa.Maps
set_option linter.unusedVariables false

/-- A literal row that was just laid reads as its numbers. -/
theorem C_new (W : World) (k : IntKind) (e : TypeId) (xs : List Int) (hl : xs.length ≤ 9223372036854775807) : (Kd.int k).C (W.alloc (.cells (nums k xs).toArray e)) (some ⟨W.heap.size, 0, none⟩) xs.length xs := by
  refine ⟨rfl, hl, fun _ => ⟨_, rfl, fun j p hj => ⟨[.int k p], rfl, rfl, fun i u hu => ?_⟩⟩⟩
  cases i with
  | succ i => simp at hu
  | zero =>
    obtain rfl : Value.int k p = u := by simpa using hu
    have hsz : (Kd.int k).sz = 1 := rfl
    rw [hsz, Nat.mul_one, Nat.add_zero, add_plain, blk_cell (heap_alloc_new W _) j]
    obtain ⟨hjl, hp⟩ := List.getElem?_eq_some_iff.1 hj
    simp [nums, hjl, hp]
/-- The same where the row bears a mark (bytes of a constant). -/
theorem C_new_mark (W : World) (k : IntKind) (e : TypeId) (xs : List Int) (fr : Nat × Nat) (hl : xs.length ≤ 9223372036854775807) : (Kd.int k).C (W.alloc (.cells (nums k xs).toArray e fr)) (some ⟨W.heap.size, 0, none⟩) xs.length xs := by
  refine ⟨rfl, hl, fun _ => ⟨_, rfl, fun j p hj => ⟨[.int k p], rfl, rfl, fun i u hu => ?_⟩⟩⟩
  cases i with
  | succ i => simp at hu
  | zero =>
    obtain rfl : Value.int k p = u := by simpa using hu
    have hsz : (Kd.int k).sz = 1 := rfl
    rw [hsz, Nat.mul_one, Nat.add_zero, add_plain, cell_of_row _ _ j _ e fr (heap_alloc_new W _)]
    obtain ⟨hjl, hp⟩ := List.getElem?_eq_some_iff.1 hj
    simp [nums, hjl, hp]
/-- Bytes of a constant: the literal's row gets its mark; for the walk. -/
theorem bytes_const (w : World) (m : Nat) (C : Array Value) (n c : Nat) (hm : m = w.heap.size) :
    (convert 23 23 (.slice (some ⟨m, 0, none⟩) n c)).run Try.prog (w.alloc (.cells C 5)) = .ok (.slice (some ⟨m, 0, none⟩) n c) (w.alloc (.cells C 5 (C.size, C.size + 1))) := by
  subst hm
  exact Lib.run_convert_bytes_const (P := Try.prog) w 23 5 C n c Try.underlying23 Try.underlying5
theorem C_new_strs (W : World) (e : TypeId) (xs : List ByteArray) (hl : xs.length ≤ 9223372036854775807) : Kd.string.C (W.alloc (.cells (pw_strs xs).toArray e)) (some ⟨W.heap.size, 0, none⟩) xs.length xs := by
  refine ⟨rfl, hl, fun _ => ⟨_, rfl, fun j p hj => ⟨[.string p], rfl, rfl, fun i u hu => ?_⟩⟩⟩
  cases i with
  | succ i => simp at hu
  | zero =>
    obtain rfl : Value.string p = u := by simpa using hu
    have hsz : Kd.string.sz = 1 := rfl
    rw [hsz, Nat.mul_one, Nat.add_zero, add_plain, blk_cell (heap_alloc_new W _) j]
    obtain ⟨hjl, hp⟩ := List.getElem?_eq_some_iff.1 hj
    simp [pw_strs, hjl, hp]
theorem _root_.Go.Proofs.Ytnmidkjmflnolaa.Maps.MapIs.ne_own {P : Program} {k e : TypeId} {E : El} {w : World} {b n : Nat} {f : ByteArray → Option E.T} (h : MapIs P k e E w b n f) {α : Type} {d : Kd α} {t base : Nat} {ok : Nat → Prop} {v : Value} {xs : List α} (hr : d.R t w base ok v xs) : some b ≠ v.ownBlock := by
  intro he
  obtain ⟨_, inner, ho, _⟩ := hr
  obtain ⟨cells, hc⟩ := own_typed ho b he.symm
  obtain ⟨D, ⟨es, c, hh, _⟩, _⟩ := h
  rw [hc] at hh
  cases hh
theorem _root_.Go.Proofs.Ytnmidkjmflnolaa.Maps.MapIs.grown {P : Program} {k e : TypeId} {E : El} {w w1 : World} {b n : Nat} {f : ByteArray → Option E.T} (h : MapIs P k e E w b n f) {α : Type} {d : Kd α} {t base : Nat} {ok : Nat → Prop} {v : Value} {xs : List α} (hr : d.R t w base ok v xs) (hg : w.grownBy w1 v.ownBlock) : MapIs P k e E w1 b n f :=
  h.kept hg (h.ne_own hr)
theorem _root_.Go.Proofs.Ytnmidkjmflnolaa.Maps.MapIs.drewN {P : Program} {k e : TypeId} {E : El} {w : World} {b n : Nat} {f : ByteArray → Option E.T} (h : MapIs P k e E w b n f) (m : Nat) : MapIs P k e E (w.drewN m) b n f := h.kept (row := none) ⟨rfl, rfl, rfl, Nat.le_refl _, fun _ _ _ => rfl⟩ (by simp)
/-- A store into a map leaves the rows that are one's own. -/
theorem R_mapped {P : Program} {k e : TypeId} {E : El} {w w1 : World} {b n : Nat} {f : ByteArray → Option E.T} (h : MapIs P k e E w b n f) {α : Type} {d : Kd α} {t base : Nat} {ok : Nat → Prop} {v : Value} {xs : List α} (hr : d.R t w base ok v xs) (hg : w.grownBy w1 (some b)) : d.R t w1 base ok v xs := by
  refine Kd.R_mono (Kd.R_grown (Kd.R_bound hr) hg (fun j hj he => ?_)) (fun _ hk => hk.1)
  obtain ⟨_, _, _, q, _, cells, hc⟩ := hj
  injection he with he
  subst he
  obtain ⟨D, ⟨es, c, hh, _⟩, _⟩ := h
  rw [hc] at hh
  cases hh
theorem strOfNums_size (l : List Int) : (strOfNums l).size = l.length := by
  show (strOfNums l).data.size = _
  simp [strOfNums]
/-- An empty literal row is one's own. -/
theorem R_empty (w : World) (e : TypeId) {α : Type} {d : Kd α} : d.R e (w.alloc (.cells #[] e)) w.heap.size (fun _ => True) (.slice (some ⟨w.heap.size, 0, none⟩) 0 0) [] :=
  ⟨fun _ _ => trivial, [], ⟨by simp, .inr ⟨w.heap.size, 0, #[], rfl, Nat.le_refl _, heap_alloc_new w _, Nat.le_refl _, by unfold maxLen; omega, by simp, by simp⟩⟩, Reps.none _ _⟩
/-! ### cuts of bytes, as the walk spells them -/
theorem info_u8 : (Try.prog.info? 5).map (fun i => (i.zero, i.size, i.bytes)) = some (some (.int .u8 0), 1, 1) := by kernel_rfl
theorem cut_drop (A : Option Addr) (c : Nat) (l : List Int) (m : Nat) (hm : m ≤ l.length) (hc : l.length ≤ c) :
    ∃ A' : Option Addr, (∀ W : World, (Instr.slice 23 (.slice A l.length c) (some (.int .i64 (m : Int))) none none).run Try.prog W = .ok (.slice A' (l.length - m) (c - m)) W) ∧
      (∀ w : World, (Kd.int .u8).C w A l.length l → (Kd.int .u8).C w A' (l.drop m).length (l.drop m)) ∧ (l.drop m).length ≤ c - m := by
  obtain ⟨i0, hi0, _, hsz, _⟩ := info_parts info_u8
  obtain ⟨A', h1, h2, h3⟩ := print_drop_of (P := Try.prog) (Value.int .u8) 0 23 5 .i64 Try.underlying23 hi0 hsz A c l (m : Int) (by omega) (by omega) hc
  simp only [Int.toNat_natCast] at h1 h2 h3
  exact ⟨A', fun W => by rw [h1 W, List.length_drop], fun w h => Kd.C_of_reads (h1 := fun _ => rfl) (h2 _ (Kd.reads_of_C h)), h3⟩
theorem cut_mid (A : Option Addr) (c : Nat) (l : List Int) (a b : Nat) (hab : a ≤ b) (hm : b ≤ l.length) (hc : l.length ≤ c) :
    ∃ A' : Option Addr, (∀ W : World, (Instr.slice 23 (.slice A l.length c) (some (.int .i64 (a : Int))) (some (.int .i64 (b : Int))) none).run Try.prog W = .ok (.slice A' (b - a) (c - a)) W) ∧
      (∀ w : World, (Kd.int .u8).C w A l.length l → (Kd.int .u8).C w A' ((l.take b).drop a).length ((l.take b).drop a)) ∧ ((l.take b).drop a).length = b - a ∧ b - a ≤ c - a := by
  obtain ⟨i0, hi0, _, hsz, _⟩ := info_parts info_u8
  obtain ⟨A', h1, h2, h3⟩ := print_mid_of (P := Try.prog) (Value.int .u8) 0 23 5 .i64 .i64 Try.underlying23 hi0 hsz A c l (a : Int) (b : Int) (by omega) (by omega) (by omega) hc
  simp only [Int.toNat_natCast] at h1 h2 h3
  have hl : ((l.take b).drop a).length = b - a := by simp; omega
  exact ⟨A', fun W => by rw [h1 W, hl], fun w h => Kd.C_of_reads (h1 := fun _ => rfl) (h2 _ (Kd.reads_of_C h)), hl, by omega⟩
end Go.Proofs.Ytnmidkjmflnolaa.P
