/- Small words beside the print's own: for walks that are typed by hand. -/
import Derived.Test.YtnmidkjmflnolaaP0
import Derived.Test.YtnmidkjmflnolaaMaps
import Derived.Lib.SlBytesConst
namespace Go.Proofs.Ytnmidkjmflnolaa.P
open Go.RowKit Go.Proofs.YtnmidkjmflnolaaW.PrintWords Go.Proofs.YtnmidkjmflnolaaW.PrintLast Go.Proofs.YtnmidkjmflnolaaW.PrintMore Go.Proofs.Ytnmidkjmflnolaa.Maps
set_option linter.unusedVariables false

/-- A literal row that was just laid reads as its numbers. -/
theorem C_new (W : World) (k : IntKind) (e : TypeId) (xs : List Int) (hl : xs.length ≤ 9223372036854775807) : (Kd.int k).C (W.alloc (.cells (nums k xs).toArray e)) (some ⟨W.heap.size, 0, none⟩) xs.length xs := by
  refine ⟨rfl, hl, fun _ => ⟨_, rfl, fun j p hj => ⟨[.int k p], rfl, rfl, fun i u hu => ?_⟩⟩⟩
  cases i with
  | succ i => simp at hu
  | zero =>
    obtain rfl : Value.int k p = u := by simpa using hu
    have hsz : (Kd.int k).sz = 1 := rfl
    rw [hsz, Nat.mul_one, Nat.add_zero, add_plain, blk_cell (heap_alloc_new W _) j]
    obtain ⟨hjl, hp⟩ := List.getElem?_eq_some_iff.1 hj
    simp [nums, hjl, hp]
/-- The same where the row bears a mark (bytes of a constant). -/
theorem C_new_mark (W : World) (k : IntKind) (e : TypeId) (xs : List Int) (fr : Nat × Nat) (hl : xs.length ≤ 9223372036854775807) : (Kd.int k).C (W.alloc (.cells (nums k xs).toArray e fr)) (some ⟨W.heap.size, 0, none⟩) xs.length xs := by
  refine ⟨rfl, hl, fun _ => ⟨_, rfl, fun j p hj => ⟨[.int k p], rfl, rfl, fun i u hu => ?_⟩⟩⟩
  cases i with
  | succ i => simp at hu
  | zero =>
    obtain rfl : Value.int k p = u := by simpa using hu
    have hsz : (Kd.int k).sz = 1 := rfl
    rw [hsz, Nat.mul_one, Nat.add_zero, add_plain, cell_of_row _ _ j _ e fr (heap_alloc_new W _)]
    obtain ⟨hjl, hp⟩ := List.getElem?_eq_some_iff.1 hj
    simp [nums, hjl, hp]
/-- Bytes of a constant: the literal's row gets its mark; for the walk. -/
theorem bytes_const (w : World) (m : Nat) (C : Array Value) (n c : Nat) (hm : m = w.heap.size) :
    (convert 23 23 (.slice (some ⟨m, 0, none⟩) n c)).run Try.prog (w.alloc (.cells C 5)) = .ok (.slice (some ⟨m, 0, none⟩) n c) (w.alloc (.cells C 5 (C.size, C.size + 1))) := by
  subst hm
  exact Lib.run_convert_bytes_const (P := Try.prog) w 23 5 C n c Try.underlying23 Try.underlying5
theorem C_new_strs (W : World) (e : TypeId) (xs : List ByteArray) (hl : xs.length ≤ 9223372036854775807) : Kd.string.C (W.alloc (.cells (pw_strs xs).toArray e)) (some ⟨W.heap.size, 0, none⟩) xs.length xs := by
  refine ⟨rfl, hl, fun _ => ⟨_, rfl, fun j p hj => ⟨[.string p], rfl, rfl, fun i u hu => ?_⟩⟩⟩
  cases i with
  | succ i => simp at hu
  | zero =>
    obtain rfl : Value.string p = u := by simpa using hu
    have hsz : Kd.string.sz = 1 := rfl
    rw [hsz, Nat.mul_one, Nat.add_zero, add_plain, blk_cell (heap_alloc_new W _) j]
    obtain ⟨hjl, hp⟩ := List.getElem?_eq_some_iff.1 hj
    simp [pw_strs, hjl, hp]
theorem _root_.Go.Proofs.Ytnmidkjmflnolaa.Maps.MapIs.ne_own {P : Program} {k e : TypeId} {E : El} {w : World} {b n : Nat} {f : ByteArray → Option E.T} (h : MapIs P k e E w b n f) {α : Type} {d : Kd α} {t base : Nat} {ok : Nat → Prop} {v : Value} {xs : List α} (hr : d.R t w base ok v xs) : some b ≠ v.ownBlock := by
  intro he
  obtain ⟨_, inner, ho, _⟩ := hr
  obtain ⟨cells, hc⟩ := own_typed ho b he.symm
  obtain ⟨D, ⟨es, c, hh, _⟩, _⟩ := h
  rw [hc] at hh
  cases hh
theorem _root_.Go.Proofs.Ytnmidkjmflnolaa.Maps.MapIs.grown {P : Program} {k e : TypeId} {E : El} {w w1 : World} {b n : Nat} {f : ByteArray → Option E.T} (h : MapIs P k e E w b n f) {α : Type} {d : Kd α} {t base : Nat} {ok : Nat → Prop} {v : Value} {xs : List α} (hr : d.R t w base ok v xs) (hg : w.grownBy w1 v.ownBlock) : MapIs P k e E w1 b n f :=
  h.kept hg (h.ne_own hr)
theorem _root_.Go.Proofs.Ytnmidkjmflnolaa.Maps.MapIs.drewN {P : Program} {k e : TypeId} {E : El} {w : World} {b n : Nat} {f : ByteArray → Option E.T} (h : MapIs P k e E w b n f) (m : Nat) : MapIs P k e E (w.drewN m) b n f := h.kept (row := none) ⟨rfl, rfl, rfl, Nat.le_refl _, fun _ _ _ => rfl⟩ (by simp)
/-- A store into a map leaves the rows that are one's own. -/
theorem R_mapped {P : Program} {k e : TypeId} {E : El} {w w1 : World} {b n : Nat} {f : ByteArray → Option E.T} (h : MapIs P k e E w b n f) {α : Type} {d : Kd α} {t base : Nat} {ok : Nat → Prop} {v : Value} {xs : List α} (hr : d.R t w base ok v xs) (hg : w.grownBy w1 (some b)) : d.R t w1 base ok v xs := by
  refine Kd.R_mono (Kd.R_grown (Kd.R_bound hr) hg (fun j hj he => ?_)) (fun _ hk => hk.1)
  obtain ⟨_, _, _, q, _, cells, hc⟩ := hj
  injection he with he
  subst he
  obtain ⟨D, ⟨es, c, hh, _⟩, _⟩ := h
  rw [hc] at hh
  cases hh
end Go.Proofs.Ytnmidkjmflnolaa.P
