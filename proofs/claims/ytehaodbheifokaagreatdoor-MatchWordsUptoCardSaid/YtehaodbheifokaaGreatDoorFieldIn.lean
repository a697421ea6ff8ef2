/- What the field layer asks of the world: the library's tables and variables as they were laid; strconv.Itoa, strings.Cut at a separator of one byte. -/
import Derived.Test.YtehaodbheifokaaGreatDoorShelf
import Derived.Test.YtehaodbheifokaaGreatDoorWWords
import Derived.Test.YtehaodbheifokaaGreatDoorWLast
import Derived.Lib.LaidTab
import Derived.Lib.SmallJoins
import Derived.Shelf.Unicode.DecodeSlow
namespace Go.Proofs.YtehaodbheifokaaGreatDoor.P
open Go Go.RowKit Go.Proofs.YtehaodbheifokaaGreatDoorW.PrintWords Go.Proofs.YtehaodbheifokaaGreatDoorW.PrintLast
set_option linter.unusedVariables false
set_option linter.unusedSimpArgs false

structure FieldIn (w : World) : Prop where
  pow : Lib.TabIs Tryz.prog w "internal/strconv.uint64pow10" .u64 Lib.pow10Tab
  syn : ∃ te pe, w.cell? ⟨4, 0, none⟩ = some (.iface te pe)
  rng : ∃ te pe, w.cell? ⟨5, 0, none⟩ = some (.iface te pe)
  max : ∃ m, w.cell? ⟨0, 0, none⟩ = some (.int .i64 m)
  utf : Lib.Utf8Tabs 2 3 w
theorem cell_up {w w' : World} (hb : Below w.heap.size w w') {p : Addr} {v : Value} (h : w.cell? p = some v) : w'.cell? p = some v := (hb.cell (World.block_lt_of_cell? w _ h)).trans h
theorem var_up {w w' : World} (hb : Below w.heap.size w w') {nm : String} {x : Array Value} (h : w.var? Tryz.prog nm = some x) : w'.var? Tryz.prog nm = some x := by
  unfold World.var? at h ⊢
  obtain ⟨g, hg, hx⟩ := Option.bind_eq_some_iff.1 h
  rw [hg, Option.bind_some]
  cases ho : w.heap[g]? with
  | none => rw [ho] at hx; cases hx
  | some o =>
    have hlt : g < w.heap.size := (Array.getElem?_eq_some_iff.1 ho).1
    rw [hb.block g hlt, ho]
    rw [ho] at hx
    exact hx
theorem FieldIn.below {w w' : World} (h : FieldIn w) (hb : Below w.heap.size w w') : FieldIn w' where
  pow := var_up hb h.pow
  syn := by obtain ⟨te, pe, e⟩ := h.syn; exact ⟨te, pe, cell_up hb e⟩
  rng := by obtain ⟨te, pe, e⟩ := h.rng; exact ⟨te, pe, cell_up hb e⟩
  max := by obtain ⟨m, e⟩ := h.max; exact ⟨m, cell_up hb e⟩
  utf := ⟨fun c hc => cell_up hb (h.utf.1 c hc), fun i hi => ⟨cell_up hb (h.utf.2 i hi).1, cell_up hb (h.utf.2 i hi).2⟩⟩
/-- A premise that stands aside, at a later world. -/
theorem FieldIn.go {w v W : World} (h : Aside0 (FieldIn w)) (B : Aside0 (Below w.heap.size w v))
    (s : Below w.heap.size w v → Below w.heap.size w W := by intro h_; repeat (first | (with_reducible first | exact h_ | apply below_alloc | apply pw_below_drewN | apply below_drew1 | refine below_set ?_ (Aside0.out (by assumption))) | exact h_)) : FieldIn W := h.out.below (s B.out)
def strconv_Itoa.f (n : Int) : Option ByteArray := if -9223372036854775808 ≤ n ∧ n ≤ 9223372036854775807 then some ⟨(Lib.itoa n).toArray⟩ else none
theorem below_grow (B : Nat) {w0 w : World} (os : Array Obj) (h : Below B w0 w) (hB : B ≤ w.heap.size) : Below B w0 (Go.Sort.grow w os) :=
  h.trans ⟨rfl, rfl, rfl, by simp [Go.Sort.grow], fun k hk => by simp only [Go.Sort.grow]; rw [Array.getElem?_append_left (by omega)]⟩
theorem strconv_Itoa.calls (n : Int) (r : ByteArray) (w : World) (h : strconv_Itoa.f n = some r) (hx : FieldIn w := by exact FieldIn.go (by assumption) (by assumption)) :
    Calls Tryz.prog 96 #[.int .i64 n] w fun e w' => e = .returned (.string r) ∧ Below w.heap.size w w' := by
  unfold strconv_Itoa.f at h
  by_cases hn : -9223372036854775808 ≤ n ∧ n ≤ 9223372036854775807
  case neg => rw [if_neg hn] at h; cases h
  rw [if_pos hn] at h
  obtain rfl := Option.some.inj h
  refine (Tryz.strconv_Itoa n hn.1 hn.2 w hx.pow).mono ?_
  rintro e w' ⟨rfl, k, os, rfl⟩
  exact ⟨rfl, below_grow _ _ (pw_below_drewN (Below.refl _ _) k) (by simp [World.drewN])⟩
end Go.Proofs.YtehaodbheifokaaGreatDoor.P
