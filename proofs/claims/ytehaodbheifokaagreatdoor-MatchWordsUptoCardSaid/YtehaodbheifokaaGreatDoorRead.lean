/- Arguments as they come in: what the form reads at a type is read by the words of the walks (Kd.K), with what is known of its size. -/
import Derived.Test.YtehaodbheifokaaGreatDoorRows
import Derived.Test.YtehaodbheifokaaGreatDoorWWords
import Derived.Test.YtehaodbheifokaaGreatDoorWLast
import Derived.Deep.Slices
import Derived.ChangeArms
import Derived.Lib.SmallJoins
namespace Go.Proofs.YtehaodbheifokaaGreatDoor.Read
open Go Go.RowKit Go.ChangeShapes Go.WideShapes Go.Deep Go.Proofs.YtehaodbheifokaaGreatDoorW.PrintWords

/-- Type t is read by d: every value that the form reads at t is one, 'ok' holds of it, and it is no bulkier than what was read. -/
structure Reads {α : Type} (P : Program) (t : TypeId) (d : Kd α) (ok : α → Prop) (bulk : α → Nat) : Prop where
  cells : P.cellsOf t = d.sz
  opens : ∀ {H : Type} {enc : TypeId × Value → H} {w : World} {base : Nat} {spare : Nat → Bool} {held : Bool} {fuel : Nat} {cs : List Value} {x : DataW H × List MemPlace},
    DataW.trod enc P w base spare held fuel t cs = some x → ∃ a, d.K w a cs ∧ ok a ∧ bulk a ≤ Rows.uptoBulk x.1

variable {P : Program} {t e : TypeId}

theorem reads_int {k : IntKind} (ht : P.underlying t = some (.int k)) (hc : P.cellsOf t = 1) : Reads P t (Kd.int k) (fun n => (Lit.int k n).wf = true) (fun _ => 1) :=
  ⟨hc, fun h => by
    obtain ⟨n, rfl, rfl, hw⟩ := DataW.trod_int ht h
    exact ⟨n, rfl, hw, by simp [Rows.uptoBulk]⟩⟩
theorem reads_bool (ht : P.underlying t = some .bool) (hc : P.cellsOf t = 1) : Reads P t Kd.bool (fun _ => True) (fun _ => 1) :=
  ⟨hc, fun h => by
    obtain ⟨b, rfl, rfl⟩ := DataW.trod_bool ht h
    exact ⟨b, rfl, trivial, by simp [Rows.uptoBulk]⟩⟩
theorem reads_string (ht : P.underlying t = some .string) (hc : P.cellsOf t = 1) : Reads P t Kd.string (fun s => s.size ≤ maxLen) (fun s => s.size + 1) :=
  ⟨hc, fun h => by
    obtain ⟨s, rfl, rfl, hs⟩ := DataW.trod_string ht h
    exact ⟨s, rfl, hs, by simp only [Rows.uptoBulk, Array.length_toList]; exact Nat.le_refl _⟩⟩

theorem bulkAll_append {H : Type} (l r : List (DataW H)) : Rows.uptoBulkAll (l ++ r) = Rows.uptoBulkAll l + Rows.uptoBulkAll r := by
  induction l with
  | nil => simp [Rows.uptoBulkAll]
  | cons x l ih => simp only [List.cons_append, Rows.uptoBulkAll, ih]; omega
def sumBulk {α : Type} (bulk : α → Nat) : List α → Nat
  | [] => 0
  | x :: r => bulk x + sumBulk bulk r
theorem sumBulk_append {α : Type} (bulk : α → Nat) (l r : List α) : sumBulk bulk (l ++ r) = sumBulk bulk l + sumBulk bulk r := by
  induction l with
  | nil => simp [sumBulk]
  | cons x l ih => simp only [List.cons_append, sumBulk, ih]; omega

theorem reads_slice {α : Type} {d : Kd α} {ok : α → Prop} {bulk : α → Nat} [Inhabited α] (ht : P.underlying t = some (.slice e)) (hc : P.cellsOf t = 1) (he : Reads P e d ok bulk) :
    Reads P t (Kd.slice e d) (fun xs => ∀ x ∈ xs, ok x) (fun xs => sumBulk bulk xs + 1) :=
  ⟨hc, fun {H enc w base spare held fuel cs x} h => by
    rcases open_slice ht h with ⟨rfl, rfl⟩ | ⟨a, len, cap, m, n, D, Pl, rfl, hb, hl, hm, hmm, rfl, hx⟩
    · refine ⟨[], ⟨none, 0, rfl, Nat.le_refl _, Kd.C_nil d w⟩, by simp, by simp [sumBulk, Rows.uptoBulk]⟩
    · have hlm : len ≤ m := by rw [hmm]; split <;> omega
      obtain ⟨F, hF⟩ := choose_lt (α := α) (p := fun i y => ∃ cs', w.cells? base (a.add (i * P.cellsOf e)) (P.cellsOf e) = some cs' ∧ d.K w y cs' ∧ ok y ∧ bulk y ≤ Rows.uptoBulk (D i)) (n := len) (fun i hi => by
        obtain ⟨cs', h1, h2⟩ := hx i (by omega)
        obtain ⟨y, hk, ho, hbk⟩ := he.opens h2
        exact ⟨y, cs', h1, hk, ho, hbk⟩)
      have hlen : ((List.range len).map F).length = len := by simp
      refine ⟨(List.range len).map F, ⟨some a, cap, by rw [hlen], by rw [hlen]; exact hl, rfl, by rw [hlen]; unfold maxLen at hm; omega, fun _ => ⟨a, rfl, fun j p hj => ?_⟩⟩, ?_, ?_⟩
      · have hjl : j < len := by have := (List.getElem?_eq_some_iff.1 hj).1; rw [hlen] at this; exact this
        have hp : F j = p := by
          rw [List.getElem?_map, List.getElem?_range hjl] at hj
          exact Option.some.inj hj
        subst hp
        obtain ⟨cs', h1, hk, _⟩ := hF j hjl
        refine ⟨cs', d.K_len hk, hk, fun i u hu => ?_⟩
        obtain ⟨_, hlen', hget⟩ := World.cells?_some h1
        have hi : i < cs'.length := (List.getElem?_eq_some_iff.1 hu).1
        have := hget i (by omega)
        rw [hu] at this
        rw [Deep.add_add, he.cells] at this
        exact this
      · intro x hx'
        obtain ⟨i, hi, rfl⟩ := List.mem_map.1 hx'
        exact (hF i (List.mem_range.1 hi)).choose_spec.2.2.1
      · have key : ∀ l : List Nat, (∀ i ∈ l, i < len) → sumBulk bulk (l.map F) ≤ Rows.uptoBulkAll (l.map D) := by
          intro l
          induction l with
          | nil => intro _; simp [sumBulk, Rows.uptoBulkAll]
          | cons i l ih =>
            intro hl'
            have h1 := (hF i (hl' i (by simp))).choose_spec.2.2.2
            have h2 := ih (fun j hj => hl' j (by simp [hj]))
            simp only [List.map_cons, sumBulk, Rows.uptoBulkAll]
            omega
        have := key (List.range len) (fun i hi => List.mem_range.1 hi)
        simp only [Rows.uptoBulk]
        omega⟩

/-- What a slice that came in is, for a contract: its value and the row that it leads to. -/
theorem slice_arg {α : Type} {d : Kd α} {w : World} {xs : List α} {v : Value} (h : (Kd.slice e d).K w xs v.cells.toList) (hv : ∃ A n c, v = .slice A n c) :
    ∃ A c, v = .slice A xs.length c ∧ xs.length ≤ c ∧ d.C w A xs.length xs := by
  obtain ⟨A, n, c, rfl⟩ := hv
  obtain ⟨A', c', he, hl, hr⟩ := h
  simp [Value.cells] at he
  obtain ⟨rfl, rfl, rfl⟩ := he
  exact ⟨A, c, rfl, hl, hr⟩
theorem int_cell {k : IntKind} {w : World} {n : Int} {v : Value} (h : (Kd.int k).K w n [v]) : v = .int k n := List.head_eq_of_cons_eq h
theorem slice_cell {α : Type} {d : Kd α} {w : World} {xs : List α} {v : Value} (h : (Kd.slice e d).K w xs [v]) : ∃ A c, v = .slice A xs.length c ∧ xs.length ≤ c ∧ d.C w A xs.length xs := by
  obtain ⟨A', c', he, hl, hr⟩ := h
  exact ⟨A', c', List.head_eq_of_cons_eq he, hl, hr⟩
/-- A struct of two fields of one cell, by value, that came in. -/
theorem agg2_arg {H : Type} {enc : TypeId × Value → H} {w : World} {base : Nat} {spare : Nat → Bool} {held : Bool} {r : Reach} {b0 : Nat} {f0 f1 : Field} {v : Value} {x : DataW H} {p : List MemPlace} {α β : Type} {d0 : Kd α} {d1 : Kd β} {ok0 : α → Prop} {ok1 : β → Prop} {bulk0 : α → Nat} {bulk1 : β → Nat}
    (hs : P.underlying t = some (.struct #[f0, f1])) (hone : oneCellFields P #[f0, f1] = true) (hC : P.cellsOf t = 2) (hv : Value.okWide P w r b0 t v) (h : DataW.Trod enc P w base spare held t v x p) (R0 : Reads P f0.type d0 ok0 bulk0) (R1 : Reads P f1.type d1 ok1 bulk1) :
    ∃ v0 v1 a b, v = .agg #[v0, v1] ∧ d0.K w a [v0] ∧ d1.K w b [v1] ∧ ok0 a ∧ ok1 b ∧ bulk0 a + bulk1 b + 1 ≤ Rows.uptoBulk x := by
  obtain ⟨v0, v1, y0, y1, n, rfl, rfl, rfl, h0, h1⟩ := Go.Joins.open_agg2 hs hone hC hv h
  obtain ⟨a, ka, oa, ba⟩ := R0.opens h0
  obtain ⟨b, kb, ob, bb⟩ := R1.opens h1
  refine ⟨v0, v1, a, b, rfl, ka, kb, oa, ob, ?_⟩
  simp only [Rows.uptoBulk, Rows.uptoBulkAll]
  omega
/-- A struct of three fields of one cell, by value, that came in. -/
theorem agg3_arg {H : Type} {enc : TypeId × Value → H} {w : World} {base : Nat} {spare : Nat → Bool} {held : Bool} {r : Reach} {b0 : Nat} {f0 f1 f2 : Field} {v : Value} {x : DataW H} {p : List MemPlace} {α β γ : Type} {d0 : Kd α} {d1 : Kd β} {d2 : Kd γ} {ok0 : α → Prop} {ok1 : β → Prop} {ok2 : γ → Prop} {bulk0 : α → Nat} {bulk1 : β → Nat} {bulk2 : γ → Nat}
    (hs : P.underlying t = some (.struct #[f0, f1, f2])) (hone : oneCellFields P #[f0, f1, f2] = true) (hC : P.cellsOf t = 3) (hv : Value.okWide P w r b0 t v) (h : DataW.Trod enc P w base spare held t v x p) (R0 : Reads P f0.type d0 ok0 bulk0) (R1 : Reads P f1.type d1 ok1 bulk1) (R2 : Reads P f2.type d2 ok2 bulk2) :
    ∃ v0 v1 v2 a b c, v = .agg #[v0, v1, v2] ∧ d0.K w a [v0] ∧ d1.K w b [v1] ∧ d2.K w c [v2] ∧ ok0 a ∧ ok1 b ∧ ok2 c ∧ bulk0 a + bulk1 b + bulk2 c + 1 ≤ Rows.uptoBulk x := by
  obtain ⟨v0, v1, v2, y0, y1, y2, n, rfl, rfl, rfl, h0, h1, h2⟩ := Go.Joins.open_agg3 hs hone hC hv h
  obtain ⟨a, ka, oa, ba⟩ := R0.opens h0
  obtain ⟨b, kb, ob, bb⟩ := R1.opens h1
  obtain ⟨c, kc, oc, bc⟩ := R2.opens h2
  refine ⟨v0, v1, v2, a, b, c, rfl, ka, kb, kc, oa, ob, oc, ?_⟩
  simp only [Rows.uptoBulk, Rows.uptoBulkAll]
  omega
/-- A struct of four fields of one cell, by value, that came in. -/
theorem agg4_arg {H : Type} {enc : TypeId × Value → H} {w : World} {base : Nat} {spare : Nat → Bool} {held : Bool} {r : Reach} {b0 : Nat} {f0 f1 f2 f3 : Field} {v : Value} {x : DataW H} {p : List MemPlace} {α β γ δ : Type} {d0 : Kd α} {d1 : Kd β} {d2 : Kd γ} {d3 : Kd δ} {ok0 : α → Prop} {ok1 : β → Prop} {ok2 : γ → Prop} {ok3 : δ → Prop} {bulk0 : α → Nat} {bulk1 : β → Nat} {bulk2 : γ → Nat} {bulk3 : δ → Nat}
    (hs : P.underlying t = some (.struct #[f0, f1, f2, f3])) (hone : oneCellFields P #[f0, f1, f2, f3] = true) (hC : P.cellsOf t = 4) (hv : Value.okWide P w r b0 t v) (h : DataW.Trod enc P w base spare held t v x p) (R0 : Reads P f0.type d0 ok0 bulk0) (R1 : Reads P f1.type d1 ok1 bulk1) (R2 : Reads P f2.type d2 ok2 bulk2) (R3 : Reads P f3.type d3 ok3 bulk3) :
    ∃ v0 v1 v2 v3 a b c d, v = .agg #[v0, v1, v2, v3] ∧ d0.K w a [v0] ∧ d1.K w b [v1] ∧ d2.K w c [v2] ∧ d3.K w d [v3] ∧ ok0 a ∧ ok1 b ∧ ok2 c ∧ ok3 d ∧ bulk0 a + bulk1 b + bulk2 c + bulk3 d + 1 ≤ Rows.uptoBulk x := by
  obtain ⟨v0, v1, v2, v3, y0, y1, y2, y3, n, rfl, rfl, rfl, h0, h1, h2, h3⟩ := Go.Joins.open_agg4 hs hone hC hv h
  obtain ⟨a, ka, oa, ba⟩ := R0.opens h0
  obtain ⟨b, kb, ob, bb⟩ := R1.opens h1
  obtain ⟨c, kc, oc, bc⟩ := R2.opens h2
  obtain ⟨d, kd, od, bd⟩ := R3.opens h3
  refine ⟨v0, v1, v2, v3, a, b, c, d, rfl, ka, kb, kc, kd, oa, ob, oc, od, ?_⟩
  simp only [Rows.uptoBulk, Rows.uptoBulkAll]
  omega
theorem string_cell {w : World} {s : ByteArray} {v : Value} (h : Kd.string.K w s [v]) : v = .string s := List.head_eq_of_cons_eq h
theorem sum_one {α : Type} (l : List α) : sumBulk (fun _ => 1) l = l.length := by
  induction l with
  | nil => rfl
  | cons x l ih => simp only [sumBulk, ih, List.length_cons]; omega
theorem sum_len {α : Type} (f : α → Nat) (h : ∀ x, 1 ≤ f x) (l : List α) : l.length ≤ sumBulk f l := by
  induction l with
  | nil => exact Nat.le_refl _
  | cons x l ih => simp only [sumBulk, List.length_cons]; have := h x; omega

end Go.Proofs.YtehaodbheifokaaGreatDoor.Read
