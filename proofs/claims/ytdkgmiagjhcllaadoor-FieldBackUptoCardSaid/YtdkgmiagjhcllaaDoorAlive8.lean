/- alive of chapter 08: a fixed fact. -/
import Derived.Test.YtdkgmiagjhcllaaDoorRead0
import Derived.Lib.SlBytesConst
import Derived.Test.YtdkgmiagjhcllaaDoorP1
namespace Go.Proofs.YtdkgmiagjhcllaaDoor.P
open Go Go.RowKit Go.Proofs.YtdkgmiagjhcllaaDoorW.PrintWords Go.Proofs.YtdkgmiagjhcllaaDoorW.PrintLast
set_option linter.unusedVariables false
set_option linter.unusedSimpArgs false

def msLine : List Int := [109, 115, 61, 49, 50, 48, 32, 117, 115, 101, 114, 61, 97, 110, 110]
def msFields : List S28 := [⟨⟨#[109, 115]⟩, 1, 120, ⟨#[]⟩⟩, ⟨⟨#[117, 115, 101, 114]⟩, 2, 0, ⟨#[97, 110, 110]⟩⟩]
set_option maxRecDepth 100000 in
theorem ms_read : field_Read.f msLine = some msFields := by kernel_rfl
theorem own_cells {w : World} {base : Nat} {e : TypeId} {size n : Nat} {v : Value} {xs : List Value} (h : w.ownsRow base e size v n xs) (hn : 0 < n) : ∃ g cap, v = .slice (some ⟨g, 0, none⟩) n cap ∧ ∀ (i : Nat) u, xs[i]? = some u → w.cell? ⟨g, i, none⟩ = some u := by
  rcases h.2 with ⟨_, h0⟩ | ⟨g, cap, cur, rfl, _, hg, _, _, _, htake⟩
  · omega
  · refine ⟨g, cap, rfl, fun i u hu => ?_⟩
    rw [blk_cell hg]
    rw [← htake] at hu
    have hlt := (List.getElem?_eq_some_iff.1 hu).1
    rw [List.length_take] at hlt
    rw [List.getElem?_take_of_lt (by omega)] at hu
    simpa using hu
def dragnetlaw08_alive.f : Option Bool := some true
set_option maxHeartbeats 8000000 in
set_option maxRecDepth 100000 in
theorem dragnetlaw08_alive.calls (r : Bool) (w : World) (h : dragnetlaw08_alive.f = some r) (hx : FieldIn w := by exact FieldIn.go (by assumption) (by assumption)) :
    Calls Tryd.prog 9 #[] w fun e w' => e = .returned (.bool r) ∧ Below w.heap.size w w' := by
  obtain rfl : true = r := Option.some.inj h
  obtain ⟨C, hC⟩ : ∃ C : Array Value, C = #[.int .u8 109, .int .u8 115, .int .u8 61, .int .u8 49, .int .u8 50, .int .u8 48, .int .u8 32, .int .u8 117, .int .u8 115, .int .u8 101, .int .u8 114, .int .u8 61, .int .u8 97, .int .u8 110, .int .u8 110] := ⟨_, rfl⟩
  have kc := Lib.run_convert_bytes_const (P := Tryd.prog) w 24 5 C 15 15 Tryd.underlying24 Tryd.underlying5
  have hb : Below w.heap.size w (w.alloc (.cells C 5 (C.size, C.size + 1))) := (Below.refl _ _).alloc (Nat.le_refl _) _
  have hR : Kd.C (Kd.int .u8) (w.alloc (.cells C 5 (C.size, C.size + 1))) (some ⟨w.heap.size, 0, none⟩) 15 msLine := by
    have hC2 : C = (msLine.map (Value.int .u8)).toArray := by rw [hC]; rfl
    refine ⟨rfl, by omega, fun _ => ⟨⟨w.heap.size, 0, none⟩, rfl, fun j p hj => ⟨[.int .u8 p], rfl, rfl, fun i u hi => ?_⟩⟩⟩
    obtain ⟨rfl, rfl⟩ : i = 0 ∧ u = .int .u8 p := by
      cases i with
      | zero => simp at hi; exact ⟨rfl, hi.symm⟩
      | succ i => simp at hi
    show _ = _
    rw [WideShapes.add_plain, show 0 + (j * (Kd.int .u8).sz + 0) = j by show 0 + (j * 1 + 0) = j; omega, World.cell?_alloc_mark, hC2]
    simp [hj]
  rw [hC] at kc hb hR
  clear hC
  have hcall := (callsIn_wide (n := 3)).1 (read_in 3 (by omega) (some ⟨w.heap.size, 0, none⟩) 15 (Lib.bytesOf msLine) (by decide) (by decide) _ (hx.below hb) (bytesAt_of hR (by decide)) (fun x hx => List.all_eq_true.1 (show (wordsL (Lib.bytesOf msLine)).all okWord = true by kernel_rfl) x hx))
  rw [show rdSt (wordsL (Lib.bytesOf msLine)) = msFields by kernel_rfl] at hcall
  have HC := Aside0.mk hcall
  have HB := Aside0.mk hb
  clear hcall hb hR hx
  go_enter Tryd.func9, Tryd.ntmps9
  go_wp2_with (go_at_call 13; refine HC.out.mono ?_; rintro e w1 ⟨v, rfl, ho, hb1⟩; have HB1 := Aside0.mk hb1; clear hb1; obtain ⟨g, cap, rfl, hcell⟩ := own_cells ho (by decide); have c0 := hcell 0 _ rfl; have c1 := hcell 1 _ rfl; have c2 := hcell 2 _ rfl; have c3 := hcell 3 _ rfl; have c4 := hcell 4 _ rfl; have c5 := hcell 5 _ rfl; have c6 := hcell 6 _ rfl; have c7 := hcell 7 _ rfl; clear hcell ho)
  go_ret
  exact ⟨rfl, HB.out.trans (HB1.out.mono HB.out.size)⟩
end Go.Proofs.YtdkgmiagjhcllaaDoor.P
