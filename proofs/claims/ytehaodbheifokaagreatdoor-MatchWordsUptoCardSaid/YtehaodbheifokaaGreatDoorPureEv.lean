/- Rounds: a call, and what follows; whole numbers that don't wrap. -/
import Derived.Test.YtehaodbheifokaaGreatDoorWWords
namespace Go.Proofs.YtehaodbheifokaaGreatDoor.Pure
open Go Go.RowKit Go.Proofs.YtehaodbheifokaaGreatDoorW.PrintWords
theorem Ev.call {α β : Type} {g f : Nat → Option β} {c : Nat → Option α} {a : α} {r : β} (hc : Ev c a) (hk : Ev f r) (h : ∀ k, c k = some a → g (k + 1) = f k) : Ev g r := by
  obtain ⟨K, hc⟩ := hc
  obtain ⟨K', hk⟩ := hk
  refine ⟨max K K' + 1, fun n hn => ?_⟩
  obtain ⟨m, rfl⟩ : ∃ m, n = m + 1 := ⟨n - 1, by omega⟩
  rw [h m (hc m (by omega))]
  exact hk m (by omega)
theorem Ev.call0 {α β : Type} {g f : Nat → Option β} {c : Nat → Option α} {a : α} {r : β} (hc : Ev c a) (hk : Ev f r) (h : ∀ k, c k = some a → g k = f k) : Ev g r := by
  obtain ⟨K, hc⟩ := hc
  obtain ⟨K', hk⟩ := hk
  refine ⟨max K K', fun n hn => ?_⟩
  rw [h n (hc n (by omega))]
  exact hk n (by omega)
theorem Ev.sb {α β : Type} {g : Nat → Option β} {c : Nat → Option α} {F : Nat → α → Option β} {a : α} {r : β} (hc : Ev c a) (h : ∀ k, g (k + 1) = (c k).bind (F k)) (hk : Ev (fun n => F n a) r) : Ev g r := Ev.step h (Ev.bind hc hk)
theorem Ev.cb {α β : Type} {g : Nat → Option β} {c : Nat → Option α} {F : Nat → α → Option β} {a : α} {r : β} (hc : Ev c a) (h : ∀ k, g k = (c k).bind (F k)) (hk : Ev (fun n => F n a) r) : Ev g r := Ev.congr h (Ev.bind hc hk)
theorem wrap_in {x : Int} (h0 : -9223372036854775808 ≤ x) (h1 : x ≤ 9223372036854775807) : wrap64 x = x := by unfold wrap64; omega
end Go.Proofs.YtehaodbheifokaaGreatDoor.Pure
