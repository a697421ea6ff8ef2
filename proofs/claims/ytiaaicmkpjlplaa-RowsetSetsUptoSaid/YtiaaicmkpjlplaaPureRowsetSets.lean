/- The plain law of RowsetSets. -/
import Derived.Test.YtiaaicmkpjlplaaPureJoinW
import Derived.Test.YtiaaicmkpjlplaaPureCount
import Derived.Test.YtiaaicmkpjlplaaPureBitsOf
import Derived.Test.YtiaaicmkpjlplaaPureAlive
import Derived.Test.YtiaaicmkpjlplaaRead
import Derived.Test.YtiaaicmkpjlplaaP6
namespace Go.Proofs.Ytiaaicmkpjlplaa.Pure
open Go Go.RowKit Go.Proofs.YtiaaicmkpjlplaaW.PrintWords Go.Proofs.YtiaaicmkpjlplaaW.PrintLast Go.Proofs.YtiaaicmkpjlplaaW.PrintMore Go.Proofs.Ytiaaicmkpjlplaa.P
set_option linter.unusedVariables false

theorem joinC_yes {op : BinOp} {n : Int} {W V : List Int} (h1 : IsSet n W) (h2 : IsSet n V) : joinC op n W n V = (n, joinW op W V, 0) := by
  unfold joinC
  rw [if_pos ⟨fm_iff.2 h1, fm_iff.2 h2, rfl⟩]
/-- Words with the same bits are the same. -/
theorem eq_bits {W V : List Int} (hW : okws W) (hV : okws V) (h : W.length = V.length) (k : ∀ j, bitAt W j = bitAt V j) : W = V := words_ext hW hV h (fun j _ => k j)
theorem sets_j1 (n : Int) (W V O : List Int) (p : Int) (U : List Int) (hW : okws W) (hV : okws V) (hU : okws U) (hO : O = joinW .or W V) (sW : IsSet n W) (sV : IsSet n V) (hm : U.length ≤ 100000000) :
    Ev (fun k => dragnetlaw09_RowsetSets.j1 k false n W n V p U n O) true := by
  have l1 : W.length ≤ 100000000 := by have := sW.2.2.1; have := sW.2.1; omega
  have hl : W.length = V.length := by rw [sW.2.2.1, sV.2.2.1]
  have oO : okws O := hO ▸ joinW_ok joins_or hW hV
  have sO : IsSet n O := hO ▸ set_is joins_or hW hV sW sV
  have l2 : O.length ≤ 100000000 := by have := sO.2.2.1; have := sO.2.1; omega
  obtain ⟨k1, e1⟩ := andW_ev n O p U oO hU l2 hm
  obtain ⟨k2, e2⟩ := andW_ev n W p U hW hU l1 hm
  obtain ⟨k3, e3⟩ := andW_ev n V p U hV hU (by omega) hm
  dsimp only at e1 e2 e3
  by_cases h : fm p U = true ∧ n = p
  · obtain ⟨h1, rfl⟩ := h
    have sU := fm_iff.1 h1
    rw [joinC_yes sO sU] at e1
    rw [joinC_yes sW sU] at e2
    rw [joinC_yes sV sU] at e3
    have oy := joinW_ok joins_and hW hU
    have oz := joinW_ok joins_and hV hU
    have sy := set_is joins_and hW hU sW sU
    have sz := set_is joins_and hV hU sV sU
    have ly : (joinW .and W U).length ≤ 100000000 := by have := sy.2.2.1; have := sy.2.1; omega
    have lz : (joinW .and V U).length ≤ 100000000 := by have := sz.2.2.1; have := sz.2.1; omega
    obtain ⟨k4, e4⟩ := orW_ev n _ n _ oy oz ly lz
    dsimp only at e4
    rw [joinC_yes sy sz] at e4
    have hWU : W.length = U.length := by rw [sW.2.2.1, sU.2.2.1]
    have key : joinW .and O U = joinW .or (joinW .and W U) (joinW .and V U) := by
      have hOU : O.length = U.length := by rw [sO.2.2.1, sU.2.2.1]
      refine eq_bits (joinW_ok joins_and oO hU) (joinW_ok joins_or oy oz) ?_ (fun j => ?_)
      · rw [joinW_len hOU, joinW_len (by rw [sy.2.2.1, sz.2.2.1]), joinW_len hWU, hOU, hWU]
      · rw [joinW_bit joins_and oO hU hOU, hO, joinW_bit joins_or hW hV hl, joinW_bit joins_or oy oz (by rw [sy.2.2.1, sz.2.2.1]), joinW_bit joins_and hW hU hWU, joinW_bit joins_and hV hU (by omega)]
        cases bitAt W j <;> cases bitAt V j <;> cases bitAt U j <;> rfl
    obtain ⟨k5, e5⟩ := same09 n n (joinW .and O U) (joinW .or (joinW .and W U) (joinW .and V U)) (by have := (set_is joins_and oO hU sO sU).2.2.1; have := sO.2.1; omega)
    dsimp only at e5
    rw [decide_eq_true ⟨rfl, key⟩] at e5
    refine ⟨k1 + k2 + k3 + k4 + k5 + 1, fun k hk => ?_⟩
    obtain ⟨m, rfl⟩ : ∃ m, k = m + 1 := ⟨k - 1, by omega⟩
    simp only [dragnetlaw09_RowsetSets.j1]
    rw [if_neg (by simp), e1 m (by omega), Option.bind_some, e2 m (by omega), Option.bind_some, e3 m (by omega), Option.bind_some, if_pos rfl, e4 m (by omega), Option.bind_some, if_pos rfl, if_pos rfl, if_pos rfl, e5 m (by omega), Option.bind_some]
  · rw [joinC_no (fun x => h ⟨x.2.1, x.2.2⟩)] at e1 e2 e3
    refine ⟨k1 + k2 + k3 + 1, fun k hk => ?_⟩
    obtain ⟨m, rfl⟩ : ∃ m, k = m + 1 := ⟨k - 1, by omega⟩
    simp only [dragnetlaw09_RowsetSets.j1]
    rw [if_neg (by simp), e1 m (by omega), Option.bind_some, e2 m (by omega), Option.bind_some, e3 m (by omega), Option.bind_some, if_neg (by simp), if_pos rfl]
    rfl
theorem RowsetSets : ∀ (x0_0 : Int) (x0_1 : List Int) (x1_0 : Int) (x1_1 : List Int) (x2_0 : Int) (x2_1 : List Int), ((Lit.int .i64 x0_0).wf = true) → (∀ x ∈ x0_1, (fun n => (Lit.int .u64 n).wf = true) x) → ((Lit.int .i64 x1_0).wf = true) → (∀ x ∈ x1_1, (fun n => (Lit.int .u64 n).wf = true) x) → ((Lit.int .i64 x2_0).wf = true) → (∀ x ∈ x2_1, (fun n => (Lit.int .u64 n).wf = true) x) → ((1) + (Read.sumBulk (fun _ => 1) x0_1 + 1) + 1) + ((1) + (Read.sumBulk (fun _ => 1) x1_1 + 1) + 1) + ((1) + (Read.sumBulk (fun _ => 1) x2_1 + 1) + 1) ≤ 1048576 → ∃ k, dragnetlaw09_RowsetSets.f k x0_0 x0_1 x1_0 x1_1 x2_0 x2_1 = some true := by
  intro n W m V p U _ wW _ wV _ wU hsum
  rw [Read.sum_one, Read.sum_one, Read.sum_one] at hsum
  have hW := wf_okws wW
  have hV := wf_okws wV
  have hU := wf_okws wU
  have hl : W.length ≤ 100000000 := by omega
  have hm : V.length ≤ 100000000 := by omega
  have hp : U.length ≤ 100000000 := by omega
  clear hsum wW wV wU
  obtain ⟨k0, h0⟩ := alive09
  obtain ⟨k1, h1⟩ := andW_ev n W m V hW hV hl hm
  obtain ⟨k2, h2⟩ := orW_ev n W m V hW hV hl hm
  obtain ⟨k3, h3⟩ := minusW_ev n W m V hW hV hl hm
  dsimp only at h0 h1 h2 h3
  by_cases h : fm n W = true ∧ fm m V = true ∧ n = m
  · obtain ⟨f1, f2, rfl⟩ := h
    have sW := fm_iff.1 f1
    have sV := fm_iff.1 f2
    have hlen : W.length = V.length := by rw [sW.2.2.1, sV.2.2.1]
    rw [joinC_yes sW sV] at h1 h2 h3
    have oA := joinW_ok joins_and hW hV
    have oM := joinW_ok joins_minus hW hV
    have oO := joinW_ok joins_or hW hV
    have sA := set_is joins_and hW hV sW sV
    have sM := set_is joins_minus hW hV sW sV
    have sO := set_is joins_or hW hV sW sV
    have big : ∀ X : List Int, IsSet n X → X.length ≤ 64 := fun X hX => by have := hX.2.2.1; have := hX.2.1; omega
    have lA := big _ sA
    have lM := big _ sM
    have lO := big _ sO
    obtain ⟨k4, h4⟩ := orW_ev n _ n _ oM oA (by omega) (by omega)
    obtain ⟨k5, h5⟩ := orW_ev n V n W hV hW hm hl
    dsimp only at h4 h5
    rw [joinC_yes sM sA] at h4
    rw [joinC_yes sV sW] at h5
    have w1 : joinW .or (joinW .andNot W V) (joinW .and W V) = W := by
      have e : (joinW .andNot W V).length = (joinW .and W V).length := by rw [joinW_len hlen, joinW_len hlen]
      refine eq_bits (joinW_ok joins_or oM oA) hW (by rw [joinW_len e, joinW_len hlen]) (fun j => ?_)
      rw [joinW_bit joins_or oM oA e, joinW_bit joins_minus hW hV hlen, joinW_bit joins_and hW hV hlen]
      cases bitAt W j <;> cases bitAt V j <;> rfl
    have w2 : joinW .or V W = joinW .or W V := by
      refine eq_bits (joinW_ok joins_or hV hW) oO (by rw [joinW_len hlen.symm, joinW_len hlen, hlen]) (fun j => ?_)
      rw [joinW_bit joins_or hV hW hlen.symm, joinW_bit joins_or hW hV hlen]
      exact Bool.or_comm _ _
    rw [w1] at h4
    rw [w2] at h5
    obtain ⟨k6, h6⟩ := same09 n n W W hl
    obtain ⟨k7, h7⟩ := same09 n n (joinW .or W V) (joinW .or W V) (by omega)
    dsimp only at h6 h7
    rw [decide_eq_true (by exact ⟨rfl, rfl⟩)] at h6 h7
    obtain ⟨k8, h8⟩ := count_ev n _ oA (by omega) (fm_iff.2 sA)
    obtain ⟨k9, h9⟩ := count_ev n _ oO (by omega) (fm_iff.2 sO)
    obtain ⟨k10, h10⟩ := count_ev n _ hW hl f1
    obtain ⟨k11, h11⟩ := count_ev n _ hV hm f2
    dsimp only at h8 h9 h10 h11
    have c := cnt_add hW hV hlen
    obtain ⟨k12, h12⟩ := sets_j1 n W V (joinW .or W V) p U hW hV hU rfl sW sV hp
    dsimp only at h12
    have hc : (wrap64 (((cnt (joinW .and W V) : Nat) : Int) + ((cnt (joinW .or W V) : Nat) : Int)) != wrap64 (((cnt W : Nat) : Int) + ((cnt V : Nat) : Int))) = false := by
      rw [show ((cnt (joinW .and W V) : Nat) : Int) + ((cnt (joinW .or W V) : Nat) : Int) = ((cnt W : Nat) : Int) + ((cnt V : Nat) : Int) by omega]
      simp
    refine ⟨k0 + k1 + k2 + k3 + k4 + k5 + k6 + k7 + k8 + k9 + k10 + k11 + k12 + 1, ?_⟩
    generalize hk : k0 + k1 + k2 + k3 + k4 + k5 + k6 + k7 + k8 + k9 + k10 + k11 + k12 = k
    unfold dragnetlaw09_RowsetSets.f
    rw [h0 (k + 1) (by omega), Option.bind_some, if_pos rfl, h1 (k + 1) (by omega), Option.bind_some, h3 (k + 1) (by omega), Option.bind_some, h2 (k + 1) (by omega), Option.bind_some, if_pos rfl, if_pos rfl]
    simp only [dragnetlaw09_RowsetSets.j0]
    rw [if_neg (by simp), h4 k (by omega), Option.bind_some, h5 k (by omega), Option.bind_some, if_pos rfl, if_pos rfl, h6 k (by omega), Option.bind_some, if_pos rfl, h7 k (by omega), Option.bind_some, if_pos rfl,
      h8 k (by omega), Option.bind_some, h9 k (by omega), Option.bind_some, h10 k (by omega), Option.bind_some, h11 k (by omega), Option.bind_some, hc, h12 k (by omega)]
  · rw [joinC_no h] at h1 h2 h3
    refine ⟨k0 + k1 + k2 + k3 + 1, ?_⟩
    generalize hk : k0 + k1 + k2 + k3 = k
    unfold dragnetlaw09_RowsetSets.f
    rw [h0 (k + 1) (by omega), Option.bind_some, if_pos rfl, h1 (k + 1) (by omega), Option.bind_some, h3 (k + 1) (by omega), Option.bind_some, h2 (k + 1) (by omega), Option.bind_some, if_neg (by simp)]
    simp only [dragnetlaw09_RowsetSets.j0]
    rw [if_pos trivial, if_pos trivial, if_pos trivial]
    have : rowset_Has.f 0 [] 0 = some false := by
      unfold rowset_Has.f
      rw [if_pos (by omega), if_neg (by omega)]
    rw [this]
    rfl
end Go.Proofs.Ytiaaicmkpjlplaa.Pure
