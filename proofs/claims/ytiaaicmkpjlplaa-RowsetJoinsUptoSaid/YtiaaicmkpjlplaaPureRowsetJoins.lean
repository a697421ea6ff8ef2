/- The plain law of RowsetJoins. -/
import Derived.Test.YtiaaicmkpjlplaaPureJoin
import Derived.Test.YtiaaicmkpjlplaaPureAlive
import Derived.Test.YtiaaicmkpjlplaaRead
import Derived.Test.YtiaaicmkpjlplaaP9
namespace Go.Proofs.Ytiaaicmkpjlplaa.Pure
open Go Go.RowKit Go.Proofs.YtiaaicmkpjlplaaW.PrintWords Go.Proofs.YtiaaicmkpjlplaaW.PrintLast Go.Proofs.YtiaaicmkpjlplaaW.PrintMore Go.Proofs.Ytiaaicmkpjlplaa.P
set_option linter.unusedVariables false

theorem joinC_short (op : BinOp) (n : Int) (W : List Int) (m : Int) (V : List Int) (h : W.length ≤ 100000000) : (joinC op n W m V).2.1.length ≤ 100000000 := by
  unfold joinC
  split
  · unfold joinW
    simp only [List.length_zipWith]
    omega
  · exact Nat.zero_le _
theorem RowsetJoins : ∀ (x0_0 : Int) (x0_1 : List Int) (x1_0 : Int) (x1_1 : List Int), ((Lit.int .i64 x0_0).wf = true) → (∀ x ∈ x0_1, (fun n => (Lit.int .u64 n).wf = true) x) → ((Lit.int .i64 x1_0).wf = true) → (∀ x ∈ x1_1, (fun n => (Lit.int .u64 n).wf = true) x) → ((1) + (Read.sumBulk (fun _ => 1) x0_1 + 1) + 1) + ((1) + (Read.sumBulk (fun _ => 1) x1_1 + 1) + 1) ≤ 1048576 → ∃ k, dragnetlaw09_RowsetJoins.f k x0_0 x0_1 x1_0 x1_1 = some true := by
  intro n W m V _ wW _ wV hsum
  rw [Read.sum_one, Read.sum_one] at hsum
  have hW := wf_okws wW
  have hV := wf_okws wV
  have hl : W.length ≤ 100000000 := by omega
  have hm : V.length ≤ 100000000 := by omega
  obtain ⟨k0, h0⟩ := alive09
  obtain ⟨k1, h1⟩ := andW_ev n W m V hW hV hl hm
  obtain ⟨k2, h2⟩ := orW_ev n W m V hW hV hl hm
  obtain ⟨k3, h3⟩ := minusW_ev n W m V hW hV hl hm
  obtain ⟨k4, h4⟩ := joinR_ev 0 .and _ joins_and (.inl ⟨rfl, rfl⟩) n W m V hW hV hl hm
  obtain ⟨k5, h5⟩ := joinR_ev 1 .or _ joins_or (.inr (.inl ⟨rfl, rfl⟩)) n W m V hW hV hl hm
  obtain ⟨k6, h6⟩ := joinR_ev 2 .andNot _ joins_minus (.inr (.inr ⟨rfl, rfl⟩)) n W m V hW hV hl hm
  have q1 := joinC_short .and n W m V hl
  have q2 := joinC_short .or n W m V hl
  have q3 := joinC_short .andNot n W m V hl
  generalize joinC .and n W m V = a at h1 h4 q1
  generalize joinC .or n W m V = b at h2 h5 q2
  generalize joinC .andNot n W m V = c at h3 h6 q3
  have s1 := same09 a.1 a.1 a.2.1 a.2.1 q1
  have s2 := same09 b.1 b.1 b.2.1 b.2.1 q2
  have s3 := same09 c.1 c.1 c.2.1 c.2.1 q3
  have s4 := same09 n n W W hl
  have s5 := same09 m m V V hm
  rw [decide_eq_true (by exact ⟨rfl, rfl⟩)] at s1 s2 s3 s4 s5
  obtain ⟨k7, s1⟩ := s1
  obtain ⟨k8, s2⟩ := s2
  obtain ⟨k9, s3⟩ := s3
  obtain ⟨k10, s4⟩ := s4
  obtain ⟨k11, s5⟩ := s5
  dsimp only at h0 h1 h2 h3 h4 h5 h6 s1 s2 s3 s4 s5
  refine ⟨k0 + k1 + k2 + k3 + k4 + k5 + k6 + k7 + k8 + k9 + k10 + k11, ?_⟩
  generalize hk : k0 + k1 + k2 + k3 + k4 + k5 + k6 + k7 + k8 + k9 + k10 + k11 = k
  unfold dragnetlaw09_RowsetJoins.f
  rw [h0 k (by omega), Option.bind_some, if_pos rfl, copy_f n W hl, Option.bind_some, copy_f m V hm, Option.bind_some, h1 k (by omega), Option.bind_some, h2 k (by omega), Option.bind_some, h3 k (by omega), Option.bind_some, h4 k (by omega), Option.bind_some, h5 k (by omega), Option.bind_some, h6 k (by omega), Option.bind_some,
    s1 k (by omega), Option.bind_some, if_pos rfl, if_pos rfl, s2 k (by omega), Option.bind_some, if_pos rfl, if_pos rfl, s3 k (by omega), Option.bind_some, if_pos rfl, if_pos rfl, s4 k (by omega), Option.bind_some, if_pos rfl, s5 k (by omega), Option.bind_some]
end Go.Proofs.Ytiaaicmkpjlplaa.Pure
