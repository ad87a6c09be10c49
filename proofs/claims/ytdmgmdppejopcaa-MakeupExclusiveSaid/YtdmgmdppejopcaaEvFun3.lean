/- A body's walk gives a contract: the call's end. -/
import Derived.Test.YtdmgmdppejopcaaEvFun2
set_option linter.unusedSimpArgs false
set_option linter.unusedVariables false
namespace Go.Ev

section
variable {cx cx' : Cx} {σ σ' : Nat → Value} {N N' : Nat → Prop} {m m' : Mem} {w w' : World} {P : Program} {T : Tab}

/-- One result variable. -/
theorem rv_one {n : Nat} {a : Act} {s : Slots} {m : Mem} (ht : TabOK P T) (h : RepF cx σ N (sget s) m n a w) (r : ResultVar) (hp : (rvE T s m r).pre) :
    ∃ v, repA (rx cx σ N m w) (rvE T s m r).r v ∧ (∀ t, r = .tmp t → v = a.tmps.getD t undef) ∧ (∀ b t, r = .cell b t → ∃ ad, a.tmps.getD b undef = .pointer (some ad) ∧ (loadVar t ad).run P w = .ok v w) := by
  cases r with
  | tmp t => exact ⟨_, h.ss t, (fun q e => by cases e; rfl), (fun b t e => by cases e)⟩
  | cell b t =>
    have hs := h.ss b
    simp only [rvE] at hp ⊢
    generalize sget s b = v at hs hp ⊢
    unfold rvL at hp ⊢
    split at hp
    · rename_i id off
      simp only [loadE] at hp ⊢
      split at hp
      · rename_i e cs hm
        split at hp
        · rename_i hle
          rw [if_pos hle]
          unfold repA repC at hs
          obtain ⟨hn, bl, e1, e2⟩ := hs
          have hb := h.mm.blk id
          rw [hm] at hb
          obtain ⟨b', vs, e3, e4, hcs, h1⟩ := hb
          simp only [rx] at e1 e3 e4
          rw [e1] at e3; simp at e3; subst e3
          have hlen := repCs_len _ _ hcs
          have htt := TI.of_ok ht t (TI_ne (by omega))
          have hd := repCs_take (TI.of T t).size _ _ (repCs_drop off _ _ hcs)
          refine ⟨_, avOf_rep hd (fun hg => by simp; have := htt.one hg; omega), (fun q e => by cases e), (fun b' t' e => ?_)⟩
          cases e
          refine ⟨_, e2, run_loadVar_cells htt (by simp; omega) (fun j u hu => ?_)⟩
          rw [cell_at e4]
          rw [List.getElem?_take] at hu
          split at hu
          · rwa [List.getElem?_drop] at hu
          · cases hu
        · exact hp.elim
      · exact hp.elim
    · exact hp.elim

def packV : List Value → Value
  | [v] => v
  | vs => .tuple vs.toArray

theorem rv_run {n : Nat} {a : Act} {s : Slots} {m : Mem} (ht : TabOK P T) (h : RepF cx σ N (sget s) m n a w) (fn : Func) (hp : rvP T s m fn.results.toList) (h4 : fn.results.size ≤ 4) :
    ∃ vs : List Value, vs.length = fn.results.size ∧ (results fn a.tmps).run P w = .ok (packV vs) w ∧ ∀ j v, (j, v) ∈ rvS T s m 0 fn.results.toList → j < vs.length ∧ repA (rx cx σ N m w) v (vs.getD j undef) := by
  have run1 : ∀ r : ResultVar, (rvE T s m r).pre → ∃ v, repA (rx cx σ N m w) (rvE T s m r).r v ∧ ((∃ t, r = .tmp t ∧ a.tmps[t]?.getD undef = v) ∨
      ∃ b t ad, r = .cell b t ∧ a.tmps[b]?.getD undef = .pointer (some ad) ∧ (loadVar t ad).run P w = .ok v w) := by
    intro r hr
    obtain ⟨v, h1, h2, h3⟩ := rv_one ht h r hr
    refine ⟨v, h1, ?_⟩
    cases r with
    | tmp t => exact .inl ⟨t, rfl, by rw [h2 t rfl, Array.getD_eq_getD_getElem?]⟩
    | cell b t =>
      obtain ⟨ad, e1, e2⟩ := h3 b t rfl
      rw [Array.getD_eq_getD_getElem?] at e1
      exact .inr ⟨b, t, ad, rfl, e1, e2⟩
  generalize hrs : fn.results = rs at *
  obtain ⟨l⟩ := rs
  simp only [List.size_toArray] at h4 ⊢
  match l, h4, hp with
  | [], _, _ => exact ⟨[], rfl, by simp [results, hrs, packV], fun j v hv => by simp [rvS] at hv⟩
  | [r1], _, ⟨p1, _⟩ =>
    obtain ⟨v1, q1, s1⟩ := run1 r1 p1
    refine ⟨[v1], rfl, ?_, fun j v hv => ?_⟩
    · rcases s1 with ⟨t1, rfl, e1⟩ | ⟨b1, t1, a1, rfl, e1, l1⟩ <;> simp [results, hrs, packV, asAddr, *]
    · simp [rvS] at hv; rw [hv.1, hv.2]; exact ⟨by simp, q1⟩
  | [r1, r2], _, ⟨p1, p2, _⟩ =>
    obtain ⟨v1, q1, s1⟩ := run1 r1 p1
    obtain ⟨v2, q2, s2⟩ := run1 r2 p2
    refine ⟨[v1, v2], rfl, ?_, fun j v hv => ?_⟩
    · rcases s1 with ⟨t1, rfl, e1⟩ | ⟨b1, t1, a1, rfl, e1, l1⟩ <;> rcases s2 with ⟨t2, rfl, e2⟩ | ⟨b2, t2, a2, rfl, e2, l2⟩ <;> simp [results, hrs, packV, asAddr, *]
    · simp [rvS] at hv
      rcases hv with ⟨e1, e2⟩ | ⟨e1, e2⟩ <;> rw [e1, e2]
      · exact ⟨by simp, q1⟩
      · exact ⟨by simp, q2⟩
  | [r1, r2, r3], _, ⟨p1, p2, p3, _⟩ =>
    obtain ⟨v1, q1, s1⟩ := run1 r1 p1
    obtain ⟨v2, q2, s2⟩ := run1 r2 p2
    obtain ⟨v3, q3, s3⟩ := run1 r3 p3
    refine ⟨[v1, v2, v3], rfl, ?_, fun j v hv => ?_⟩
    · rcases s1 with ⟨t1, rfl, e1⟩ | ⟨b1, t1, a1, rfl, e1, l1⟩ <;> rcases s2 with ⟨t2, rfl, e2⟩ | ⟨b2, t2, a2, rfl, e2, l2⟩ <;> rcases s3 with ⟨t3, rfl, e3⟩ | ⟨b3, t3, a3, rfl, e3, l3⟩ <;>
        simp [results, hrs, packV, asAddr, *]
    · simp [rvS] at hv
      rcases hv with ⟨e1, e2⟩ | ⟨e1, e2⟩ | ⟨e1, e2⟩ <;> rw [e1, e2]
      · exact ⟨by simp, q1⟩
      · exact ⟨by simp, q2⟩
      · exact ⟨by simp, q3⟩
  | [r1, r2, r3, r4], _, ⟨p1, p2, p3, p4, _⟩ =>
    obtain ⟨v1, q1, s1⟩ := run1 r1 p1
    obtain ⟨v2, q2, s2⟩ := run1 r2 p2
    obtain ⟨v3, q3, s3⟩ := run1 r3 p3
    obtain ⟨v4, q4, s4⟩ := run1 r4 p4
    refine ⟨[v1, v2, v3, v4], rfl, ?_, fun j v hv => ?_⟩
    · rcases s1 with ⟨t1, rfl, e1⟩ | ⟨b1, t1, a1, rfl, e1, l1⟩ <;> rcases s2 with ⟨t2, rfl, e2⟩ | ⟨b2, t2, a2, rfl, e2, l2⟩ <;> rcases s3 with ⟨t3, rfl, e3⟩ | ⟨b3, t3, a3, rfl, e3, l3⟩ <;>
        rcases s4 with ⟨t4, rfl, e4⟩ | ⟨b4, t4, a4, rfl, e4, l4⟩ <;> simp [results, hrs, packV, asAddr, *]
    · simp [rvS] at hv
      rcases hv with ⟨e1, e2⟩ | ⟨e1, e2⟩ | ⟨e1, e2⟩ | ⟨e1, e2⟩ <;> rw [e1, e2]
      · exact ⟨by simp, q1⟩
      · exact ⟨by simp, q2⟩
      · exact ⟨by simp, q3⟩
      · exact ⟨by simp, q4⟩

end
end Go.Ev
