/- The walk of a body is sound. -/
import Derived.Test.YtdmgmdppejopcaaEvEnt
set_option linter.unusedSimpArgs false
set_option linter.unusedVariables false
namespace Go.Ev

def Ex.to : Ex → Exit
  | .normal => .normal
  | .ret => .ret
  | .exit id => .exit id

section
variable {cx : Cx} {σ : Nat → Value} {N : Nat → Prop} {n : Nat} {P : Program} {T : Tab} {G : Env} {ks : Nat}

theorem sget_keepL (ks : Nat) : ∀ (s : Slots) (i : Nat), sget (keepL ks s) i = sget s i ∨ sget (keepL ks s) i = .one .undef
  | [], i => .inr rfl
  | (k, v) :: l, i => by
    simp only [keepL]
    by_cases e : k = i
    · subst e
      split
      · exact .inl (by simp [sget, getL])
      · rename_i hc
        refine .inr ?_
        clear v
        induction l with
        | nil => rfl
        | cons p l ih =>
          obtain ⟨j, u⟩ := p
          simp only [keepL]
          split
          · rename_i hj
            have : ¬ j = k := fun e => by subst e; exact hc hj
            simp only [sget, getL, if_neg this]; exact ih
          · exact ih
    · split
      · simp only [sget, getL, if_neg e]; exact sget_keepL ks l i
      · rw [show sget ((k, v) :: l) i = sget l i by simp only [sget, getL, if_neg e]]; exact sget_keepL ks l i

theorem RepF.keepL {s : Slots} {m : Mem} {a : Act} {w : World} (h : RepF cx σ N (sget s) m n a w) : RepF cx σ N (sget (Ev.keepL ks s)) m n a w := by
  refine ⟨h.mm, fun i => ?_, h.df, h.sz⟩
  rcases sget_keepL ks s i with e | e
  · rw [e]; exact h.ss i
  · rw [e]; unfold repA repC; trivial

theorem rounds_mono {c : Code} {Q : Exit → Act → World → Prop} : ∀ {k k' : Nat} {a : Act} {w : World}, k ≤ k' → Code.rounds P c Q k a w → Code.rounds P c Q k' a w
  | 0, _, _, _, _, h => h.elim
  | k + 1, 0, _, _, hl, _ => by omega
  | k + 1, k' + 1, a, w, hl, h => by
    rw [rounds_succ] at *
    exact Code.wp_mono (fun e a w q => by
      cases e <;> first
        | exact rounds_mono (by omega) q
        | exact q) h

theorem ev_sound (ht : TabOK P T) (hG : EnvOk P G) (hm : P.follows .mixedOrders = true) (hnp : cx.np ≤ 32) : ∀ (c : Code) (st : St) (K : Ex → St → Prop) (Q : Exit → Act → World → Prop) (a : Act) (w : World) (σ : Nat → Value),
    fineC n c = true → ev T G ks c st K → RepF cx σ (From st.fr) (sget st.s) (mem st.m) n a w →
    (∀ e st' a' w' σ', K e st' → RepF cx σ' (From st'.fr) (sget st'.s) (mem st'.m) n a' w' → Q e.to a' w') → c.wp P Q a w
  | .skip, st, K, Q, a, w, σ, _, hev, h, hK => wp_skip (hK .normal st a w σ hev h)
  | .ret, st, K, Q, a, w, σ, _, hev, h, hK => wp_ret (hK .ret st a w σ hev h)
  | .exit id, st, K, Q, a, w, σ, _, hev, h, hK => wp_exit (hK (.exit id) st a w σ hev h)
  | .region _ ops false, st, K, Q, a, w, σ, hf, hev, h, hK =>
    region_sound ht hG (fun o ho => List.all_eq_true.1 (by simpa [fineC] using hf) o ho) (fun s m a' w' σ' hk h' => hK .normal ⟨Ev.keepL ks s, m, st.fr + 32 * ops.size⟩ a' w' σ' hk h'.keepL) hev h
  | .region _ ops true, st, K, Q, a, w, σ, hf, hev, h, hK =>
    draw_sound (K := fun s m _ => K .normal ⟨Ev.keepL ks s, m, st.fr + 32 * ops.size⟩) ht hG hm (fun o ho => List.all_eq_true.1 (by simpa [fineC] using hf) o ho) (fun s m a' w' σ' tb hk h' => hK .normal ⟨Ev.keepL ks s, m, st.fr + 32 * ops.size⟩ a' w' σ' hk h'.keepL) hev h
  | .seq x y, st, K, Q, a, w, σ, hf, hev, h, hK => by
    simp only [fineC, Bool.and_eq_true] at hf
    refine wp_seq (ev_sound ht hG hm hnp x st _ _ a w σ hf.1 hev h (fun e st' a' w' σ' hk h' => ?_))
    cases e with
    | normal => exact ev_sound ht hG hm hnp y st' K Q a' w' σ' hf.2 hk h' hK
    | ret => exact hK .ret st' a' w' σ' hk h'
    | exit id => exact hK (.exit id) st' a' w' σ' hk h'
  | .cond c x y, st, K, Q, a, w, σ, hf, hev, h, hK => by
    simp only [fineC, Bool.and_eq_true] at hf
    have hc := opd_rep h hf.1.1
    simp only [ev] at hev
    split at hev
    · rename_i e he
      rw [he] at hc
      exact wp_cond_split (of_bool hc) (fun ht' => ev_sound ht hG hm hnp x st K Q a w σ hf.1.2 (hev.1 ht') h hK) (fun hf' => ev_sound ht hG hm hnp y st K Q a w σ hf.2 (hev.2 hf') h hK)
    · exact hev.elim
  | .block id b, st, K, Q, a, w, σ, hf, hev, h, hK => by
    simp only [fineC] at hf
    refine wp_block (ev_sound ht hG hm hnp b st _ _ a w σ hf hev h (fun e st' a' w' σ' hk h' => ?_))
    cases e with
    | normal => exact hK .normal st' a' w' σ' hk h'
    | ret => exact hK .ret st' a' w' σ' hk h'
    | exit j =>
      simp only at hk
      simp only [Ex.to, Exit.inBlock]
      split at hk
      · rename_i e; rw [if_pos e]; exact hK .normal st' a' w' σ' hk h'
      · rename_i e; rw [if_neg e]; exact hK (.exit j) st' a' w' σ' hk h'
  | .loop b, st, K, Q, a, w, σ, hf, hev, h, hK => by
    simp only [fineC] at hf
    obtain ⟨l, ⟨x, hx⟩, hround⟩ := hev
    obtain ⟨σ0, h0⟩ := h.ent hnp hx
    have key : ∀ (k : Nat) (x : l.X) (a : Act) (w : World) (σ : Nat → Value), l.mu x = k → RepF cx σ (From l.fr) (sget (l.s x)) (mem (l.m x)) n a w → Code.rounds P b Q (k + 1) a w := by
      intro k
      induction k using Nat.strongRecOn with
      | _ k ih =>
        intro x a w σ hx h
        refine ev_sound ht hG hm hnp b ⟨l.s x, l.m x, l.fr⟩ _ _ a w σ hf (hround x) h (fun e st' a' w' σ' hk h' => ?_)
        cases e with
        | normal =>
          obtain ⟨y, hy, hlt⟩ := hk
          obtain ⟨σ2, h2⟩ := h'.ent hnp hy
          have := ih (l.mu y) (by omega) y a' w' σ2 rfl h2
          simp only [Ex.to, Exit.then]
          exact rounds_mono (by omega) this
        | ret => exact hK .ret st' a' w' σ' hk h'
        | exit j => exact hK (.exit j) st' a' w' σ' hk h'
    exact wp_loop_rounds _ (key (l.mu x) x a w σ0 rfl h0)
  | .goto _, _, _, _, _, _, _, _, hev, _, _ => hev.elim
  | .label _, _, _, _, _, _, _, _, hev, _, _ => hev.elim
  | .refuse _, _, _, _, _, _, _, _, hev, _, _ => hev.elim
  | .scope _, _, _, _, _, _, _, _, hev, _, _ => hev.elim
  | .rangeFunc .., _, _, _, _, _, _, _, hev, _, _ => hev.elim

end
end Go.Ev
