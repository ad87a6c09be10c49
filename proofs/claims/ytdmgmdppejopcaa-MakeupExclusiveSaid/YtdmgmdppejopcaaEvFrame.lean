/- A part of what is owned, alone; and back. -/
import Derived.Test.YtdmgmdppejopcaaEvOps12
set_option linter.unusedSimpArgs false
set_option linter.unusedVariables false
namespace Go.Ev

section
variable {cx : Cx} {σ : Nat → Value} {N : Nat → Prop} {m : Mem} {w : World}

/-- The context in which the ids S alone are owned. -/
def sub (cx : Cx) (σ : Nat → Value) (m : Mem) (w : World) (S : List Nat) : Cx :=
  ⟨w, fun b => cx.F b ∨ ∃ id, S.contains id = false ∧ own (m id) = true ∧ blkOf (σ id) = some b, fun b => ∃ id, S.contains id = true ∧ own (m id) = true ∧ blkOf (σ id) = some b, cx.np, cx.arg⟩

theorem owned_sub (S : List Nat) (b : Nat) : Owned (sub cx σ m w S) σ (restr S m) b ↔ Owned cx σ m b := by
  unfold Owned sub restr
  constructor
  · rintro ((h | ⟨id, h1, h2, h3⟩) | ⟨id, h1, h2⟩)
    · exact .inl h
    · exact .inr ⟨id, h2, h3⟩
    · by_cases hs : S.contains id = true
      · rw [if_pos hs] at h1; exact .inr ⟨id, h1, h2⟩
      · rw [if_neg hs] at h1; cases h1
  · rintro (h | ⟨id, h1, h2⟩)
    · exact .inl (.inl h)
    · by_cases hs : S.contains id = true
      · exact .inr ⟨id, by rw [if_pos hs]; exact h1, h2⟩
      · exact .inl (.inr ⟨id, by simpa using hs, h1, h2⟩)

theorem keeps_sub (S : List Nat) : Rx.Keeps (rx cx σ N m w) (rx (sub cx σ m w S) σ N (restr S m) w) :=
  ⟨⟨fun b _ ho => ⟨fun h => ho ((owned_sub S b).1 h), rfl⟩⟩, fun _ _ => rfl, fun _ h => h⟩

theorem RepM.sub (h : RepM cx σ N m w) (S : List Nat) : RepM (sub cx σ m w S) σ N (restr S m) w := by
  have own_r : ∀ id, own (restr S m id) = true → S.contains id = true ∧ own (m id) = true := by
    intro id ho
    unfold restr at ho
    split at ho
    · rename_i hs; exact ⟨hs, ho⟩
    · cases ho
  refine ⟨fun id => ?_, fun id hn => ?_, fun id id' b ho ho' => ?_, fun id b ho hb => ?_, fun id b ho hb => ?_, ⟨rfl, rfl, rfl, Nat.le_refl _, Nat.le_refl _, fun _ _ _ => rfl⟩, fun b hb => ?_, h.hone, h.fix⟩
  · unfold restr
    split
    · by_cases hn : N id
      · rw [h.fresh id hn]; trivial
      · exact repB_keep (keeps_sub S) hn _ (h.blk id) (fun _ _ _ => rfl)
    · trivial
  · unfold restr; split
    · exact h.fresh id hn
    · rfl
  · exact h.inj id id' b (own_r id ho).2 (own_r id' ho').2
  · rintro (hf | ⟨i, h1, h2, h3⟩)
    · exact h.notF id b (own_r id ho).2 hb hf
    · have := h.inj id i b (own_r id ho).2 h2 hb h3
      subst this
      rw [(own_r id ho).1] at h1; cases h1
  · exact .inr ⟨id, (own_r id ho).1, (own_r id ho).2, hb⟩
  · rcases hb with hf | ⟨id, _, h2, h3⟩
    · exact h.hF b hf
    · exact repB_lt (h.blk id) h2 b h3

/-- Back: what was not touched stands as it stood. -/
theorem RepM.glue (h : RepM cx σ N m w) (S : List Nat) {σ' : Nat → Value} {N' : Nat → Prop} {m' : Mem} {w' : World} (h' : RepM (Ev.sub cx σ m w S) σ' N' m' w') (k : Rx.Keeps (rx (Ev.sub cx σ m w S) σ N (restr S m) w) (rx (Ev.sub cx σ m w S) σ' N' m' w'))
    (hm' : ∀ id, S.contains id = false → ¬ N id → m' id = .dead) (M : Mem) (hin : ∀ id, S.contains id = true → M id = m' id) (hnew : ∀ id, N id → M id = m' id) (hout : ∀ id, S.contains id = false → ¬ N id → M id = m id) :
    RepM cx σ' N' M w' ∧ Rx.Keeps (rx cx σ N m w) (rx cx σ' N' M w') ∧ Rx.Keeps (rx (Ev.sub cx σ m w S) σ' N' m' w') (rx cx σ' N' M w') := by
  have hσ : ∀ id, ¬ N id → σ' id = σ id := k.σ
  have part : ∀ id, own (M id) = true → (own (m' id) = true ∧ M id = m' id) ∨ (S.contains id = false ∧ ¬ N id ∧ own (m id) = true ∧ M id = m id ∧ σ' id = σ id) := by
    intro id ho
    by_cases hn : N id
    · have e := hnew id hn; rw [e] at ho; exact .inl ⟨ho, e⟩
    · by_cases hs : S.contains id = true
      · have e := hin id hs; rw [e] at ho; exact .inl ⟨ho, e⟩
      · have hs' : S.contains id = false := by simpa using hs
        have e := hout id hs' hn; rw [e] at ho; exact .inr ⟨hs', hn, ho, e, hσ id hn⟩
  have old_same : ∀ id b, S.contains id = false → own (m id) = true → blkOf (σ id) = some b → w'.heap[b]? = w.heap[b]? := by
    intro id b hs ho hb
    refine h'.evo.block b (repB_lt (h.blk id) ho b hb) ?_
    rintro ⟨i, h1, h2, h3⟩
    have := h.inj id i b ho h2 hb h3
    subst this
    rw [hs] at h1; cases h1
  have hO : ∀ b, Owned cx σ' M b ↔ Owned (Ev.sub cx σ m w S) σ' m' b := by
    intro b
    constructor
    · rintro (hf | ⟨id, ho, hb⟩)
      · exact .inl (.inl hf)
      · rcases part id ho with ⟨h1, h2⟩ | ⟨h1, h2, h3, h4, h5⟩
        · exact .inr ⟨id, h1, hb⟩
        · exact .inl (.inr ⟨id, h1, h3, by rw [← h5]; exact hb⟩)
    · rintro ((hf | ⟨id, h1, h2, h3⟩) | ⟨id, ho, hb⟩)
      · exact .inl hf
      · have hn : ¬ N id := fun hn => by rw [h.fresh id hn] at h2; cases h2
        exact .inr ⟨id, by rw [hout id h1 hn]; exact h2, by rw [hσ id hn]; exact h3⟩
      · refine .inr ⟨id, ?_, hb⟩
        by_cases hn : N id
        · rw [hnew id hn]; exact ho
        · by_cases hs : S.contains id = true
          · rw [hin id hs]; exact ho
          · rw [hm' id (by simpa using hs) hn] at ho; cases ho
  have k2 : Rx.Keeps (rx (Ev.sub cx σ m w S) σ' N' m' w') (rx cx σ' N' M w') := ⟨⟨fun b _ ho => ⟨fun hh => ho ((hO b).1 hh), rfl⟩⟩, fun _ _ => rfl, fun _ h => h⟩
  have kk : Rx.Keeps (rx cx σ N m w) (rx cx σ' N' M w') :=
    ⟨⟨fun b hb ho => by
      obtain ⟨h1, h2⟩ := k.k.blk b hb (fun hh => ho ((owned_sub S b).1 hh))
      exact ⟨fun hh => h1 ((hO b).1 hh), h2⟩⟩, k.σ, k.N⟩
  refine ⟨⟨fun id => ?_, fun id hn => ?_, fun id id' b ho ho' hb hb' => ?_, fun id b ho hb => ?_, fun id b ho hb => ?_, ?_, fun b hb => ?_, h'.hone, h'.fix⟩, kk, k2⟩
  · by_cases hn : N id
    · rw [hnew id hn]
      by_cases hn' : N' id
      · rw [h'.fresh id hn']; trivial
      · exact repB_keep k2 hn' _ (h'.blk id) (fun _ _ _ => rfl)
    · by_cases hs : S.contains id = true
      · rw [hin id hs]
        exact repB_keep k2 (fun hh => hn (k.N id hh)) _ (h'.blk id) (fun _ _ _ => rfl)
      · have hs' : S.contains id = false := by simpa using hs
        rw [hout id hs' hn]
        exact repB_keep kk hn _ (h.blk id) (fun ho b hb => old_same id b hs' ho hb)
  · have hn0 := k.N id hn
    rw [hnew id hn0]; exact h'.fresh id hn
  · rcases part id ho with ⟨h1, h2⟩ | ⟨h1, h2, h3, h4, h5⟩ <;> rcases part id' ho' with ⟨g1, g2⟩ | ⟨g1, g2, g3, g4, g5⟩
    · exact h'.inj id id' b h1 g1 hb hb'
    · exact absurd (.inr ⟨id', g1, g3, by rw [← g5]; exact hb'⟩) (h'.notF id b h1 hb)
    · exact absurd (.inr ⟨id, h1, h3, by rw [← h5]; exact hb⟩) (h'.notF id' b g1 hb')
    · exact h.inj id id' b h3 g3 (by rw [← h5]; exact hb) (by rw [← g5]; exact hb')
  · rcases part id ho with ⟨h1, h2⟩ | ⟨h1, h2, h3, h4, h5⟩
    · exact fun hf => h'.notF id b h1 hb (.inl hf)
    · exact h.notF id b h3 (by rw [← h5]; exact hb)
  · rcases part id ho with ⟨h1, h2⟩ | ⟨h1, h2, h3, h4, h5⟩
    · rcases h'.low id b h1 hb with hl | ⟨i, _, hi2, hi3⟩
      · have := h.evo.size; exact .inl (by simp only [Ev.sub] at hl; omega)
      · exact h.low i b hi2 hi3
    · exact h.low id b h3 (by rw [← h5]; exact hb)
  · refine ⟨h'.evo.os.trans h.evo.os, h'.evo.tape.trans h.evo.tape, h'.evo.output.trans h.evo.output, Nat.le_trans h.evo.drawn h'.evo.drawn, Nat.le_trans h.evo.size h'.evo.size, fun b hb hmu => ?_⟩
    have hsz := h.evo.size
    by_cases hmu' : (Ev.sub cx σ m w S).Mu b
    · obtain ⟨i, _, h2, h3⟩ := hmu'
      rcases h.low i b h2 h3 with h4 | h4
      · omega
      · exact absurd h4 hmu
    · rw [h'.evo.block b (by simp only [Ev.sub]; omega) hmu']
      exact h.evo.block b hb hmu
  · exact h'.hF b (.inl hb)

end
end Go.Ev
