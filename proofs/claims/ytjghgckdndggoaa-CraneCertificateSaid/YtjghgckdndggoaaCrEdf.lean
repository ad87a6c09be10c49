/- Plans by due times: an order by due times has no late job exactly if, for each job, the costs of the jobs due no later fit before its due time; so later due times and an earlier beginning never make a plan impossible. -/
namespace Go.Crane

def cost (x : Int × Int) : Int := 2 * x.1 + 2
/-- The costs of the jobs due by D. -/
def S : List (Int × Int) → Int → Int
  | [], _ => 0
  | x :: l, D => (if x.2 ≤ D then cost x else 0) + S l D
/-- No job is late. -/
def feas : Int → List (Int × Int) → Prop
  | _, [] => True
  | t, x :: l => t + cost x ≤ x.2 ∧ feas (t + cost x) l

def pos (l : List (Int × Int)) : Prop := ∀ x ∈ l, 0 ≤ cost x

theorem S_nonneg : ∀ (l : List (Int × Int)) (D : Int), pos l → 0 ≤ S l D
  | [], _, _ => Int.le_refl 0
  | x :: l, D, h => by
    have h1 := S_nonneg l D (fun y hy => h y (List.mem_cons_of_mem _ hy))
    have h2 := h x (List.mem_cons_self ..)
    unfold S
    split <;> omega

theorem S_zero : ∀ (l : List (Int × Int)) (D : Int), (∀ x ∈ l, ¬ x.2 ≤ D) → S l D = 0
  | [], _, _ => rfl
  | x :: l, D, h => by
    have h1 := S_zero l D (fun y hy => h y (List.mem_cons_of_mem _ hy))
    unfold S
    rw [if_neg (h x (List.mem_cons_self ..)), h1]; rfl

theorem S_perm {l l' : List (Int × Int)} (h : l.Perm l') (D : Int) : S l D = S l' D := by
  induction h with
  | nil => rfl
  | cons x _ ih => simp only [S, ih]
  | swap x y l => simp only [S]; omega
  | trans _ _ ih1 ih2 => rw [ih1, ih2]

theorem S_append (a b : List (Int × Int)) (D : Int) : S (a ++ b) D = S a D + S b D := by
  induction a with
  | nil => simp [S]
  | cons x a ih => simp only [List.cons_append, S, ih]; omega

theorem feas_iff : ∀ (l : List (Int × Int)) (t : Int), pos l → l.Pairwise (fun a b => a.2 ≤ b.2) → (feas t l ↔ ∀ x ∈ l, t + S l x.2 ≤ x.2)
  | [], _, _, _ => by simp [feas]
  | x :: l, t, hp, hs => by
    have hp' : pos l := fun y hy => hp y (List.mem_cons_of_mem _ hy)
    obtain ⟨hx, hs'⟩ := List.pairwise_cons.1 hs
    have ih := feas_iff l (t + cost x) hp' hs'
    have key : ∀ D, x.2 ≤ D → S (x :: l) D = cost x + S l D := fun D h => by
      show (if x.2 ≤ D then cost x else 0) + S l D = _
      rw [if_pos h]
    unfold feas
    rw [ih]
    constructor
    · rintro ⟨h1, h2⟩ y hy
      rcases List.mem_cons.1 hy with rfl | hy
      · rw [key _ (Int.le_refl _)]
        by_cases hz : ∃ z ∈ l, z.2 ≤ y.2
        · obtain ⟨z, hz, hzd⟩ := hz
          have e : z.2 = y.2 := Int.le_antisymm hzd (hx z hz)
          have := h2 z hz
          rw [e] at this
          omega
        · rw [S_zero l y.2 (fun z hz' k => hz ⟨z, hz', k⟩)]
          omega
      · rw [key _ (hx y hy)]
        have := h2 y hy
        omega
    · intro h
      refine ⟨?_, fun y hy => ?_⟩
      · have h1 := h x (List.mem_cons_self ..)
        rw [key _ (Int.le_refl _)] at h1
        have := S_nonneg l x.2 hp'
        omega
      · have h1 := h y (List.mem_cons_of_mem _ hy)
        rw [key _ (hx y hy)] at h1
        omega

/-- Of the jobs due by D, one that is due last. -/
theorem last_due : ∀ (l : List (Int × Int)) (D : Int), (∃ x ∈ l, x.2 ≤ D) → ∃ y ∈ l, y.2 ≤ D ∧ ∀ z ∈ l, z.2 ≤ D → z.2 ≤ y.2
  | [], _, h => by obtain ⟨x, hx, _⟩ := h; cases hx
  | x :: l, D, h => by
    by_cases hl : ∃ y ∈ l, y.2 ≤ D
    · obtain ⟨y, hy, h1, h2⟩ := last_due l D hl
      by_cases hx : x.2 ≤ D ∧ y.2 ≤ x.2
      · refine ⟨x, List.mem_cons_self .., hx.1, fun z hz hzd => ?_⟩
        rcases List.mem_cons.1 hz with rfl | hz
        · exact Int.le_refl _
        · exact Int.le_trans (h2 z hz hzd) hx.2
      · refine ⟨y, List.mem_cons_of_mem _ hy, h1, fun z hz hzd => ?_⟩
        rcases List.mem_cons.1 hz with rfl | hz
        · by_cases k : y.2 ≤ z.2
          · exact absurd ⟨hzd, k⟩ hx
          · omega
        · exact h2 z hz hzd
    · obtain ⟨y, hy, hyd⟩ := h
      rcases List.mem_cons.1 hy with rfl | hy
      · refine ⟨y, List.mem_cons_self .., hyd, fun z hz hzd => ?_⟩
        rcases List.mem_cons.1 hz with rfl | hz
        · exact Int.le_refl _
        · exact absurd ⟨z, hz, hzd⟩ hl
      · exact absurd ⟨y, hy, hyd⟩ hl

theorem S_same : ∀ (l : List (Int × Int)) (D E : Int), (∀ z ∈ l, z.2 ≤ D ↔ z.2 ≤ E) → S l D = S l E
  | [], _, _, _ => rfl
  | x :: l, D, E, h => by
    have h1 := S_same l D E (fun y hy => h y (List.mem_cons_of_mem _ hy))
    have h2 := h x (List.mem_cons_self ..)
    unfold S
    rw [h1]
    by_cases k : x.2 ≤ D
    · rw [if_pos k, if_pos (h2.1 k)]
    · rw [if_neg k, if_neg (fun e => k (h2.2 e))]

def fits (t : Int) (l : List (Int × Int)) : Prop := ∀ x ∈ l, t + S l x.2 ≤ x.2

theorem fits_relaxed {a b : List (Int × Int)} {p d t t' e : Int} (hp : pos (a ++ (p, d) :: b)) (he : 0 ≤ e) (ht : t' ≤ t) (h : fits t (a ++ (p, d) :: b)) : fits t' (a ++ (p, d + e) :: b) := by
  have hc : 0 ≤ cost (p, d) := hp _ (by simp)
  have hce : cost (p, d + e) = cost (p, d) := rfl
  have hS : ∀ D, S (a ++ (p, d + e) :: b) D ≤ S (a ++ (p, d) :: b) D := fun D => by
    rw [S_append, S_append]
    unfold S
    rw [hce]
    simp only
    by_cases k : d + e ≤ D
    · rw [if_pos k, if_pos (by omega)]; exact Int.le_refl _
    · rw [if_neg k]
      split <;> omega
  have main : ∀ x ∈ a ++ (p, d) :: b, t' + S (a ++ (p, d + e) :: b) x.2 ≤ x.2 := fun x hx => by
    have h1 := h x hx
    have h2 := hS x.2
    omega
  intro x hx
  have hx' : x ∈ a ++ (p, d) :: b ∨ x = (p, d + e) := by
    simp only [List.mem_append, List.mem_cons] at hx ⊢
    rcases hx with h | h | h
    · exact .inl (.inl h)
    · exact .inr h
    · exact .inl (.inr (.inr h))
  rcases hx' with hx' | rfl
  · exact main x hx'
  · obtain ⟨y, hy, h1, h2⟩ := last_due (a ++ (p, d) :: b) (d + e) ⟨(p, d), by simp, by simp only; omega⟩
    have h3 := h y hy
    have h4 := S_same (a ++ (p, d) :: b) (d + e) y.2 (fun z hz => ⟨fun k => h2 z hz k, fun k => Int.le_trans k h1⟩)
    have h5 := hS (d + e)
    simp only
    omega

end Go.Crane
