/- Plain: passes over a tree until none changes it. -/
import Derived.Test.YtkmgbejhbkbaoaaM4
namespace Go.Proofs.Ytkmgbejhbkbaoaa
set_option linter.unusedSimpArgs false
set_option linter.unusedVariables false

section
variable {n : Nat} {P : Nat → List Nat} {num par : Nat → Nat} {D : Nat → Option Nat}

theorem Best.of (hn : Net n P num par) (h : Tr n P num par D) {k : Nat} (hk : ∀ a b, a < n → b < n → num a + num b < k) {b c : Nat} (hb : b < n) (he : bestN D num k (P b) none = some (some c)) : Best n P D b c := by
  obtain ⟨r, r1, _, r3⟩ := bestN_spec hn h k hk (P b) none (hn.plt b hb) (fun _ e => (by cases e))
  rw [he] at r1; injection r1 with r1; subst r1
  obtain ⟨q1, q2, _, q4, q5⟩ := r3 c rfl
  exact ⟨q1, q2, q4, fun y hy => q5 y (fun _ e => (by cases e)) hy⟩
theorem best_some (hn : Net n P num par) (h : Tr n P num par D) {k : Nat} (hk : ∀ a b, a < n → b < n → num a + num b < k) {b : Nat} (hb : b < n) (h0 : b ≠ 0) (hp : par b = 0 ∨ D (par b) ≠ none) :
    ∃ c, bestN D num k (P b) none = some (some c) := by
  obtain ⟨r, r1, r2, _⟩ := bestN_spec hn h k hk (P b) none (hn.plt b hb) (fun _ e => (by cases e))
  obtain ⟨c, rfl⟩ := r2 (.inr ⟨par b, (hn.par b hb h0).1, hp⟩)
  exact ⟨c, r1⟩
theorem bestN_append (D : Nat → Option Nat) (num : Nat → Nat) (k : Nat) (l m : List Nat) : ∀ best, bestN D num k (l ++ m) best = (bestN D num k l best).bind (bestN D num k m) := by
  induction l with
  | nil => intro best; rfl
  | cons a l ih =>
    intro best
    simp only [List.cons_append, bestN]
    split
    · exact ih best
    · cases best with
      | none => exact ih _
      | some b =>
        simp only [Option.bind_assoc]
        congr 1
        funext c
        exact ih _

/-- one block of a pass; whether it changed -/
def stepC (P : Nat → List Nat) (num : Nat → Nat) (k : Nat) (st : (Nat → Option Nat) × Bool) (b : Nat) : (Nat → Option Nat) × Bool :=
  match bestN st.1 num k (P b) none with
  | some (some c) => if st.1 b = some c then st else (upd st.1 b c, true)
  | _ => st
def passC (P : Nat → List Nat) (num : Nat → Nat) (k : Nat) (D : Nat → Option Nat) (l : List Nat) : (Nat → Option Nat) × Bool := l.foldl (stepC P num k) (D, false)
theorem passC_snoc (P : Nat → List Nat) (num : Nat → Nat) (k : Nat) (D : Nat → Option Nat) (l : List Nat) (b : Nat) : passC P num k D (l ++ [b]) = stepC P num k (passC P num k D l) b := by
  simp [passC, List.foldl_append]
theorem stepC_eq {k : Nat} {st : (Nat → Option Nat) × Bool} {b c : Nat} (h : bestN st.1 num k (P b) none = some (some c)) : (stepC P num k st b).1 = upd st.1 b c ∧
    ((stepC P num k st b).2 = true ↔ st.2 = true ∨ st.1 b ≠ some c) := by
  simp only [stepC, h]
  split
  · rename_i h1
    refine ⟨?_, by simp [h1]⟩
    funext x
    unfold upd
    split
    · rename_i hx; rw [hx, h1]
    · rfl
  · rename_i h1
    simp [h1]

/-- order: 0 and l; the numbers are places -/
structure Line (n : Nat) (num : Nat → Nat) (l : List Nat) : Prop where
  lt : ∀ b ∈ l, b < n ∧ b ≠ 0
  all : ∀ x, x < n → x ≠ 0 → x ∈ l
  place : ∀ j (h : j < l.length), num l[j] = j + 1

/-! ### the first pass -/
structure One (n : Nat) (P : Nat → List Nat) (num par : Nat → Nat) (i : Nat) (D : Nat → Option Nat) : Prop where
  tr : Tr n P num par D
  known : ∀ x, x < n → x ≠ 0 → (D x ≠ none ↔ num x < i)
  post : ∀ x, x < n → x ≠ 0 → num x < i → ∀ y, (∀ p ∈ P x, num p < num x → Anc D y p) → Anc D y x
  low : ∀ x, x < n → x ≠ 0 → num x < i → ∀ y, y ≠ x → Anc D y x → Anc D y (par x)
theorem anc_upd_self {b c y : Nat} (h : Tr n P num par D) (hc : num c < num b) : Anc (upd D b c) y b ↔ y = b ∨ Anc D y c := by
  have hbc : ¬ Anc D b c := fun k => by have := h.num_le k; omega
  constructor
  · intro k
    rcases k.cases' with e | ⟨z, e, k⟩
    · exact .inl e
    · rw [upd, if_pos rfl] at e; injection e with e; subst e
      exact .inr ((anc_upd_of_not hbc).1 k)
  · rintro (rfl | k)
    · exact .refl
    · exact .up (by rw [upd, if_pos rfl]) ((anc_upd_of_not hbc).2 k)
theorem One.step (hn : Net n P num par) {i k : Nat} (hk : ∀ a b, a < n → b < n → num a + num b < k) (h : One n P num par i D) {b : Nat} (hb : b < n) (h0 : b ≠ 0) (hi : num b = i) :
    ∃ c, bestN D num k (P b) none = some (some c) ∧ One n P num par (i + 1) (upd D b c) := by
  obtain ⟨p1, p2⟩ := hn.par b hb h0
  have hp : par b = 0 ∨ D (par b) ≠ none := by
    by_cases e : par b = 0
    · exact .inl e
    · exact .inr ((h.known _ (hn.plt b hb _ p1) e).2 (by omega))
  obtain ⟨c, hc⟩ := best_some hn h.tr hk hb h0 hp
  have hB := Best.of hn h.tr hk hb hc
  obtain ⟨t1, t2⟩ := h.tr.upd hn hb h0 hB hp
  have hpk : ∀ p ∈ P b, num p < i → (p = 0 ∨ D p ≠ none) := fun p hp hpi => by
    by_cases e : p = 0
    · exact .inl e
    · exact .inr ((h.known _ (hn.plt b hb _ hp) e).2 hpi)
  have hkp : ∀ p ∈ P b, (p = 0 ∨ D p ≠ none) → num p < i := fun p hp hk => by
    rcases hk with rfl | hk
    · rw [hn.zero]; rcases Nat.eq_zero_or_pos i with e | e
      · exact absurd (hn.inj b 0 hb hn.pos (by rw [hn.zero]; omega)) h0
      · exact e
    · by_cases e : p = 0
      · subst e; exact absurd h.tr.zero hk
      · exact (h.known _ (hn.plt b hb _ hp) e).1 hk
  refine ⟨c, hc, t2, ?_, ?_, ?_⟩
  · intro x hx hx0
    unfold upd
    by_cases e : x = b
    · subst e; simp; omega
    · rw [if_neg e, h.known x hx hx0]
      have : num x ≠ i := fun e2 => e (hn.inj x b hx hb (by omega))
      omega
  · intro x hx hx0 hxi y hy
    by_cases e : x = b
    · subst e
      rw [anc_upd_self h.tr t1]
      refine .inr (hB.near y fun p hp hk => ?_)
      have hpi := hkp p hp hk
      exact (anc_upd_low h.tr (by omega)).1 (hy p hp (by omega))
    · have : num x ≠ i := fun e2 => e (hn.inj x b hx hb (by omega))
      rw [anc_upd_low h.tr (by omega)]
      exact h.post x hx hx0 (by omega) y fun p hp hpx => (anc_upd_low h.tr (by omega)).1 (hy p hp hpx)
  · intro x hx hx0 hxi y hy hyx
    by_cases e : x = b
    · subst e
      rw [anc_upd_low h.tr (by omega)]
      rcases (anc_upd_self h.tr t1).1 hyx with e | hyc
      · exact absurd e hy
      · exact hyc.trans (hB.below _ p1 hp)
    · have hne : num x ≠ i := fun e2 => e (hn.inj x b hx hb (by omega))
      have := (hn.par x hx hx0).2
      rw [anc_upd_low h.tr (by omega)] at hyx ⊢
      exact h.low x hx hx0 (by omega) y hy hyx
theorem One.zero (hn : Net n P num par) : One n P num par 1 (fun _ => none) := by
  have hz : ∀ x, x < n → x ≠ 0 → ¬ num x < 1 := fun x hx h0 h => h0 (hn.inj x 0 hx hn.pos (by rw [hn.zero]; omega))
  refine ⟨⟨rfl, fun _ _ e => (by cases e), fun _ _ e => (by cases e), fun _ _ e => (by cases e), ?_⟩, ?_, ?_, ?_⟩
  · intro x hx y hy
    rcases hx with rfl | hx
    · by_cases e : y = 0
      · subst e; exact .refl
      · exact absurd (.zero e) hy
    · exact absurd rfl hx
  · intro x hx h0
    have := hz x hx h0
    simp; omega
  · intro x hx h0 h; exact absurd h (hz x hx h0)
  · intro x hx h0 h; exact absurd h (hz x hx h0)

/-! ### those behind it -/
structure Mid (n : Nat) (P : Nat → List Nat) (num par : Nat → Nat) (i : Nat) (D : Nat → Option Nat) : Prop where
  tr : Tr n P num par D
  known : ∀ x, x < n → x ≠ 0 → D x ≠ none
  post : ∀ x, x < n → x ≠ 0 → ∀ y, (∀ p ∈ P x, Anc D y p) → Anc D y x
  low : ∀ x, x < n → x ≠ 0 → num x < i → ∀ y, y ≠ x → Anc D y x → Anc D y (par x)
  high : ∀ x, x < n → x ≠ 0 → i ≤ num x → ∀ y, i ≤ num y → y ≠ x → Anc D y x → Anc D y (par x)
theorem Mid.first {i : Nat} (h : Mid n P num par i D) (hi : ∀ x, x < n → num x < i) : Mid n P num par 1 D :=
  ⟨h.tr, h.known, h.post, fun x hx h0 _ => h.low x hx h0 (hi x hx), fun x hx h0 _ y _ => h.low x hx h0 (hi x hx) y⟩
theorem One.mid {i : Nat} (h : One n P num par i D) (hi : ∀ x, x < n → num x < i) : Mid n P num par 1 D :=
  ⟨h.tr, fun x hx h0 => (h.known x hx h0).2 (hi x hx), fun x hx h0 y hy => h.post x hx h0 (hi x hx) y fun p hp _ => hy p hp,
    fun x hx h0 _ => h.low x hx h0 (hi x hx), fun x hx h0 _ y _ => h.low x hx h0 (hi x hx) y⟩
theorem Mid.below {i : Nat} (h : Mid n P num par i D) {b c : Nat} (hb : b < n) (h0 : b ≠ 0) (hB : Best n P D b c) (hn : Net n P num par) : Anc D c b :=
  h.post b hb h0 c fun p hp => hB.below p hp (by
    by_cases e : p = 0
    · exact .inl e
    · exact .inr (h.known p (hn.plt b hb p hp) e))
theorem anc_upd_sub {b c y x : Nat} (h : Tr n P num par D) (hc : num c < num b) (hcb : Anc D c b) (k : Anc (upd D b c) y x) : Anc D y x := by
  by_cases hb : Anc D b x
  · rcases (anc_upd_of h hc hb).1 k with h1 | h1
    · exact h1.1
    · exact h1.trans (hcb.trans hb)
  · exact (anc_upd_of_not hb).1 k
theorem Mid.step (hn : Net n P num par) {i k : Nat} (hk : ∀ a b, a < n → b < n → num a + num b < k) (h : Mid n P num par i D) {b : Nat} (hb : b < n) (h0 : b ≠ 0) (hi : num b = i) :
    ∃ c z, bestN D num k (P b) none = some (some c) ∧ Mid n P num par (i + 1) (upd D b c) ∧ D b = some z ∧ num c ≤ num z ∧ (num c = num z → c = z) := by
  obtain ⟨p1, p2⟩ := hn.par b hb h0
  have hall : ∀ p ∈ P b, p = 0 ∨ D p ≠ none := fun p hp => by
    by_cases e : p = 0
    · exact .inl e
    · exact .inr (h.known p (hn.plt b hb p hp) e)
  have hp := hall _ p1
  obtain ⟨c, hc⟩ := best_some hn h.tr hk hb h0 hp
  have hB := Best.of hn h.tr hk hb hc
  obtain ⟨t1, t2⟩ := h.tr.upd hn hb h0 hB hp
  have hcb := h.below hb h0 hB hn
  obtain ⟨z, hz⟩ : ∃ z, D b = some z := by
    cases e : D b with
    | none => exact absurd e (h.known b hb h0)
    | some z => exact ⟨z, rfl⟩
  have hcz : Anc D c z := by
    rcases hcb.cases' with e | ⟨z', e, k⟩
    · subst e; omega
    · rw [hz] at e; injection e with e; subst e; exact k
  have hsub := fun {y x : Nat} (k : Anc (upd D b c) y x) => anc_upd_sub h.tr t1 hcb k
  refine ⟨c, z, hc, ⟨t2, ?_, ?_, ?_, ?_⟩, hz, h.tr.num_le hcz, fun e => hn.inj c z hB.lt (h.tr.lt b z hz).2.1 e⟩
  · intro x hx hx0
    unfold upd
    split
    · simp
    · exact h.known x hx hx0
  · intro x hx hx0 y hy
    by_cases e : x = b
    · subst e
      exact (anc_upd_self h.tr t1).2 (.inr (hB.near y fun p hp _ => hsub (hy p hp)))
    · have hyx : Anc D y x := h.post x hx hx0 y fun p hp => hsub (hy p hp)
      by_cases hbx : Anc D b x
      · rw [anc_upd_of h.tr t1 hbx]
        rcases hyx.line hbx with h1 | h1
        · by_cases hyb : y = b
          · subst hyb; exact .inl ⟨hyx, .refl⟩
          · refine .inr ?_
            have hbp : Anc D b (par x) := by
              have := h.tr.num_lt hbx (fun e2 => e e2.symm)
              exact h.high x hx hx0 (by omega) b (by omega) (fun e2 => e e2.symm) hbx
            have hpx := (hn.par x hx hx0).1
            rcases (anc_upd_of h.tr t1 hbp).1 (hy _ hpx) with h2 | h2
            · have h3 := h.tr.num_le h2.2
              have h4 := h.tr.num_lt h1 hyb
              omega
            · exact h2
        · exact .inl ⟨hyx, h1⟩
      · exact (anc_upd_of_not hbx).2 hyx
  · intro x hx hx0 hxi y hy hyx
    by_cases e : x = b
    · subst e
      rw [anc_upd_low h.tr (by omega)]
      rcases (anc_upd_self h.tr t1).1 hyx with e | hyc
      · exact absurd e hy
      · exact hyc.trans (hB.below _ p1 hp)
    · have hne : num x ≠ i := fun e2 => e (hn.inj x b hx hb (by omega))
      have := (hn.par x hx hx0).2
      rw [anc_upd_low h.tr (by omega)] at hyx ⊢
      exact h.low x hx hx0 (by omega) y hy hyx
  · intro x hx hx0 hxi y hyi hy hyx
    rw [anc_upd_high h.tr t1 (by omega)] at hyx ⊢
    exact h.high x hx hx0 (by omega) y (by omega) hy hyx

/-- what falls -/
def mu (num : Nat → Nat) (D : Nat → Option Nat) (l : List Nat) : Nat := (l.map fun x => match D x with | some z => num z | none => 0).sum
theorem mu_same {c b : Nat} {l : List Nat} (h : b ∉ l) : mu num (upd D b c) l = mu num D l := by
  unfold mu
  congr 1
  refine List.map_congr_left fun x hx => ?_
  have : x ≠ b := fun e => h (e ▸ hx)
  simp [upd, this]
theorem mu_upd {c z b : Nat} {l : List Nat} (hnd : l.Nodup) (hb : b ∈ l) (hz : D b = some z) : mu num (upd D b c) l + num z = mu num D l + num c := by
  induction l with
  | nil => cases hb
  | cons a l ih =>
    obtain ⟨h1, h2⟩ := List.nodup_cons.1 hnd
    by_cases e : a = b
    · subst e
      have := mu_same (num := num) (D := D) (c := c) h1
      simp only [mu, List.map_cons, List.sum_cons] at this ⊢
      rw [this]
      simp [upd, hz]
      omega
    · have hb2 : b ∈ l := by
        rcases List.mem_cons.1 hb with h3 | h3
        · exact absurd h3.symm e
        · exact h3
      have := ih h2 hb2
      simp only [mu, List.map_cons, List.sum_cons] at this ⊢
      have h5 : upd D b c a = D a := by simp [upd, e]
      rw [h5]
      omega
theorem mu_le (h : Tr n P num par D) (hlt : ∀ x, x < n → num x ≤ n) (l : List Nat) : mu num D l ≤ l.length * n := by
  induction l with
  | nil => simp [mu]
  | cons a l ih =>
    simp only [mu, List.map_cons, List.sum_cons, List.length_cons, Nat.add_mul, Nat.one_mul] at ih ⊢
    have : (match D a with | some z => num z | none => 0) ≤ n := by
      cases e : D a with
      | none => simp
      | some z => exact hlt z (h.lt a z e).2.1
    omega

/-- nothing changes any more -/
def Fix (n : Nat) (P : Nat → List Nat) (num : Nat → Nat) (k : Nat) (D : Nat → Option Nat) : Prop := ∀ b, b < n → b ≠ 0 → ∃ c, bestN D num k (P b) none = some (some c) ∧ D b = some c
theorem pass_mid (hn : Net n P num par) {k : Nat} (hk : ∀ a b, a < n → b < n → num a + num b < k) {l : List Nat} (hl : Line n num l) (hnd : l.Nodup) (h : Mid n P num par 1 D) : ∀ j, j ≤ l.length →
    Mid n P num par (j + 1) (passC P num k D (l.take j)).1 ∧ mu num (passC P num k D (l.take j)).1 l ≤ mu num D l ∧
      ((passC P num k D (l.take j)).2 = true → mu num (passC P num k D (l.take j)).1 l < mu num D l) ∧
      ((passC P num k D (l.take j)).2 = false → (passC P num k D (l.take j)).1 = D ∧ ∀ i (hi : i < j) (hil : i < l.length), ∃ c, bestN D num k (P l[i]) none = some (some c) ∧ D l[i] = some c)
  | 0, _ => ⟨by simpa [passC] using h, by simp [passC], by simp [passC], fun _ => ⟨by simp [passC], fun i hi => by omega⟩⟩
  | j + 1, hj => by
    obtain ⟨h1, h2, h3, h4⟩ := pass_mid hn hk hl hnd h j (by omega)
    have hlt : j < l.length := by omega
    obtain ⟨b1, b2⟩ := hl.lt _ (List.getElem_mem hlt)
    rw [List.take_succ_eq_append_getElem hlt, passC_snoc]
    obtain ⟨c, z, c1, c2, c3, c4, c5⟩ := h1.step hn hk b1 b2 (hl.place j hlt)
    generalize hst : passC P num k D (l.take j) = st at *
    obtain ⟨e1, e2⟩ := stepC_eq (P := P) (num := num) (k := k) (st := st) c1
    have hmu := mu_upd (num := num) (c := c) hnd (List.getElem_mem hlt) c3
    rw [e1]
    refine ⟨c2, by omega, fun hch => ?_, fun hch => ?_⟩
    · rcases e2.1 hch with h5 | h5
      · have := h3 h5; omega
      · have : num c ≠ num z := fun e => h5 (by rw [c3, c5 e])
        omega
    · have h6 : ¬ (st.2 = true ∨ st.1 l[j] ≠ some c) := fun h7 => by rw [e2.2 h7] at hch; cases hch
      have h7 : st.2 = false := by
        cases e : st.2 with
        | false => rfl
        | true => exact absurd (.inl e) h6
      have h8 : st.1 l[j] = some c := Classical.byContradiction fun e => h6 (.inr e)
      obtain ⟨h9, h10⟩ := h4 h7
      refine ⟨?_, fun i hi hil => ?_⟩
      · funext x
        unfold upd
        split
        · rename_i hx; rw [hx, ← h9, h8]
        · rw [h9]
      · by_cases e : i = j
        · subst e; rw [← h9]; exact ⟨c, c1, h8⟩
        · exact h10 i (by omega) hil
theorem pass_one (hn : Net n P num par) {k : Nat} (hk : ∀ a b, a < n → b < n → num a + num b < k) {l : List Nat} (hl : Line n num l) : ∀ j, j ≤ l.length → One n P num par (j + 1) (passC P num k (fun _ => none) (l.take j)).1
  | 0, _ => by simpa [passC] using One.zero hn
  | j + 1, hj => by
    have h1 := pass_one hn hk hl j (by omega)
    have hlt : j < l.length := by omega
    obtain ⟨b1, b2⟩ := hl.lt _ (List.getElem_mem hlt)
    rw [List.take_succ_eq_append_getElem hlt, passC_snoc]
    obtain ⟨c, c1, c2⟩ := h1.step hn hk b1 b2 (hl.place j hlt)
    rw [(stepC_eq c1).1]
    exact c2
theorem Line.num_lt {l : List Nat} (hl : Line n num l) (hn : Net n P num par) : ∀ x, x < n → num x < l.length + 1 := by
  intro x hx
  by_cases h0 : x = 0
  · subst h0; rw [hn.zero]; omega
  · obtain ⟨j, hj, rfl⟩ := List.mem_iff_getElem.1 (hl.all x hx h0)
    rw [hl.place j hj]; omega
/-- who stands on the way up is who must be passed -/
theorem Fix.dom (hn : Net n P num par) {k : Nat} (hk : ∀ a b, a < n → b < n → num a + num b < k) (h : Mid n P num par 1 D) (hf : Fix n P num k D) {y x : Nat} (hx : x < n) : Anc D y x ↔ ¬ Rw P n y x := by
  constructor
  · intro ha hr
    induction hr with
    | zero h0 => exact h0 (h.tr.zero_only ha)
    | @step x z hr hz hxz hne ih =>
      have hxn := hn.plt z hz x hxz
      by_cases z0 : z = 0
      · subst z0; exact hne (h.tr.zero_only ha).symm
      · obtain ⟨c, c1, c2⟩ := hf z hz z0
        have hB := Best.of hn h.tr hk hz c1
        rcases ha.cases' with e | ⟨z', e, ha⟩
        · exact hne e.symm
        · rw [c2] at e; injection e with e; subst e
          refine ih hxn (ha.trans (hB.below x hxz ?_))
          by_cases e : x = 0
          · exact .inl e
          · exact .inr (h.known x hxn e)
  · refine h.tr.dom x ?_ y
    by_cases e : x = 0
    · exact .inl e
    · exact .inr (h.known x hx e)
end
end Go.Proofs.Ytkmgbejhbkbaoaa
