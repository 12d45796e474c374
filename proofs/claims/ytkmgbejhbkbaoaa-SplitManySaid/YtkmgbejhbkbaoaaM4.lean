/- Plain: dominators by going up in a tree that is mended (blocks by number, their predecessors). -/
namespace Go.Proofs.Ytkmgbejhbkbaoaa
set_option linter.unusedSimpArgs false
set_option linter.unusedVariables false

/-- n blocks, whose predecessors P tells, by numbers num; each but 0 has a predecessor, par, of a lesser number -/
structure Net (n : Nat) (P : Nat → List Nat) (num par : Nat → Nat) : Prop where
  pos : 0 < n
  inj : ∀ x y, x < n → y < n → num x = num y → x = y
  zero : num 0 = 0
  plt : ∀ b, b < n → ∀ p ∈ P b, p < n
  par : ∀ b, b < n → b ≠ 0 → par b ∈ P b ∧ num (par b) < num b

/-- y stands on the way up from x (x itself does) -/
inductive Anc (D : Nat → Option Nat) (y : Nat) : Nat → Prop
  | refl : Anc D y y
  | up {x z : Nat} : D x = some z → Anc D y z → Anc D y x
/-- likewise by par -/
inductive PAnc (par : Nat → Nat) (y : Nat) : Nat → Prop
  | refl : PAnc par y y
  | up {x : Nat} : x ≠ 0 → PAnc par y (par x) → PAnc par y x
/-- x is come to from 0 without y -/
inductive Rw (P : Nat → List Nat) (n y : Nat) : Nat → Prop
  | zero : y ≠ 0 → Rw P n y 0
  | step {x z : Nat} : Rw P n y x → z < n → x ∈ P z → z ≠ y → Rw P n y z

theorem Anc.trans {D : Nat → Option Nat} {a b c : Nat} (h : Anc D a b) (k : Anc D b c) : Anc D a c := by
  induction k with
  | refl => exact h
  | up e _ ih => exact .up e ih
theorem PAnc.trans {par : Nat → Nat} {a b c : Nat} (h : PAnc par a b) (k : PAnc par b c) : PAnc par a c := by
  induction k with
  | refl => exact h
  | up e _ ih => exact .up e ih
theorem Anc.cases' {D : Nat → Option Nat} {y x : Nat} (h : Anc D y x) : y = x ∨ ∃ z, D x = some z ∧ Anc D y z := by
  cases h with
  | refl => exact .inl rfl
  | up e k => exact .inr ⟨_, e, k⟩
/-- of two on one way up one is on the way up from the other -/
theorem Anc.line {D : Nat → Option Nat} {a b x : Nat} (h : Anc D a x) (k : Anc D b x) : Anc D a b ∨ Anc D b a := by
  induction h with
  | refl => exact .inr k
  | up e h ih =>
    rcases k.cases' with rfl | ⟨z, hz, k⟩
    · exact .inl (.up e h)
    · rw [e] at hz; injection hz with hz; subst hz; exact ih k

/-- a tree: numbers fall on the way up; who is on it is by par, too; who must be passed is on it -/
structure Tr (n : Nat) (P : Nat → List Nat) (num par : Nat → Nat) (D : Nat → Option Nat) : Prop where
  zero : D 0 = none
  lt : ∀ x z, D x = some z → x < n ∧ z < n ∧ num z < num x
  up : ∀ x z, D x = some z → z = 0 ∨ D z ≠ none
  pa : ∀ x z, D x = some z → PAnc par z x
  dom : ∀ x, x = 0 ∨ D x ≠ none → ∀ y, ¬ Rw P n y x → Anc D y x

section
variable {n : Nat} {P : Nat → List Nat} {num par : Nat → Nat} {D : Nat → Option Nat}
theorem Tr.num_le (h : Tr n P num par D) {y x : Nat} (k : Anc D y x) : num y ≤ num x := by
  induction k with
  | refl => exact Nat.le_refl _
  | up e _ ih => have := (h.lt _ _ e).2.2; omega
theorem Tr.num_lt (h : Tr n P num par D) {y x : Nat} (k : Anc D y x) (hne : y ≠ x) : num y < num x := by
  rcases k.cases' with e | ⟨z, e, k⟩
  · exact absurd e hne
  · have := (h.lt _ _ e).2.2; have := h.num_le k; omega
theorem Tr.panc (h : Tr n P num par D) {y x : Nat} (k : Anc D y x) : PAnc par y x := by
  induction k with
  | refl => exact .refl
  | up e _ ih => exact ih.trans (h.pa _ _ e)
theorem Tr.lt_n (h : Tr n P num par D) {y x : Nat} (k : Anc D y x) (hx : x < n) : y < n := by
  induction k with
  | refl => exact hx
  | up e _ ih => exact ih (h.lt _ _ e).2.1
theorem Tr.zero_only (h : Tr n P num par D) {y : Nat} (k : Anc D y 0) : y = 0 := by
  rcases k.cases' with e | ⟨z, e, _⟩
  · exact e
  · rw [h.zero] at e; cases e
theorem Tr.known (h : Tr n P num par D) {y x : Nat} (k : Anc D y x) (hx : x = 0 ∨ D x ≠ none) : y = 0 ∨ D y ≠ none := by
  induction k with
  | refl => exact hx
  | up e _ ih => exact ih (h.up _ _ e)

/-- from b down to x by par, without y, if y's number is less than b's -/
theorem Net.down (hn : Net n P num par) {y b x : Nat} (hx : x < n) (k : PAnc par b x) (hy : num y < num b) (h : Rw P n y b) : Rw P n y x := by
  induction k with
  | refl => exact h
  | @up x h0 k ih =>
    obtain ⟨h1, h2⟩ := hn.par x hx h0
    have hp := hn.plt x hx _ h1
    refine Rw.step (ih hp) hx h1 ?_
    rintro rfl
    have : ∀ {u v : Nat}, PAnc par u v → v < n → num u ≤ num v := by
      intro u v k hv
      induction k with
      | refl => exact Nat.le_refl _
      | @up v h0 k ih =>
        obtain ⟨h1, h2⟩ := hn.par v hv h0
        have := ih (hn.plt v hv _ h1); omega
    have := this k hp
    omega

/-- the nearest one on both ways up -/
def comN (D : Nat → Option Nat) (num : Nat → Nat) : Nat → Nat → Nat → Option Nat
  | 0, _, _ => none
  | k + 1, a, b =>
    if num b < num a then (match D a with | some z => comN D num k z b | none => none)
    else if num a < num b then (match D b with | some z => comN D num k a z | none => none)
    else some a
theorem comN_spec (hn : Net n P num par) (h : Tr n P num par D) : ∀ (k a b : Nat), a < n → b < n → (a = 0 ∨ D a ≠ none) → (b = 0 ∨ D b ≠ none) → num a + num b < k →
    ∃ c, comN D num k a b = some c ∧ Anc D c a ∧ Anc D c b ∧ ∀ y, Anc D y a → Anc D y b → Anc D y c := by
  intro k
  induction k with
  | zero => intro a b _ _ _ _ h; omega
  | succ k ih =>
    intro a b ha hb ka kb hk
    unfold comN
    by_cases h1 : num b < num a
    · rw [if_pos h1]
      have h0 : a ≠ 0 := by rintro rfl; rw [hn.zero] at h1; omega
      cases e : D a with
      | none => rcases ka with ka | ka; exact absurd ka h0; exact absurd e ka
      | some z =>
        obtain ⟨_, z1, z2⟩ := h.lt a z e
        obtain ⟨c, c1, c2, c3, c4⟩ := ih z b z1 hb (h.up a z e) kb (by omega)
        refine ⟨c, c1, .up e c2, c3, fun y y1 y2 => c4 y ?_ y2⟩
        rcases y1.cases' with rfl | ⟨z', e', y1⟩
        · have := h.num_le y2; omega
        · rw [e] at e'; injection e' with e'; subst e'; exact y1
    · rw [if_neg h1]
      by_cases h2 : num a < num b
      · rw [if_pos h2]
        have h0 : b ≠ 0 := by rintro rfl; rw [hn.zero] at h2; omega
        cases e : D b with
        | none => rcases kb with kb | kb; exact absurd kb h0; exact absurd e kb
        | some z =>
          obtain ⟨_, z1, z2⟩ := h.lt b z e
          obtain ⟨c, c1, c2, c3, c4⟩ := ih a z ha z1 ka (h.up b z e) (by omega)
          refine ⟨c, c1, c2, .up e c3, fun y y1 y2 => c4 y y1 ?_⟩
          rcases y2.cases' with rfl | ⟨z', e', y2⟩
          · have := h.num_le y1; omega
          · rw [e] at e'; injection e' with e'; subst e'; exact y2
      · rw [if_neg h2]
        have : a = b := hn.inj a b ha hb (by omega)
        subst this
        exact ⟨a, rfl, .refl, .refl, fun y h _ => h⟩

/-- of the predecessors that are known the nearest one above all -/
def bestN (D : Nat → Option Nat) (num : Nat → Nat) (k : Nat) : List Nat → Option Nat → Option (Option Nat)
  | [], best => some best
  | a :: l, best =>
    if a ≠ 0 ∧ D a = none then bestN D num k l best
    else match best with
      | none => bestN D num k l (some a)
      | some b => (comN D num k b a).bind fun c => bestN D num k l (some c)
theorem bestN_spec (hn : Net n P num par) (h : Tr n P num par D) (k : Nat) (hk : ∀ a b, a < n → b < n → num a + num b < k) :
    ∀ (l : List Nat) (best : Option Nat), (∀ a ∈ l, a < n) → (∀ b, best = some b → b < n ∧ (b = 0 ∨ D b ≠ none)) →
    ∃ r, bestN D num k l best = some r ∧ (best ≠ none ∨ (∃ a ∈ l, a = 0 ∨ D a ≠ none) → ∃ c, r = some c) ∧
      ∀ c, r = some c → c < n ∧ (c = 0 ∨ D c ≠ none) ∧ (∀ b, best = some b → Anc D c b) ∧ (∀ a ∈ l, (a = 0 ∨ D a ≠ none) → Anc D c a) ∧
        ∀ y, (∀ b, best = some b → Anc D y b) → (∀ a ∈ l, (a = 0 ∨ D a ≠ none) → Anc D y a) → Anc D y c := by
  intro l
  induction l with
  | nil =>
    intro best _ hb
    refine ⟨best, rfl, ?_, ?_⟩
    · rintro (h | ⟨a, ha, _⟩)
      · cases best with
        | none => exact absurd rfl h
        | some c => exact ⟨c, rfl⟩
      · cases ha
    · rintro c rfl
      exact ⟨(hb c rfl).1, (hb c rfl).2, fun b e => (by injection e with e; subst e; exact .refl), fun a ha => (by cases ha), fun y h1 _ => h1 c rfl⟩
  | cons a l ih =>
    intro best hl hb
    have hla : ∀ x ∈ l, x < n := fun x hx => hl x (by simp [hx])
    unfold bestN
    by_cases h1 : a ≠ 0 ∧ D a = none
    · rw [if_pos h1]
      obtain ⟨r, r1, r2, r3⟩ := ih best hla hb
      refine ⟨r, r1, ?_, fun c hc => ?_⟩
      · rintro (h | ⟨x, hx, hk⟩)
        · exact r2 (.inl h)
        · rcases List.mem_cons.1 hx with rfl | hx
          · rcases hk with hk | hk
            · exact absurd hk h1.1
            · exact absurd h1.2 hk
          · exact r2 (.inr ⟨x, hx, hk⟩)
      · obtain ⟨q1, q2, q3, q4, q5⟩ := r3 c hc
        refine ⟨q1, q2, q3, fun x hx hk => ?_, fun y y1 y2 => q5 y y1 fun x hx => y2 x (by simp [hx])⟩
        rcases List.mem_cons.1 hx with rfl | hx
        · rcases hk with hk | hk
          · exact absurd hk h1.1
          · exact absurd h1.2 hk
        · exact q4 x hx hk
    · rw [if_neg h1]
      have hka : a = 0 ∨ D a ≠ none := by
        by_cases h0 : a = 0
        · exact .inl h0
        · exact .inr fun e => h1 ⟨h0, e⟩
      have han : a < n := hl a (by simp)
      cases best with
      | none =>
        simp only
        obtain ⟨r, r1, r2, r3⟩ := ih (some a) hla (fun b e => by injection e with e; subst e; exact ⟨han, hka⟩)
        refine ⟨r, r1, fun _ => r2 (.inl (by simp)), fun c hc => ?_⟩
        obtain ⟨q1, q2, q3, q4, q5⟩ := r3 c hc
        refine ⟨q1, q2, fun b e => (by cases e), fun x hx hk => ?_, fun y _ y2 => q5 y (fun b e => by injection e with e; subst e; exact y2 a (by simp) hka) fun x hx => y2 x (by simp [hx])⟩
        rcases List.mem_cons.1 hx with rfl | hx
        · exact q3 x rfl
        · exact q4 x hx hk
      | some b =>
        simp only
        obtain ⟨hbn, hbk⟩ := hb b rfl
        obtain ⟨c, c1, c2, c3, c4⟩ := comN_spec hn h k b a hbn han hbk hka (hk b a hbn han)
        rw [c1, Option.bind_some]
        obtain ⟨r, r1, r2, r3⟩ := ih (some c) hla (fun x e => by injection e with e; subst e; exact ⟨h.lt_n c2 hbn, h.known c2 hbk⟩)
        refine ⟨r, r1, fun _ => r2 (.inl (by simp)), fun d hd => ?_⟩
        obtain ⟨q1, q2, q3, q4, q5⟩ := r3 d hd
        refine ⟨q1, q2, fun x e => (by injection e with e; subst e; exact (q3 c rfl).trans c2), fun x hx hk => ?_,
          fun y y1 y2 => q5 y (fun x e => by injection e with e; subst e; exact c4 y (y1 b rfl) (y2 a (by simp) hka)) fun x hx => y2 x (by simp [hx])⟩
        rcases List.mem_cons.1 hx with rfl | hx
        · exact (q3 c rfl).trans c3
        · exact q4 x hx hk

/-! ### one block mended -/
def upd (D : Nat → Option Nat) (b c : Nat) : Nat → Option Nat := fun x => if x = b then some c else D x
/-- what bestN gives of b's predecessors -/
structure Best (n : Nat) (P : Nat → List Nat) (D : Nat → Option Nat) (b c : Nat) : Prop where
  lt : c < n
  known : c = 0 ∨ D c ≠ none
  below : ∀ p ∈ P b, (p = 0 ∨ D p ≠ none) → Anc D c p
  near : ∀ y, (∀ p ∈ P b, (p = 0 ∨ D p ≠ none) → Anc D y p) → Anc D y c

/-- the way up from what b does not stand above of is as it was -/
theorem anc_upd_of_not {b c y x : Nat} (hb : ¬ Anc D b x) : Anc (upd D b c) y x ↔ Anc D y x := by
  constructor
  · intro h
    induction h with
    | refl => exact .refl
    | @up x z e _ ih =>
      have hx : x ≠ b := fun e1 => hb (e1 ▸ .refl)
      rw [upd, if_neg hx] at e
      exact .up e (ih fun k => hb (.up e k))
  · intro h
    induction h with
    | refl => exact .refl
    | @up x z e _ ih =>
      have hx : x ≠ b := fun e1 => hb (e1 ▸ .refl)
      exact .up (by rw [upd, if_neg hx]; exact e) (ih fun k => hb (.up e k))
/-- b stands above the same as before -/
theorem anc_upd_b {b c x : Nat} (h : Tr n P num par D) (hc : num c < num b) : Anc (upd D b c) b x ↔ Anc D b x := by
  have hbc : ¬ Anc D b c := fun k => by have := h.num_le k; omega
  constructor
  · intro k
    generalize hy : b = y at k
    induction k with
    | refl => exact hy ▸ .refl
    | @up x z e k ih =>
      subst hy
      by_cases hx : x = b
      · subst hx; exact .refl
      · rw [upd, if_neg hx] at e; exact .up e ih
  · intro k
    generalize hy : b = y at k
    induction k with
    | refl => exact .refl
    | @up x z e k ih =>
      subst hy
      by_cases hx : x = b
      · subst hx; exact .refl
      · exact .up (by rw [upd, if_neg hx]; exact e) ih
theorem anc_upd_of {b c y x : Nat} (h : Tr n P num par D) (hc : num c < num b) (hb : Anc D b x) : Anc (upd D b c) y x ↔ (Anc D y x ∧ Anc D b y) ∨ Anc D y c := by
  have hbc : ¬ Anc D b c := fun k => by have := h.num_le k; omega
  constructor
  · intro k
    induction k with
    | refl => exact .inl ⟨.refl, hb⟩
    | @up x z e k ih =>
      by_cases hx : x = b
      · subst hx
        rw [upd, if_pos rfl] at e
        injection e with e
        subst e
        exact .inr ((anc_upd_of_not hbc).1 k)
      · rw [upd, if_neg hx] at e
        rcases hb.cases' with e1 | ⟨z', e', hb'⟩
        · exact absurd e1.symm hx
        · rw [e] at e'; injection e' with e'; subst e'
          rcases ih hb' with ⟨h1, h2⟩ | h1
          · exact .inl ⟨.up e h1, h2⟩
          · exact .inr h1
  · rintro (⟨h1, h2⟩ | h1)
    · induction h1 with
      | refl => exact .refl
      | @up x z e k ih =>
        by_cases hx : x = b
        · subst hx
          have h3 := h.num_le h2
          have h4 := h.num_le k
          have h5 := (h.lt _ _ e).2.2
          omega
        · refine .up (by rw [upd, if_neg hx]; exact e) (ih ?_)
          rcases hb.cases' with e1 | ⟨z', e', hb'⟩
          · exact absurd e1.symm hx
          · rw [e] at e'; injection e' with e'; subst e'; exact hb'
    · have : Anc (upd D b c) b x := (anc_upd_b h hc).2 hb
      exact ((anc_upd_of_not hbc).2 h1 |> fun k => Anc.up (by rw [upd, if_pos rfl]) k).trans this

/-- mended, it is a tree all the same -/
theorem Tr.upd (hn : Net n P num par) (h : Tr n P num par D) {b c : Nat} (hb : b < n) (h0 : b ≠ 0) (hB : Best n P D b c) (hp : par b = 0 ∨ D (par b) ≠ none) :
    num c < num b ∧ Tr n P num par (upd D b c) := by
  obtain ⟨p1, p2⟩ := hn.par b hb h0
  have hcp := hB.below _ p1 hp
  have hc : num c < num b := by have := h.num_le hcp; omega
  have hkn : ∀ x, x = 0 ∨ Go.Proofs.Ytkmgbejhbkbaoaa.upd D b c x ≠ none ↔ (x = 0 ∨ D x ≠ none) ∨ x = b := by
    intro x
    unfold Go.Proofs.Ytkmgbejhbkbaoaa.upd
    by_cases hx : x = b
    · simp [hx]
    · simp [hx]
  refine ⟨hc, ⟨by simp [Go.Proofs.Ytkmgbejhbkbaoaa.upd, h0.symm, h.zero], ?_, ?_, ?_, ?_⟩⟩
  · intro x z e
    unfold Go.Proofs.Ytkmgbejhbkbaoaa.upd at e
    split at e
    · rename_i hx; subst hx; injection e with e; subst e; exact ⟨hb, hB.lt, hc⟩
    · exact h.lt x z e
  · intro x z e
    have h2 : z = 0 ∨ D z ≠ none := by
      unfold Go.Proofs.Ytkmgbejhbkbaoaa.upd at e
      split at e
      · injection e with e; subst e; exact hB.known
      · exact h.up x z e
    exact (hkn z).2 (.inl h2)
  · intro x z e
    unfold Go.Proofs.Ytkmgbejhbkbaoaa.upd at e
    split at e
    · rename_i hx; subst hx; injection e with e; subst e
      exact .up h0 (h.panc hcp)
    · exact h.pa x z e
  · intro x hx y hy
    have hdomb : ∀ y, y ≠ b → ¬ Rw P n y b → Anc D y c := fun y hyb hyr => hB.near y fun p hp hk => h.dom p hk y fun hr => hyr (.step hr hb hp (fun e => hyb e.symm))
    by_cases hbx : Anc D b x
    · rw [anc_upd_of h hc hbx]
      by_cases hyb : y = b
      · subst hyb; exact .inl ⟨hbx, .refl⟩
      by_cases hxb : x = b
      · subst hxb; exact .inr (hdomb y hyb hy)
      · have hxk : x = 0 ∨ D x ≠ none := by
          rcases (hkn x).1 hx with h1 | h1
          · exact h1
          · exact absurd h1 hxb
        have hyx := h.dom x hxk y hy
        rcases hyx.line hbx with h1 | h1
        · refine .inr (hdomb y hyb fun hr => hy ?_)
          have hxn : x < n := by
            rcases hxk with h2 | h2
            · subst h2; exact hn.pos
            · cases e : D x with
              | none => exact absurd e h2
              | some z => exact (h.lt x z e).1
          exact hn.down hxn (h.panc hbx) (h.num_lt h1 hyb) hr
        · exact .inl ⟨hyx, h1⟩
    · rw [anc_upd_of_not hbx]
      have hxk : x = 0 ∨ D x ≠ none := by
        rcases (hkn x).1 hx with h1 | h1
        · exact h1
        · exact absurd (h1 ▸ Anc.refl) hbx
      exact h.dom x hxk y hy
/-- what has a lesser number than b has the same way up -/
theorem anc_upd_low {b c y x : Nat} (h : Tr n P num par D) (hx : num x < num b) : Anc (Go.Proofs.Ytkmgbejhbkbaoaa.upd D b c) y x ↔ Anc D y x :=
  anc_upd_of_not fun k => by have := h.num_le k; omega
/-- of those with a greater number than b it is told the same -/
theorem anc_upd_high {b c y x : Nat} (h : Tr n P num par D) (hc : num c < num b) (hy : num b < num y) : Anc (Go.Proofs.Ytkmgbejhbkbaoaa.upd D b c) y x ↔ Anc D y x := by
  by_cases hb : Anc D b x
  · rw [anc_upd_of h hc hb]
    constructor
    · rintro (h1 | h1)
      · exact h1.1
      · have := h.num_le h1; omega
    · intro h1
      rcases h1.line hb with h2 | h2
      · have := h.num_le h2; omega
      · exact .inl ⟨h1, h2⟩
  · exact anc_upd_of_not hb
end
end Go.Proofs.Ytkmgbejhbkbaoaa
