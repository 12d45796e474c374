/- Plain: what depth first leaves: who is reached, each once, each behind one from which it comes. -/
import Derived.Test.YtkmgbejhbkbaoaaM2
namespace Go.Proofs.Ytkmgbejhbkbaoaa
set_option linter.unusedSimpArgs false
set_option linter.unusedVariables false

/-- an edge -/
def Ed (g : List (List Nat)) (x y : Nat) : Prop := y ∈ g.getD x []
/-- what is reached from a -/
inductive Rch (g : List (List Nat)) (a : Nat) : Nat → Prop
  | refl : Rch g a a
  | step {x y : Nat} : Rch g a x → Ed g x y → Rch g a y
theorem Rch.trans {g : List (List Nat)} {a b c : Nat} (h : Rch g a b) (k : Rch g b c) : Rch g a c := by
  induction k with
  | refl => exact h
  | step _ e ih => exact ih.step e

/-- what a walk from a, or along a row, adds -/
structure Seg (g : List (List Nat)) (st st' : DS) (seg : List Nat) : Prop where
  out : st'.2 = st.2 ++ seg
  there : ∀ x, st'.1.getD x false = true ↔ st.1.getD x false = true ∨ x ∈ seg
  new : ∀ x ∈ seg, st.1.getD x false = false
  nodup : seg.Nodup
  closed : ∀ x ∈ seg, ∀ y, Ed g x y → st'.1.getD y false = true
theorem Seg.refl (g : List (List Nat)) (st : DS) : Seg g st st [] := ⟨by simp, by simp, by simp, by simp, by simp⟩
theorem Seg.trans {g : List (List Nat)} {a b c : DS} {s t : List Nat} (h : Seg g a b s) (k : Seg g b c t) : Seg g a c (s ++ t) := by
  refine ⟨by rw [k.out, h.out, List.append_assoc], fun x => ?_, fun x hx => ?_, ?_, fun x hx y hy => ?_⟩
  · rw [k.there, h.there, List.mem_append, or_assoc]
  · rcases List.mem_append.1 hx with hx | hx
    · exact h.new x hx
    · have h1 := k.new x hx
      cases h2 : a.1.getD x false with
      | false => rfl
      | true => rw [(h.there x).2 (.inl h2)] at h1; cases h1
  · refine List.nodup_append.2 ⟨h.nodup, k.nodup, ?_⟩
    rintro x hx y hy rfl
    have h1 := k.new x hy
    rw [(h.there x).2 (.inr hx)] at h1
    cases h1
  · rcases List.mem_append.1 hx with hx | hx
    · exact (k.there y).2 (.inl (h.closed x hx y hy))
    · exact k.closed x hx y hy

/-- each but those in R has one, later on in the row, from which an edge comes -/
def Par (g : List (List Nat)) (R : Nat → Prop) (seg : List Nat) : Prop := ∀ pre b post, seg = pre ++ b :: post → R b ∨ ∃ p ∈ post, Ed g p b
theorem Par.append {g : List (List Nat)} {R : Nat → Prop} {s t : List Nat} (h : Par g R s) (k : Par g R t) : Par g R (s ++ t) := by
  intro pre b post he
  rcases List.append_eq_append_iff.1 he with ⟨u, rfl, hu⟩ | ⟨u, hs, hu⟩
  · exact k u b post hu
  · cases u with
    | nil => simp at hu; exact k [] b post (by simpa using hu.symm)
    | cons c u =>
      simp at hu
      obtain ⟨rfl, rfl⟩ := hu
      rcases h pre b u hs with h1 | ⟨p, hp, he⟩
      · exact .inl h1
      · exact .inr ⟨p, by simp [hp], he⟩

theorem getD_set {l : List Bool} {a x : Nat} (ha : a < l.length) : (l.set a true).getD x false = true ↔ l.getD x false = true ∨ x = a := by
  simp only [List.getD_eq_getElem?_getD, List.getElem?_set]
  by_cases h : a = x
  · subst h; simp [ha]
  · simp [h, show ¬ x = a from fun e => h e.symm]

theorem dfs_seg (g : List (List Nat)) : ∀ (k : Nat) (st : DS) (a : Nat), a < st.1.length → st.1.getD a false = false → st.1.count false ≤ k → (∀ row ∈ g, ∀ b ∈ row, b < st.1.length) →
    ∃ seg, Seg g st (dfs g k st a) (seg ++ [a]) ∧ Par g (fun b => b = a) (seg ++ [a]) ∧ ∀ x ∈ seg ++ [a], Rch g a x
  | 0, st, a, ha, hf, hc, _ => by
    have h1 : st.1[a] = false := by simpa [List.getD, ha] using hf
    have h2 : 0 < st.1.count false := List.count_pos_iff.2 (h1 ▸ List.getElem_mem ha)
    omega
  | k + 1, st, a, ha, hf, hc, hg => by
    have hfa : st.1[a] = false := by simpa [List.getD, ha] using hf
    obtain ⟨c1, c2⟩ := count_set_true ha hfa
    have key : ∀ (row : List Nat) (s : DS), (∀ b ∈ row, b < s.1.length ∧ Ed g a b) → s.1.length = st.1.length → s.1.count false ≤ k →
        ∃ seg, Seg g s (dfsRow g k s row) seg ∧ Par g (fun b => b ∈ row) seg ∧ (∀ x ∈ seg, Rch g a x) ∧ ∀ b ∈ row, (dfsRow g k s row).1.getD b false = true := by
      intro row
      induction row with
      | nil => intro s _ _ _; exact ⟨[], Seg.refl g s, fun pre b post h => by simp at h, by simp, by simp⟩
      | cons b row ih =>
        intro s hb hl hck
        have h2 : dfsRow g k s (b :: row) = dfsRow g k (if s.1.getD b false then s else dfs g k s b) row := rfl
        rw [h2]
        by_cases hbt : s.1.getD b false = true
        · rw [if_pos hbt]
          obtain ⟨seg, h3, h4, h5, h6⟩ := ih s (fun x hx => hb x (by simp [hx])) hl hck
          refine ⟨seg, h3, fun pre c post he => ?_, h5, fun x hx => ?_⟩
          · rcases h4 pre c post he with h7 | h7
            · exact .inl (by simp [h7])
            · exact .inr h7
          · rcases List.mem_cons.1 hx with rfl | hx
            · exact (h3.there x).2 (.inl hbt)
            · exact h6 x hx
        · rw [if_neg hbt]
          have hbf : s.1.getD b false = false := by simpa using hbt
          have hgs : ∀ row ∈ g, ∀ b ∈ row, b < s.1.length := fun row hr x hx => by rw [hl]; exact hg row hr x hx
          obtain ⟨seg1, g1, g2, g3⟩ := dfs_seg g k s b (hb b (by simp)).1 hbf hck hgs
          have hkp := dfs_keep g k s b (hb b (by simp)).1 hbf hgs
          obtain ⟨seg2, h3, h4, h5, h6⟩ := ih (dfs g k s b) (fun x hx => ⟨by rw [hkp.len]; exact (hb x (by simp [hx])).1, (hb x (by simp [hx])).2⟩) (hkp.len.trans hl) (Nat.le_trans hkp.cnt hck)
          refine ⟨(seg1 ++ [b]) ++ seg2, g1.trans h3, Par.append (fun pre c post he => ?_) (fun pre c post he => ?_), fun x hx => ?_, fun x hx => ?_⟩
          · rcases g2 pre c post he with h7 | h7
            · exact .inl (by simp [h7])
            · exact .inr h7
          · rcases h4 pre c post he with h7 | h7
            · exact .inl (by simp [h7])
            · exact .inr h7
          · rcases List.mem_append.1 hx with hx | hx
            · exact (Rch.refl.step (hb b (by simp)).2).trans (g3 x hx)
            · exact h5 x hx
          · rcases List.mem_cons.1 hx with rfl | hx
            · exact (h3.there x).2 (.inl ((g1.there x).2 (.inr (by simp))))
            · exact h6 x hx
    have hrow : ∀ b ∈ g.getD a [], b < (st.1.set a true, st.2).1.length ∧ Ed g a b := by
      intro b hb
      refine ⟨?_, hb⟩
      rw [List.length_set]
      by_cases h : a < g.length
      · rw [List.getD_eq_getElem?_getD, List.getElem?_eq_getElem h] at hb
        exact hg _ (List.getElem_mem h) b hb
      · rw [List.getD_eq_getElem?_getD, List.getElem?_eq_none (by omega)] at hb
        simp at hb
    obtain ⟨seg, h3, h4, h5, h6⟩ := key (g.getD a []) (st.1.set a true, st.2) hrow (by simp) (by simp only; omega)
    rw [dfs_succ]
    have hna : a ∉ seg := fun h => by
      have := h3.new a h
      rw [(getD_set ha).2 (.inr rfl)] at this
      cases this
    refine ⟨seg, ⟨by simp only [h3.out, List.append_assoc], fun x => ?_, fun x hx => ?_, ?_, fun x hx y hy => ?_⟩, fun pre b post he => ?_, fun x hx => ?_⟩
    · simp only [h3.there, getD_set ha, List.mem_append, List.mem_singleton]
      constructor
      · rintro ((h | h) | h)
        · exact .inl h
        · exact .inr (.inr h)
        · exact .inr (.inl h)
      · rintro (h | h | h)
        · exact .inl (.inl h)
        · exact .inr h
        · exact .inl (.inr h)
    · rcases List.mem_append.1 hx with hx | hx
      · have := h3.new x hx
        cases h : st.1.getD x false with
        | false => rfl
        | true => rw [(getD_set ha).2 (.inl h)] at this; cases this
      · simp at hx; subst hx; exact hf
    · refine List.nodup_append.2 ⟨h3.nodup, by simp, ?_⟩
      rintro x hx y hy rfl
      simp at hy; subst hy; exact hna hx
    · rcases List.mem_append.1 hx with hx | hx
      · exact h3.closed x hx y hy
      · simp at hx; subst hx; exact h6 y hy
    · rcases List.append_eq_append_iff.1 he with ⟨u, hu1, hu2⟩ | ⟨u, hs, hu⟩
      · cases u with
        | nil => simp at hu2; exact .inl hu2.1.symm
        | cons c u => simp at hu2
      · cases u with
        | nil => simp at hu; exact .inl hu.1
        | cons c u =>
          simp at hu
          obtain ⟨rfl, rfl⟩ := hu
          rcases h4 pre b u hs with h7 | ⟨p, hp, hpe⟩
          · exact .inr ⟨a, by simp, h7⟩
          · exact .inr ⟨p, by simp [hp], hpe⟩
    · rcases List.mem_append.1 hx with hx | hx
      · exact h5 x hx
      · simp at hx; subst hx; exact .refl

/-- what Order leaves -/
structure Ord (g : List (List Nat)) (o : List Nat) : Prop where
  nodup : o.Nodup
  mem : ∀ x, x ∈ o ↔ Rch g 0 x
  first : ∃ r, o = 0 :: r
  par : ∀ pre b post, o = pre ++ b :: post → b = 0 ∨ ∃ p ∈ pre, Ed g p b
theorem orderF_ord {g : List (List Nat)} (h0 : 0 < g.length) (hg : ∀ row ∈ g, ∀ b ∈ row, b < g.length) : Ord g (orderF g) := by
  obtain ⟨seg, h1, h2, h3⟩ := dfs_seg g g.length (List.replicate g.length false, []) 0 (by simpa using h0) (by simp [List.getD, List.getElem?_replicate, h0]) (by simp) (by simpa using hg)
  have ho : orderF g = 0 :: seg.reverse := by
    rw [orderF, if_neg (by omega), h1.out]
    simp
  have hm : ∀ x, x ∈ orderF g ↔ x ∈ seg ++ [0] := fun x => by rw [ho]; simp [or_comm]
  have hthere : ∀ x, (dfs g g.length (List.replicate g.length false, []) 0).1.getD x false = true ↔ x ∈ seg ++ [0] := fun x => by
    rw [h1.there]
    constructor
    · rintro (h | h)
      · simp only [List.getD_eq_getElem?_getD, List.getElem?_replicate] at h
        split at h <;> simp at h
      · exact h
    · exact .inr
  refine ⟨?_, fun x => ?_, ⟨_, ho⟩, fun pre b post he => ?_⟩
  · have := h1.nodup
    rw [ho]
    have h5 : (0 :: seg.reverse) = (seg ++ [0]).reverse := by simp
    rw [h5]
    exact ((List.reverse_perm (seg ++ [0])).nodup_iff).2 this
  · rw [hm]
    constructor
    · exact h3 x
    · intro h
      induction h with
      | refl => simp
      | step _ e ih => exact (hthere _).1 (h1.closed _ ih _ e)
  · have he2 : seg ++ [0] = post.reverse ++ b :: pre.reverse := by
      have := congrArg List.reverse he
      rw [ho] at this
      simpa using this
    rcases h2 post.reverse b pre.reverse he2 with h | ⟨p, hp, hpe⟩
    · exact .inl h
    · exact .inr ⟨p, by simpa using hp, hpe⟩
end Go.Proofs.Ytkmgbejhbkbaoaa
