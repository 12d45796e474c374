/- Plain: depth first. -/
import Derived.Test.YtkmgbejhbkbaoaaM1
namespace Go.Proofs.Ytkmgbejhbkbaoaa
set_option linter.unusedSimpArgs false
set_option linter.unusedVariables false

abbrev DS := List Bool × List Nat
/-- from block a on: what is there, and what was left, in order; k: a bound on the depth -/
def dfs (g : List (List Nat)) : Nat → DS → Nat → DS
  | 0, st, _ => st
  | k + 1, st, a =>
    let st' := (g.getD a []).foldl (fun st b => if st.1.getD b false then st else dfs g k st b) (st.1.set a true, st.2)
    (st'.1, st'.2 ++ [a])
def dfsRow (g : List (List Nat)) (k : Nat) (st : DS) (row : List Nat) : DS := row.foldl (fun st b => if st.1.getD b false then st else dfs g k st b) st
theorem dfs_succ (g : List (List Nat)) (k : Nat) (st : DS) (a : Nat) : dfs g (k + 1) st a = ((dfsRow g k (st.1.set a true, st.2) (g.getD a [])).1, (dfsRow g k (st.1.set a true, st.2) (g.getD a [])).2 ++ [a]) := rfl
theorem dfsRow_snoc (g : List (List Nat)) (k : Nat) (st : DS) (row : List Nat) (b : Nat) :
    dfsRow g k st (row ++ [b]) = if (dfsRow g k st row).1.getD b false then dfsRow g k st row else dfs g k (dfsRow g k st row) b := by
  simp [dfsRow, List.foldl_append]
/-- P2.2 -/
def orderF (g : List (List Nat)) : List Nat := if g.length = 0 then [] else (dfs g g.length (List.replicate g.length false, []) 0).2.reverse

theorem count_set_true {l : List Bool} {a : Nat} (ha : a < l.length) (h : l[a] = false) : (l.set a true).count false + 1 = l.count false ∧ (l.set a true).count true = l.count true + 1 := by
  induction l generalizing a with
  | nil => simp at ha
  | cons x l ih =>
    cases a with
    | zero => simp at h; subst h; simp
    | succ a =>
      simp at ha h
      obtain ⟨h1, h2⟩ := ih ha h
      simp only [List.set_cons_succ, List.count_cons]
      omega
/-- what a walk keeps -/
structure DKeep (st st' : DS) : Prop where
  len : st'.1.length = st.1.length
  up : ∀ i, st.1.getD i false = true → st'.1.getD i false = true
  cnt : st'.1.count false ≤ st.1.count false
  out : st'.2.length + st.1.count true = st.2.length + st'.1.count true
theorem DKeep.refl (st : DS) : DKeep st st := ⟨rfl, fun _ h => h, Nat.le_refl _, rfl⟩
theorem DKeep.trans {a b c : DS} (h : DKeep a b) (k : DKeep b c) : DKeep a c :=
  ⟨k.len.trans h.len, fun i hi => k.up i (h.up i hi), Nat.le_trans k.cnt h.cnt, by have := h.out; have := k.out; omega⟩
theorem dfs_keep (g : List (List Nat)) : ∀ (k : Nat) (st : DS) (a : Nat), a < st.1.length → st.1.getD a false = false → (∀ row ∈ g, ∀ b ∈ row, b < st.1.length) → DKeep st (dfs g k st a)
  | 0, st, a, _, _, _ => DKeep.refl st
  | k + 1, st, a, ha, hf, hg => by
    have hfa : st.1[a] = false := by simpa [List.getD, ha] using hf
    obtain ⟨c1, c2⟩ := count_set_true ha hfa
    have key : ∀ (row : List Nat) (s : DS), (∀ b ∈ row, b < s.1.length) → s.1.length = st.1.length → DKeep s (dfsRow g k s row) := by
      intro row
      induction row with
      | nil => intro s _ _; exact DKeep.refl s
      | cons b row ih =>
        intro s hb hl
        have h1 : DKeep s (if s.1.getD b false then s else dfs g k s b) := by
          split
          · exact DKeep.refl s
          · rename_i h
            exact dfs_keep g k s b (hb b (by simp)) (by simpa using h) (fun row hr x hx => by rw [hl]; exact hg row hr x hx)
        have h2 : dfsRow g k s (b :: row) = dfsRow g k (if s.1.getD b false then s else dfs g k s b) row := rfl
        rw [h2]
        exact h1.trans (ih _ (fun x hx => by rw [h1.len]; exact hb x (by simp [hx])) (h1.len.trans hl))
    have hrow : ∀ b ∈ g.getD a [], b < (st.1.set a true, st.2).1.length := by
      intro b hb
      rw [List.length_set]
      by_cases h : a < g.length
      · rw [List.getD_eq_getElem?_getD, List.getElem?_eq_getElem h] at hb
        exact hg _ (List.getElem_mem h) b hb
      · rw [List.getD_eq_getElem?_getD, List.getElem?_eq_none (by omega)] at hb
        simp at hb
    have h3 := key (g.getD a []) (st.1.set a true, st.2) hrow (by simp)
    rw [dfs_succ]
    refine ⟨by have := h3.len; simpa using this, fun i hi => ?_, ?_, ?_⟩
    · refine h3.up i ?_
      simp only [List.getD_eq_getElem?_getD, List.getElem?_set] at hi ⊢
      split
      · simp_all
      · exact hi
    · have := h3.cnt; simp only at this ⊢; omega
    · have := h3.out; simp only [List.length_append, List.length_singleton] at this ⊢; omega
theorem dfsRow_keep (g : List (List Nat)) (k : Nat) (row : List Nat) (s : DS) (hb : ∀ b ∈ row, b < s.1.length) (hg : ∀ row ∈ g, ∀ b ∈ row, b < s.1.length) : DKeep s (dfsRow g k s row) := by
  induction row generalizing s with
  | nil => exact DKeep.refl s
  | cons b row ih =>
    have h1 : DKeep s (if s.1.getD b false then s else dfs g k s b) := by
      split
      · exact DKeep.refl s
      · rename_i h
        exact dfs_keep g k s b (hb b (by simp)) (by simpa using h) hg
    have h2 : dfsRow g k s (b :: row) = dfsRow g k (if s.1.getD b false then s else dfs g k s b) row := rfl
    rw [h2]
    exact h1.trans (ih _ (fun x hx => by rw [h1.len]; exact hb x (by simp [hx])) (fun row hr x hx => by rw [h1.len]; exact hg row hr x hx))
end Go.Proofs.Ytkmgbejhbkbaoaa
