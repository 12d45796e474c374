/- Plain: rows of numbers sorted, each once. -/
import Derived.Lib.SlicesCompact
import Derived.Lib.RowBridge
namespace Go.Proofs.Ytkmgbejhbkbaoaa
set_option linter.unusedSimpArgs false
set_option linter.unusedVariables false

/-- the numbers of a row that are below n, rising, each once -/
def keptF (row : List Int) (n : Nat) : List Nat := (List.range n).filter fun b => row.contains (b : Int)

theorem mem_keptF {row : List Int} {n b : Nat} : b ∈ keptF row n ↔ b < n ∧ (b : Int) ∈ row := by
  simp [keptF, List.mem_filter]
theorem keptF_sorted (row : List Int) (n : Nat) : (keptF row n).Pairwise (· < ·) := List.Pairwise.filter _ List.pairwise_lt_range

theorem sorted_ext {l1 l2 : List Int} (h1 : l1.Pairwise (· < ·)) (h2 : l2.Pairwise (· < ·)) (h : ∀ x, x ∈ l1 ↔ x ∈ l2) : l1 = l2 := by
  refine List.Perm.eq_of_pairwise (le := (· < ·)) (fun a b _ _ h1 h2 => by omega) h1 h2 ?_
  exact (List.perm_ext_iff_of_nodup (h1.imp (fun h => by omega)) (h2.imp (fun h => by omega))).2 h

theorem compactUpTo_spec (d : Array Int) (hs : ∀ i j, i < j → j < d.size → d[i]! ≤ d[j]!) (m : Nat) (hm : m ≤ d.size) :
    (Lib.compactUpTo d m).Pairwise (· < ·) ∧ ∀ x, x ∈ Lib.compactUpTo d m ↔ ∃ j, j < m ∧ d[j]! = x := by
  induction m with
  | zero => simp [Lib.compactUpTo]
  | succ m ih =>
    obtain ⟨h1, h2⟩ := ih (by omega)
    rw [Lib.compactUpTo_succ]
    by_cases hk : Lib.keeps d m = true
    · rw [if_pos hk]
      refine ⟨List.pairwise_append.2 ⟨h1, List.pairwise_singleton _ _, ?_⟩, ?_⟩
      · intro a ha b hb
        rw [List.mem_singleton.1 hb]
        obtain ⟨j, hj, rfl⟩ := (h2 a).1 ha
        simp only [Lib.keeps, decide_eq_true_eq] at hk
        rcases hk with rfl | hk
        · omega
        · have e1 : d[m - 1]! ≤ d[m]! := hs (m - 1) m (by omega) (by omega)
          have e2 : d[j]! ≤ d[m - 1]! := by
            rcases Nat.lt_or_ge j (m - 1) with h | h
            · exact hs j (m - 1) h (by omega)
            · have : j = m - 1 := by omega
              rw [this]; exact Int.le_refl _
          omega
      · intro x
        rw [List.mem_append, h2, List.mem_singleton]
        constructor
        · rintro (⟨j, hj, rfl⟩ | rfl)
          · exact ⟨j, by omega, rfl⟩
          · exact ⟨m, by omega, rfl⟩
        · rintro ⟨j, hj, rfl⟩
          rcases Nat.lt_or_ge j m with h | h
          · exact .inl ⟨j, h, rfl⟩
          · have : j = m := by omega
            subst this; exact .inr rfl
    · rw [if_neg hk, List.append_nil]
      refine ⟨h1, fun x => ?_⟩
      rw [h2]
      simp only [Lib.keeps, decide_eq_true_eq, not_or, Decidable.not_not] at hk
      constructor
      · rintro ⟨j, hj, rfl⟩; exact ⟨j, by omega, rfl⟩
      · rintro ⟨j, hj, rfl⟩
        rcases Nat.lt_or_ge j m with h | h
        · exact ⟨j, h, rfl⟩
        · have : j = m := by omega
          subst this
          exact ⟨j - 1, by have := hk.1; omega, hk.2.symm⟩

theorem kept_spec (row : List Int) (n : Nat) :
    Lib.compact ((row.filter fun b : Int => decide (0 ≤ b) && decide (b < n)).mergeSort fun x y => decide (x ≤ y)) = (keptF row n).map Int.ofNat := by
  have hp := List.pairwise_mergeSort (le := fun x y : Int => decide (x ≤ y)) (fun a b c h1 h2 => by simp at *; omega) (fun a b => by simp; omega) (row.filter fun b : Int => decide (0 ≤ b) && decide (b < n))
  have hm := fun x => List.mem_mergeSort (le := fun x y : Int => decide (x ≤ y)) (a := x) (l := row.filter fun b : Int => decide (0 ≤ b) && decide (b < n))
  generalize (row.filter fun b : Int => decide (0 ≤ b) && decide (b < n)).mergeSort (fun x y => decide (x ≤ y)) = zs at *
  obtain ⟨h1, h2⟩ := compactUpTo_spec zs.toArray (fun i j hij hj => by
    have hj' : j < zs.length := by simpa using hj
    have := List.pairwise_iff_getElem.1 hp i j (by omega) hj' hij
    simpa [getElem!_pos, show i < zs.length by omega, hj'] using this) zs.length (by simp)
  refine sorted_ext h1 ?_ fun x => ?_
  · rw [List.pairwise_map]
    exact (keptF_sorted row n).imp fun h => by simpa using h
  · show x ∈ Lib.compactUpTo zs.toArray zs.length ↔ _
    rw [h2, List.mem_map]
    have e1 : (∃ j, j < zs.length ∧ zs.toArray[j]! = x) ↔ x ∈ zs := by
      rw [List.mem_iff_getElem]
      constructor
      · rintro ⟨j, hj, rfl⟩; exact ⟨j, hj, by simp [hj]⟩
      · rintro ⟨j, hj, rfl⟩; exact ⟨j, hj, by simp [hj]⟩
    rw [e1, hm, List.mem_filter]
    simp only [Bool.and_eq_true, decide_eq_true_eq, mem_keptF]
    constructor
    · rintro ⟨hx, h0, hn⟩
      exact ⟨x.toNat, ⟨by omega, by rwa [Int.toNat_of_nonneg h0]⟩, by show ((x.toNat : Nat) : Int) = x; omega⟩
    · rintro ⟨b, ⟨hb, hr⟩, rfl⟩
      exact ⟨hr, Int.natCast_nonneg _, by simpa using hb⟩
end Go.Proofs.Ytkmgbejhbkbaoaa
