/- Plain: rows changed one by one. -/
import Derived.Test.YtkmgbejhbkbaoaaL2
namespace Go.Proofs.Ytkmgbejhbkbaoaa
set_option linter.unusedSimpArgs false
set_option linter.unusedVariables false
def mixI {α : Type} (f : Nat → α → α) (xs : List α) (i : Nat) : List α := xs.mapIdx fun j x => if j < i then f j x else x
section
variable {α : Type} {f : Nat → α → α} {xs : List α} {i j : Nat}
@[simp] theorem mixI_len : (mixI f xs i).length = xs.length := by simp [mixI]
theorem mixI_zero : mixI f xs 0 = xs := by
  refine List.ext_getElem (by simp) fun j h1 h2 => ?_
  simp [mixI]
theorem mixI_get (hj : j < xs.length) : (mixI f xs i)[j]'(by simpa using hj) = if j < i then f j xs[j] else xs[j] := by simp [mixI]
theorem mixI_at (hi : i < xs.length) : (mixI f xs i)[i]'(by simpa using hi) = xs[i] := by simp [mixI]
theorem mixI_set (hi : i < xs.length) : (mixI f xs i).set i (f i xs[i]) = mixI f xs (i + 1) := by
  refine List.ext_getElem (by simp) fun j h1 h2 => ?_
  have hj : j < xs.length := by simpa using h2
  rw [List.getElem_set, mixI_get hj, mixI_get hj]
  by_cases h : i = j
  · subst h; simp
  · rw [if_neg h]
    by_cases h3 : j < i
    · rw [if_pos h3, if_pos (by omega)]
    · rw [if_neg h3, if_neg (by omega)]
theorem mixI_all : mixI f xs xs.length = xs.mapIdx f := by
  refine List.ext_getElem (by simp) fun j h1 h2 => ?_
  have hj : j < xs.length := by simpa using h2
  rw [mixI_get hj, if_pos hj, List.getElem_mapIdx]
theorem mixI_map {g : α → α} : mixI (fun _ => g) xs xs.length = xs.map g := by
  rw [mixI_all]
  refine List.ext_getElem (by simp) fun j h1 h2 => ?_
  simp
theorem mixI_left {ys : List α} : mixI f (xs ++ ys) xs.length = xs.mapIdx f ++ ys := by
  refine List.ext_getElem (by simp) fun j h1 h2 => ?_
  have hj : j < (xs ++ ys).length := by simpa using h2
  rw [mixI_get hj]
  by_cases h : j < xs.length
  · rw [if_pos h]
    simp [h]
  · rw [if_neg h]
    simp [List.getElem_append, h]
theorem mixI_same (hi : i < xs.length) (h : f i xs[i] = xs[i]) : mixI f xs (i + 1) = mixI f xs i := by
  rw [← mixI_set hi, h]
  have := mixI_at (f := f) hi
  conv => lhs; rw [← this]
  exact List.set_getElem_self _
end
end Go.Proofs.Ytkmgbejhbkbaoaa
