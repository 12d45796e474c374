/- Rows copied into others. -/
import Derived.Test.YtkmgbejhbkbaoaaL2
namespace Go.Proofs.Ytkmgbejhbkbaoaa
set_option linter.unusedSimpArgs false
set_option linter.unusedVariables false
open Go.RowKit

section
variable {α : Type} {d : Kd α} {e : TypeId} {w w' : World} {S : List Nat} {v : Value} {xs : List α}
theorem elems_single {x : α} {cs : List Value} (h : d.rep w S x cs) : Elems d w [S] cs [x] := by
  refine ⟨rfl, fun i y hy => ?_⟩
  rcases i with _ | i
  · simp at hy; subst hy
    refine ⟨S, rfl, ?_⟩
    have hl := d.len h
    simpa [List.take_of_length_le (Nat.le_of_eq hl)] using h
  · simp at hy
theorem mem_chunk {l : List Value} {n sz : Nat} (h0 : 0 < sz) (hl : l.length = n * sz) {u : Value} (hu : u ∈ l) : ∃ i, i < n ∧ u ∈ (l.drop (i * sz)).take sz := by
  obtain ⟨j, hj, rfl⟩ := List.getElem_of_mem hu
  have hlt : j / sz < n := by rw [Nat.div_lt_iff_lt_mul h0]; omega
  refine ⟨j / sz, hlt, ?_⟩
  have h1 : j / sz * sz + j % sz = j := Nat.div_add_mod' j sz
  have h2 := Nat.mod_lt j h0
  refine List.mem_of_getElem? (i := j % sz) ?_
  rw [List.getElem?_take_of_lt h2, List.getElem?_drop, h1, List.getElem?_eq_getElem hj]
/-- a slice's elements as a source -/
theorem SlR.src (h : SlR d e w S v xs) (h0 : 0 < d.sz) : ∃ news Sy, Elems d w Sy news xs ∧ news.length = xs.length * d.sz ∧ (∀ u ∈ news, u.oneCell' = true) ∧ Src w v xs.length news ∧ (∀ k ∈ Sy.flatten, k ∈ S) ∧ (S.Nodup → Sy.flatten.Nodup) := by
  rcases h with ⟨A, rfl, rfl, rfl⟩ | ⟨g, cap, C, Ss, rfl, hc, h1, h2, hb, hC, hn, rfl, hE⟩
  · exact ⟨[], [], ⟨rfl, fun i x hx => by simp at hx⟩, by simp, by simp, ⟨A, 0, rfl, fun h => by simp at h⟩, by simp, by simp⟩
  · have hlen : (C.toList.take (xs.length * d.sz)).length = xs.length * d.sz := by
      have hcl : C.toList.length = cap * d.sz := by rw [Array.length_toList, hC]
      rw [List.length_take, hcl]; exact Nat.min_eq_left (Nat.mul_le_mul_right _ h1)
    have hE' : Elems d w Ss (C.toList.take (xs.length * d.sz)) xs := by
      refine ⟨hE.1, fun i x hx => ?_⟩
      obtain ⟨Si, hSi, hr⟩ := hE.2 i x hx
      refine ⟨Si, hSi, ?_⟩
      have hi : i < xs.length := (List.getElem?_eq_some_iff.1 hx).1
      have h3 : (i + 1) * d.sz ≤ xs.length * d.sz := Nat.mul_le_mul_right _ hi
      rw [Nat.add_mul, Nat.one_mul] at h3
      rw [List.drop_take, List.take_take, Nat.min_eq_left (by omega)]
      exact hr
    refine ⟨_, Ss, hE', hlen, fun u hu => ?_, ⟨_, cap, rfl, fun _ => ⟨_, rfl, fun j u hu => ?_⟩⟩, by simp; exact fun k l hl hk => .inr ⟨l, hl, hk⟩, fun hn => (List.nodup_cons.1 hn).2⟩
    · obtain ⟨i, hi, hu⟩ := mem_chunk h0 hlen hu
      obtain ⟨Si, _, hr⟩ := hE'.2 i xs[i] (List.getElem?_eq_getElem hi)
      exact d.one hr u hu
    · rw [Addr.add_lit, Nat.zero_add]
      refine hb.cell ?_
      rw [List.getElem?_take] at hu
      split at hu
      · simpa using hu
      · cases hu
theorem Src.ext0 {x : Value} {m : Nat} {news : List Value} (h : Src w x m news) (hx : Ext [] w w') : Src w' x m news := by
  obtain ⟨B, c, rfl, h⟩ := h
  refine ⟨B, c, rfl, fun hm => ?_⟩
  obtain ⟨a, rfl, h2⟩ := h hm
  exact ⟨a, rfl, fun j u hu => hx.cell (h2 j u hu) (by simp)⟩
theorem Elems.ext0 {Ss : List (List Nat)} {C : List Value} (h : Elems d w Ss C xs) (hx : Ext [] w w') : Elems d w' Ss C xs := h.move fun k hk => hx.block k (h.lt k hk) (by simp)
theorem le_bytesB {n b : Nat} (h : n ≤ 1073741824) (hb : b ≤ 1000) : (n + 1) * b ≤ 140737488355328 := Nat.le_trans (Nat.mul_le_mul (Nat.add_le_add_right h 1) hb) (by decide)
theorem le_bytesA {n b : Nat} (h : n ≤ 1073741824) (hb : b ≤ 1000) : n * b ≤ 140737488355328 := Nat.le_trans (Nat.mul_le_mul h hb) (by decide)
/-- what a made row's element adds -/
theorem New.append1 {w wr w1 w2 : World} {S S1 S' : List Nat} (h : New w wr S) (h1 : New wr w1 S1) {w1' : World} (ha : Ext [] w1 w1') (h2 : Ext S w1' w2) (hf : ∀ k ∈ S', k ∈ S ∨ k = w1'.heap.size ∨ k ∈ S1) (hn : S.Nodup → S1.Nodup → S'.Nodup) : New w w2 S' := by
  have hx : Ext [] w w1' := (h.ext.nil h1.ext).nil ha
  refine ⟨hx.trans h2 fun k hk => .inr (h.fresh k hk), fun k hk => ?_, hn h.nodup h1.nodup⟩
  have e1 := h.ext.size
  have e2 := h1.ext.size
  have e3 := ha.size
  rcases hf k hk with h3 | h3 | h3
  · exact h.fresh k h3
  · omega
  · have := h1.fresh k h3; omega
end
end Go.Proofs.Ytkmgbejhbkbaoaa
