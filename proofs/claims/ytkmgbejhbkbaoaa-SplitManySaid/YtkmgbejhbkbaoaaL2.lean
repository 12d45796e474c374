/- An element of a slice opened, changed and shut; slices made. -/
import Derived.Test.YtkmgbejhbkbaoaaL1
import Derived.Laws.MakeOwn
namespace Go.Proofs.Ytkmgbejhbkbaoaa
set_option linter.unusedSimpArgs false
set_option linter.unusedVariables false
open Go.RowKit

/-- element i of a row at block g: its cells cs, the blocks Si that it leads to -/
structure SlAt {α : Type} (d : Kd α) (e : TypeId) (w : World) (S : List Nat) (g cap : Nat) (xs : List α) (i : Nat) (Si : List Nat) (cs : List Value) : Prop where
  ex : ∃ C Ss, 0 < cap ∧ xs.length ≤ cap ∧ cap ≤ maxLen ∧ Blk w g e C ∧ C.size = cap * d.sz ∧ g ∉ Ss.flatten ∧ S = g :: Ss.flatten ∧ Elems d w Ss C.toList xs ∧
    Ss[i]? = some Si ∧ cs = (C.toList.drop (i * d.sz)).take d.sz
  hi : i < xs.length
  rep : d.rep w Si xs[i] cs

theorem nodup_flatten_mem {L : List (List Nat)} (h : L.flatten.Nodup) {l : List Nat} (hl : l ∈ L) : l.Nodup := by
  unfold List.Nodup at *
  rw [List.pairwise_flatten] at h
  exact h.1 l hl
section
variable {α : Type} {d : Kd α} {e : TypeId} {w w1 : World} {S Si : List Nat} {v : Value} {xs : List α} {g cap i : Nat} {cs : List Value}
theorem SlR.at (h : SlR d e w S v xs) (i : Nat) (hi : i < xs.length) : ∃ g cap Si cs, v = .slice (some ⟨g, 0, none⟩) xs.length cap ∧ SlAt d e w S g cap xs i Si cs := by
  rcases h with ⟨A, rfl, rfl, rfl⟩ | ⟨g, cap, C, Ss, rfl, h0, h1, h2, hb, hC, hn, hS, hE⟩
  · simp at hi
  · obtain ⟨Si, hSi, hr⟩ := hE.2 i xs[i] (List.getElem?_eq_getElem hi)
    exact ⟨g, cap, Si, _, rfl, ⟨C, Ss, h0, h1, h2, hb, hC, hn, hS, hE, hSi, rfl⟩, hi, hr⟩
theorem SlAt.cell (h : SlAt d e w S g cap xs i Si cs) (j : Nat) {u : Value} (hu : cs[j]? = some u) : w.cell? ⟨g, i * d.sz + j, none⟩ = some u := by
  obtain ⟨⟨C, Ss, h0, h1, h2, hb, hC, hn, rfl, hE, hSi, rfl⟩, hi, hr⟩ := h
  refine hb.cell ?_
  rw [List.getElem?_take] at hu
  split at hu
  · rw [List.getElem?_drop] at hu
    simpa using hu
  · cases hu
theorem SlAt.frozen (h : SlAt d e w S g cap xs i Si cs) (j : Nat) : w.frozen? ⟨g, j, none⟩ = false := by
  obtain ⟨⟨C, Ss, h0, h1, h2, hb, _⟩, _⟩ := h
  exact hb.frozen j
theorem SlAt.slr (h : SlAt d e w S g cap xs i Si cs) : SlR d e w S (.slice (some ⟨g, 0, none⟩) xs.length cap) xs := by
  obtain ⟨⟨C, Ss, h0, h1, h2, hb, hC, hn, hS, hE, hSi, rfl⟩, hi, hr⟩ := h
  exact .inr ⟨g, cap, C, Ss, rfl, h0, h1, h2, hb, hC, hn, hS, hE⟩
theorem SlAt.mem (h : SlAt d e w S g cap xs i Si cs) : g ∈ S ∧ ∀ k ∈ Si, k ∈ S := by
  obtain ⟨⟨C, Ss, h0, h1, h2, hb, hC, hn, rfl, hE, hSi, rfl⟩, hi, hr⟩ := h
  exact ⟨by simp, fun k hk => List.mem_cons_of_mem _ (List.mem_flatten.2 ⟨Si, List.mem_of_getElem? hSi, hk⟩)⟩
theorem SlAt.notin (h : SlAt d e w S g cap xs i Si cs) : g ∉ Si := by
  obtain ⟨⟨C, Ss, h0, h1, h2, hb, hC, hn, rfl, hE, hSi, rfl⟩, hi, hr⟩ := h
  exact fun hk => hn (List.mem_flatten.2 ⟨Si, List.mem_of_getElem? hSi, hk⟩)
theorem SlAt.nodup (h : SlAt d e w S g cap xs i Si cs) (hn : S.Nodup) : Si.Nodup := by
  obtain ⟨⟨C, Ss, h0, h1, h2, hb, hC, hgn, rfl, hE, hSi, rfl⟩, hi, hr⟩ := h
  exact (nodup_flatten_mem (List.nodup_cons.1 hn).2 (List.mem_of_getElem? hSi))
theorem SlAt.lt (h : SlAt d e w S g cap xs i Si cs) : g < w.heap.size := h.slr.lt g h.mem.1
theorem SlAt.ext (h : SlAt d e w S g cap xs i Si cs) {M : List Nat} (hx : Ext M w w1) (hd : ∀ k ∈ S, k ∉ M) : SlAt d e w1 S g cap xs i Si cs := by
  have hm := h.mem
  obtain ⟨⟨C, Ss, h0, h1, h2, hb, hC, hn, hS, hE, hSi, hcs⟩, hi, hr⟩ := h
  exact ⟨⟨C, Ss, h0, h1, h2, hb.ext hx (hd g hm.1), hC, hn, hS, hE.move fun k hk => hx.block k (hE.lt k hk) (hd k (by rw [hS]; exact List.mem_cons_of_mem _ hk)), hSi, hcs⟩, hi, d.ext hr hx fun k hk => hd k (hm.2 k hk)⟩
theorem SlAt.ext0 (h : SlAt d e w S g cap xs i Si cs) (hx : Ext [] w w1) : SlAt d e w1 S g cap xs i Si cs := h.ext hx fun _ _ => by simp
theorem SlAt.len (h : SlAt d e w S g cap xs i Si cs) : cs.length = d.sz := d.len h.rep

theorem nodup_flat {L : List (List Nat)} : L.flatten.Nodup ↔ (∀ l ∈ L, l.Nodup) ∧ L.Pairwise (fun a b => ∀ k ∈ a, k ∉ b) := by
  unfold List.Nodup
  rw [List.pairwise_flatten]
  refine and_congr Iff.rfl ⟨fun h => h.imp fun h k hk hb => h k hk k hb rfl, fun h => h.imp fun h x hx y hy => ?_⟩
  rintro rfl
  exact h x hx hy
theorem flatten_disj {Ss : List (List Nat)} (hn : Ss.flatten.Nodup) {i j : Nat} {A B : List Nat} (hA : Ss[i]? = some A) (hB : Ss[j]? = some B) (hij : i ≠ j) : ∀ k ∈ A, k ∉ B := by
  obtain ⟨hi, rfl⟩ := List.getElem?_eq_some_iff.1 hA
  obtain ⟨hj, rfl⟩ := List.getElem?_eq_some_iff.1 hB
  intro k h1 h2
  have hp := (nodup_flat.1 hn).2
  rcases Nat.lt_or_ge i j with h | h
  · exact List.pairwise_iff_getElem.1 hp i j hi hj h k h1 h2
  · exact List.pairwise_iff_getElem.1 hp j i hj hi (by omega) k h2 h1
theorem mem_flatten_set {Ss : List (List Nat)} {i : Nat} {A : List Nat} {k : Nat} (hk : k ∈ (Ss.set i A).flatten) : k ∈ A ∨ ∃ j B, j ≠ i ∧ Ss[j]? = some B ∧ k ∈ B := by
  obtain ⟨B, hB, hk⟩ := List.mem_flatten.1 hk
  obtain ⟨j, hj, rfl⟩ := List.getElem_of_mem hB
  rw [List.length_set] at hj
  by_cases hij : i = j
  · subst hij
    rw [List.getElem_set_self] at hk
    exact .inl hk
  · rw [List.getElem_set_ne hij] at hk
    exact .inr ⟨j, Ss[j], fun e => hij e.symm, List.getElem?_eq_getElem hj, hk⟩
theorem nodup_flatten_set {Ss : List (List Nat)} {i : Nat} {A B : List Nat} (hn : Ss.flatten.Nodup) (hA : Ss[i]? = some A) (hB : B.Nodup) (hd : ∀ k ∈ B, k ∈ A ∨ k ∉ Ss.flatten) : (Ss.set i B).flatten.Nodup := by
  obtain ⟨hi, rfl⟩ := List.getElem?_eq_some_iff.1 hA
  refine nodup_flat.2 ⟨?_, ?_⟩
  · intro l hl
    rcases List.mem_or_eq_of_mem_set hl with hl | rfl
    · exact (nodup_flat.1 hn).1 l hl
    · exact hB
  · refine List.pairwise_iff_getElem.2 fun a b ha hb hab => ?_
    rw [List.length_set] at ha hb
    have key : ∀ j (hj : j < Ss.length), j ≠ i → ∀ k ∈ B, k ∉ Ss[j] := by
      intro j hj hji k hk h2
      rcases hd k hk with h | h
      · exact flatten_disj hn (List.getElem?_eq_getElem hi) (List.getElem?_eq_getElem hj) (fun e => hji e.symm) k h h2
      · exact h (List.mem_flatten.2 ⟨_, List.getElem_mem hj, h2⟩)
    intro k h1 h2
    by_cases e1 : i = a
    · subst e1
      rw [List.getElem_set_self] at h1
      rw [List.getElem_set_ne (by omega)] at h2
      exact key b hb (by omega) k h1 h2
    · rw [List.getElem_set_ne e1] at h1
      by_cases e2 : i = b
      · subst e2
        rw [List.getElem_set_self] at h2
        exact key a ha (by omega) k h2 h1
      · rw [List.getElem_set_ne e2] at h2
        exact flatten_disj hn (List.getElem?_eq_getElem ha) (List.getElem?_eq_getElem hb) (by omega) k h1 h2

/-- the element has become another one, in the blocks Sx; its cells are cs' (in the world w2 block g holds them, and is else as it was) -/
theorem SlAt.upd {w2 : World} (h : SlAt d e w S g cap xs i Si cs) (hn : S.Nodup) {cs' : List Value} {x' : α} {Sx : List Nat} (hx : ∀ k, k < w.heap.size → k ∉ Si → k ≠ g → w2.heap[k]? = w.heap[k]?)
    (hb : ∀ C, Blk w g e C → (C.toList.drop (i * d.sz)).take d.sz = cs → ∃ C', Blk w2 g e C' ∧ C'.size = C.size ∧ (C'.toList.drop (i * d.sz)).take d.sz = cs' ∧ ∀ j, j ≠ i → (C'.toList.drop (j * d.sz)).take d.sz = (C.toList.drop (j * d.sz)).take d.sz)
    (hr : d.rep w2 Sx x' cs') (hS : ∀ k ∈ Sx, k ∈ Si ∨ w.heap.size ≤ k) (hg : g < w.heap.size) :
    ∃ S', SlR d e w2 S' (.slice (some ⟨g, 0, none⟩) xs.length cap) (xs.set i x') ∧ (∀ k ∈ S', k ∈ S ∨ w.heap.size ≤ k) ∧ (Sx.Nodup → S'.Nodup) := by
  obtain ⟨⟨C, Ss, h0, h1, h2, hb0, hC, hgn, rfl, hE, hSi, rfl⟩, hi, hrep⟩ := h
  obtain ⟨C', hb', hC', hcs, hother⟩ := hb C hb0 rfl
  have hnf : Ss.flatten.Nodup := (List.nodup_cons.1 hn).2
  have hlt := hE.lt
  have hgSx : g ∉ Sx := fun hk => by
    rcases hS g hk with h3 | h3
    · exact hgn (List.mem_flatten.2 ⟨Si, List.mem_of_getElem? hSi, h3⟩)
    · omega
  have hgS : g ∉ (Ss.set i Sx).flatten := fun hk => by
    rcases mem_flatten_set hk with h3 | ⟨j, B, _, hB, h3⟩
    · exact hgSx h3
    · exact hgn (List.mem_flatten.2 ⟨B, List.mem_of_getElem? hB, h3⟩)
  refine ⟨g :: (Ss.set i Sx).flatten, .inr ⟨g, cap, C', Ss.set i Sx, by rw [List.length_set], h0, by rw [List.length_set]; exact h1, h2, hb', by rw [hC', hC], hgS, rfl, ?_⟩, ?_, ?_⟩
  · refine ⟨by rw [List.length_set, List.length_set, hE.1], fun j x hj => ?_⟩
    by_cases hij : i = j
    · subst hij
      rw [List.getElem?_set_self hi] at hj
      injection hj with hj
      subst hj
      exact ⟨Sx, List.getElem?_set_self (by rw [hE.1]; exact hi), by rw [hcs]; exact hr⟩
    · rw [List.getElem?_set_ne hij] at hj
      obtain ⟨Sj, hSj, hrj⟩ := hE.2 j x hj
      refine ⟨Sj, by rw [List.getElem?_set_ne hij]; exact hSj, ?_⟩
      rw [hother j (fun e => hij e.symm)]
      refine d.move hrj fun k hk => hx k (d.lt hrj k hk) ?_ ?_
      · exact flatten_disj hnf hSj hSi (fun e => hij e.symm) k hk
      · rintro rfl; exact hgn (List.mem_flatten.2 ⟨Sj, List.mem_of_getElem? hSj, hk⟩)
  · intro k hk
    rcases List.mem_cons.1 hk with rfl | hk
    · exact .inl (by simp)
    · rcases mem_flatten_set hk with h3 | ⟨j, B, _, hB, h3⟩
      · rcases hS k h3 with h4 | h4
        · exact .inl (List.mem_cons_of_mem _ (List.mem_flatten.2 ⟨Si, List.mem_of_getElem? hSi, h4⟩))
        · exact .inr h4
      · exact .inl (List.mem_cons_of_mem _ (List.mem_flatten.2 ⟨B, List.mem_of_getElem? hB, h3⟩))
  · intro hSx
    refine List.nodup_cons.2 ⟨hgS, nodup_flatten_set hnf hSi hSx fun k hk => ?_⟩
    rcases hS k hk with h3 | h3
    · exact .inl h3
    · exact .inr fun h4 => by have := hlt k h4; omega

/-- what it leads to has changed; its cells stay -/
theorem SlAt.inner (h : SlAt d e w S g cap xs i Si cs) (hn : S.Nodup) {x' : α} {Sx : List Nat} (hx : Ext Si w w1) (hr : d.rep w1 Sx x' cs) (hS : ∀ k ∈ Sx, k ∈ Si ∨ w.heap.size ≤ k) :
    ∃ S', SlR d e w1 S' (.slice (some ⟨g, 0, none⟩) xs.length cap) (xs.set i x') ∧ (∀ k ∈ S', k ∈ S ∨ w.heap.size ≤ k) ∧ (Sx.Nodup → S'.Nodup) :=
  h.upd hn (fun k hk h1 _ => hx.block k hk h1) (fun C hC hcs => ⟨C, hC.ext hx h.notin, rfl, hcs, fun _ _ => rfl⟩) hr hS h.lt

theorem cut_set {C : List Value} {sz i j : Nat} (hj : j < sz) (hC : (i + 1) * sz ≤ C.length) (u : Value) :
    ((C.set (i * sz + j) u).drop (i * sz)).take sz = ((C.drop (i * sz)).take sz).set j u ∧ ∀ k, k ≠ i → ((C.set (i * sz + j) u).drop (k * sz)).take sz = (C.drop (k * sz)).take sz := by
  have hm : (i + 1) * sz = i * sz + sz := by rw [Nat.add_mul, Nat.one_mul]
  constructor
  · rw [List.drop_set]
    rw [if_neg (by omega), show i * sz + j - i * sz = j from by omega, List.take_set]
  · intro k hk
    rcases Nat.lt_or_ge k i with h | h
    · have h2 : (k + 1) * sz ≤ i * sz := Nat.mul_le_mul_right _ h
      rw [Nat.add_mul, Nat.one_mul] at h2
      rw [List.drop_set, if_neg (by omega), List.take_set, List.set_eq_of_length_le]
      rw [List.length_take]; omega
    · have h2 : (i + 1) * sz ≤ k * sz := Nat.mul_le_mul_right _ (by omega)
      rw [List.drop_set, if_pos (by omega)]

/-- one of its cells is stored, behind changes in what it leads to -/
theorem SlAt.put (h : SlAt d e w S g cap xs i Si cs) (hn : S.Nodup) {x' : α} {Sx : List Nat} (hx : Ext Si w w1) (j : Nat) (hj : j < d.sz) (u : Value)
    (hr : d.rep (w1.setCell ⟨g, i * d.sz + j, none⟩ u) Sx x' (cs.set j u)) (hS : ∀ k ∈ Sx, k ∈ Si ∨ w.heap.size ≤ k) :
    ∃ S', SlR d e (w1.setCell ⟨g, i * d.sz + j, none⟩ u) S' (.slice (some ⟨g, 0, none⟩) xs.length cap) (xs.set i x') ∧ (∀ k ∈ S', k ∈ S ∨ w.heap.size ≤ k) ∧ (Sx.Nodup → S'.Nodup) ∧
      Ext S w (w1.setCell ⟨g, i * d.sz + j, none⟩ u) := by
  have hm := h.mem
  obtain ⟨S', h1, h2, h3⟩ := h.upd (w2 := w1.setCell ⟨g, i * d.sz + j, none⟩ u) hn (fun k hk h1 h2 => (Below.heap_setCell w1 ⟨g, i * d.sz + j, none⟩ u k h2).trans (hx.block k hk h1)) (by
    intro C hC hcs
    have hno := h.notin
    obtain ⟨⟨C0, Ss, h0, h1, h2, hb0, hC0, _⟩, hi, _⟩ := h
    have hCC : C = C0 := by
      have e1 : w.heap[g]? = some (.cells C e (0, 0)) := hC
      have e2 : w.heap[g]? = some (.cells C0 e (0, 0)) := hb0
      rw [e1] at e2
      injection e2 with e2
      injection e2
    subst hCC
    have hlen : (i + 1) * d.sz ≤ C.toList.length := by
      have : C.toList.length = cap * d.sz := by rw [Array.length_toList, hC0]
      rw [this]; exact Nat.mul_le_mul_right _ (by omega)
    obtain ⟨h3, h4⟩ := cut_set hj hlen u
    refine ⟨_, (hC.ext hx hno).set (i * d.sz + j) u, by simp, ?_, ?_⟩
    · rw [Array.toList_setIfInBounds, h3, hcs]
    · intro k hk
      rw [Array.toList_setIfInBounds]
      exact h4 k hk) hr hS h.lt
  exact ⟨S', h1, h2, h3, (hx.mono fun k hk => .inl (hm.2 k hk)).setCell (.inl hm.1) u⟩
end

/-- an element of one cell stored, made since w -/
theorem SlAt.put1 {α : Type} {d : Kd α} {e : TypeId} {w w1 : World} {S Si : List Nat} {xs : List α} {g cap i : Nat} {cs : List Value} (h : SlAt d e w S g cap xs i Si cs) (hn : S.Nodup) (h1 : d.sz = 1)
    {x' : α} {Sx : List Nat} {u : Value} (hx : Ext [] w w1) (hr : d.rep w1 Sx x' [u]) (hS : ∀ k ∈ Sx, w.heap.size ≤ k) :
    ∃ S', SlR d e (w1.setCell ⟨g, i, none⟩ u) S' (.slice (some ⟨g, 0, none⟩) xs.length cap) (xs.set i x') ∧ (∀ k ∈ S', k ∈ S ∨ w.heap.size ≤ k) ∧ (Sx.Nodup → S'.Nodup) ∧
      Ext S w (w1.setCell ⟨g, i, none⟩ u) := by
  have hl := h.len
  rw [h1] at hl
  obtain ⟨c, hc⟩ : ∃ c, cs = [c] := by
    cases cs with
    | nil => simp at hl
    | cons a l => cases l with
      | nil => exact ⟨a, rfl⟩
      | cons b l => simp at hl
  have hg : ∀ k ∈ Sx, k ≠ g := fun k hk e1 => by have := hS k hk; have := h.lt; omega
  have := h.put hn (w1 := w1) (x' := x') (Sx := Sx) (hx.mono (by simp)) 0 (by omega) u (by
    rw [hc, h1, Nat.mul_one, Nat.add_zero]
    exact d.move hr fun k hk => Below.heap_setCell w1 ⟨g, i, none⟩ u k (hg k hk)) (fun k hk => .inr (hS k hk))
  rw [h1, Nat.mul_one, Nat.add_zero] at this
  exact this

/-! ### rows that are filled one by one -/
def part {α : Type} (F : List α) (z : α) (i : Nat) : List α := F.take i ++ List.replicate (F.length - i) z
theorem part_zero {α : Type} (F : List α) (z : α) : part F z 0 = List.replicate F.length z := by simp [part]
theorem part_all {α : Type} (F : List α) (z : α) : part F z F.length = F := by simp [part]
theorem part_len {α : Type} (F : List α) (z : α) {i : Nat} (hi : i ≤ F.length) : (part F z i).length = F.length := by simp [part]; omega
theorem part_set {α : Type} (F : List α) (z : α) {i : Nat} (hi : i < F.length) : (part F z i).set i F[i] = part F z (i + 1) := by
  unfold part
  rw [List.set_append_right _ _ (by simp; omega), List.take_succ_eq_append_getElem hi, List.append_assoc]
  congr 1
  rw [show i - (F.take i).length = 0 from by simp; omega, show F.length - i = (F.length - (i + 1)) + 1 from by omega, List.replicate_succ]
  simp

/-! ### slices made -/
set_option maxRecDepth 4000 in
theorem run_make_eq {P : Program} {t e : TypeId} {sz bytes : Nat} {z : Value} {zc : Array Value} (ht : P.underlying t = some (.slice e)) (hi : (P.info? e).map (fun i => (i.zero, i.size, i.bytes)) = some (some z, sz, bytes)) (hzc : z.cells = zc) (n m : Nat) (hm : m = n * sz) (hn : n ≤ 1073741824) (hb : bytes ≤ 1000) (w : World) :
    (Instr.makeSlice t (.int .i64 (n : Int)) (.int .i64 (n : Int))).run P w = .ok (.slice (some ⟨w.heap.size, 0, none⟩) n n) (w.alloc (.cells (madeCells zc m) e)) := by
  subst hm hzc
  cases h : P.info? e with
  | none => rw [h] at hi; cases hi
  | some i =>
    rw [h] at hi
    simp only [Option.map_some, Option.some.injEq, Prod.mk.injEq] at hi
    obtain ⟨hz, rfl, rfl⟩ := hi
    have hb2 : (i.bytes : Int) * (n : Int) ≤ 281474976710656 := by
      have h2 : i.bytes * n ≤ 281474976710656 := Nat.le_trans (Nat.mul_le_mul hb hn) (by decide)
      have h3 : ((i.bytes * n : Nat) : Int) ≤ ((281474976710656 : Nat) : Int) := Int.ofNat_le.2 h2
      rwa [Int.natCast_mul] at h3
    have := run_make (P := P) w t e i z ht h hz .i64 .i64 n n (Int.natCast_nonneg _) (Int.le_refl _) hb2 (by omega)
    simpa using this

theorem slr_made {α : Type} {d : Kd α} {e : TypeId} {w : World} {zc : Array Value} {x : α} (n m : Nat) (hm : m = n * d.sz) (hn : n ≤ 1073741824) (hsz : zc.size = d.sz) (h0 : 0 < d.sz) (hr : ∀ w, d.rep w [] x zc.toList) :
    ∃ S, SlR d e (w.alloc (.cells (madeCells zc m) e)) S (.slice (some ⟨w.heap.size, 0, none⟩) n n) (List.replicate n x) ∧ (∀ k ∈ S, k = w.heap.size) ∧ S.Nodup := by
  subst hm
  by_cases hz : n = 0
  · subst hz
    exact ⟨[], .inl ⟨_, rfl, rfl, rfl⟩, by simp, by simp⟩
  · refine ⟨[w.heap.size], .inr ⟨w.heap.size, n, _, List.replicate n [], by rw [List.length_replicate], by omega, by simp, by simp only [maxLen]; omega, Blk.new w _ e, by simp [madeCells], by simp, by simp, by simp, ?_⟩, by simp, by simp⟩
    intro i y hy
    have hi : i < n := by have := (List.getElem?_eq_some_iff.1 hy).1; simpa using this
    rw [List.getElem?_replicate, if_pos hi] at hy
    injection hy with hy
    subst hy
    refine ⟨[], by rw [List.getElem?_replicate, if_pos hi], ?_⟩
    have : ((madeCells zc (n * d.sz)).toList.drop (i * d.sz)).take d.sz = zc.toList := by
      have h2 : (i + 1) * d.sz ≤ n * d.sz := Nat.mul_le_mul_right _ hi
      rw [Nat.add_mul, Nat.one_mul] at h2
      refine List.ext_getElem (by simp [madeCells]; omega) fun j h3 h4 => ?_
      have hj : j < d.sz := by simpa [hsz] using h4
      simp [madeCells, hsz, Nat.mod_eq_of_lt hj]
      exact getElem!_pos zc j (by omega)
    rw [this]
    exact hr _
end Go.Proofs.Ytkmgbejhbkbaoaa
