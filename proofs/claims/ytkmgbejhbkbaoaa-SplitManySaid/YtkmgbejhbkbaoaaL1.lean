/- Appending to a slice of one's own; making slices; storing an element. -/
import Derived.Test.YtkmgbejhbkbaoaaL0
namespace Go.Proofs.Ytkmgbejhbkbaoaa
set_option linter.unusedSimpArgs false
set_option linter.unusedVariables false
open Go.RowKit

/-- what a call has made: new blocks S; all else is as it was -/
structure New (w w' : World) (S : List Nat) : Prop where
  ext : Ext [] w w'
  fresh : ∀ k ∈ S, w.heap.size ≤ k
  nodup : S.Nodup
theorem New.append {w wr w1 w2 : World} {S S' : List Nat} (h : New w wr S) (h1 : Ext [] wr w1) (h2 : Ext S w1 w2) (hf : ∀ k ∈ S', k ∈ S ∨ k = w1.heap.size ∨ k ∈ ([] : List Nat)) (hn : S.Nodup → ([] : List Nat).Nodup → S'.Nodup) : New w w2 S' := by
  refine ⟨(h.ext.nil h1).trans h2 fun k hk => .inr (h.fresh k hk), fun k hk => ?_, hn h.nodup (by simp)⟩
  have e1 := h.ext.size
  have e2 := h1.size
  rcases hf k hk with h3 | h3 | h3
  · exact h.fresh k h3
  · omega
  · cases h3
theorem New.refl (w : World) : New w w [] := ⟨Ext.refl _ _, by simp, by simp⟩
/-- what the translation says of a slice type and its elements -/
structure EI (P : Program) (t e : TypeId) (sz bytes : Nat) : Prop where
  ht : P.underlying t = some (.slice e)
  hi : ∃ i z, P.info? e = some i ∧ i.zero = some z ∧ i.size = sz ∧ i.bytes = bytes ∧ z.cells.size = sz
  pos : 0 < sz

/-- a slice whose first elements lie in these cells -/
def Src (w : World) (x : Value) (m : Nat) (news : List Value) : Prop :=
  ∃ B c, x = .slice B m c ∧ (0 < m → ∃ a, B = some a ∧ ∀ j u, news[j]? = some u → w.cell? (a.add j) = some u)

section
variable {P : Program} {w : World} {t ty e : TypeId} {sz bytes : Nat}

theorem run_append_bare (he : EI P t e sz bytes) (A : Option Addr) (x : Value) (m : Nat) (news : List Value) (hl : news.length = m * sz) (hx : Src w x m news)
    (h63 : m ≤ maxLen) (hb : m * bytes ≤ 140737488355328) :
    (m = 0 ∧ (Builtin.append_ #[t, t] ty #[.slice A 0 0, x]).run P w = .ok (.slice A 0 0) w) ∨
    (0 < m ∧ ∃ c C, (Builtin.append_ #[t, t] ty #[.slice A 0 0, x]).run P w = .ok (.slice (some ⟨w.heap.size, 0, none⟩) m c) (w.drew.alloc (.cells C e)) ∧
      m ≤ c ∧ c ≤ maxLen ∧ C.size = c * sz ∧ C.toList.take (m * sz) = news) := by
  obtain ⟨i, z, hi, hz, rfl, rfl, hzs⟩ := he.hi
  have ht := he.ht
  obtain ⟨B, c, rfl, hB⟩ := hx
  by_cases hm : m = 0
  · subst hm
    refine .inl ⟨rfl, ?_⟩
    cases A <;> cases B <;> simp [Builtin.append_, run_underlying ht, sizeOf, typeInfo, hi, Builtin.lenOf, Builtin.firstCells, loadCells, loadCellsFrom, storeCells]
  · obtain ⟨a, rfl, hc⟩ := hB (by omega)
    refine .inr ⟨by omega, grownCap w m 0 e, (news.toArray ++ Builtin.zeroCells z.cells (grownCap w m 0 e - m)), ?_, grownCap_ge _ _ _ _, grownCap_le_maxLen _ _ _ _ h63, ?_, ?_⟩
    · cases A with
      | none => exact run_append_nil (P := P) w t ty e i z ht hi hz a m c news hl hc (by omega) (by simp only [maxLen] at h63; omega) (by omega)
      | some b =>
        have hn : m ≠ 0 := hm
        have h63' : ¬ (9223372036854775807 < (m : Int)) := by simp only [maxLen] at h63; omega
        have h48' : ¬ (281474976710656 < Builtin.nextslicecap m 0 * i.bytes) := by rw [nextslicecap_zero (by omega)]; omega
        have hf := run_firstCells_some (P := P) w.drew i.size m a m c news hl (by simpa using hc)
        have hf0 := run_firstCells_some (P := P) w.drew i.size 0 b 0 0 [] (by simp) (by simp)
        simp [Builtin.append_, run_underlying ht, sizeOf, typeInfo, zeroValue, hi, hz, Builtin.lenOf, hn, h63', h48', Question.forced, hf, hf0, newRow, grownCap]
    · have hge := grownCap_ge w m 0 e
      simp only [Array.size_append, List.size_toArray, size_zeroCells, hzs, hl, ← Nat.add_mul]
      congr 1; omega
    · simp only [Array.toList_append, ← hl]
      exact List.take_left

theorem run_append_here (he : EI P t e sz bytes) (g n cap : Nat) (C : Array Value) (hb : Blk w g e C) (hn : n ≤ cap) (hcm : cap ≤ maxLen) (hC : C.size = cap * sz)
    (x : Value) (m : Nat) (news : List Value) (hl : news.length = m * sz) (hx : Src w x m news) (h1 : ∀ u ∈ news, u.oneCell' = true)
    (h63 : n + m ≤ maxLen) (hbytes : (n + m) * bytes ≤ 140737488355328) :
    ∃ g' cap' C' w', (Builtin.append_ #[t, t] ty #[.slice (some ⟨g, 0, none⟩) n cap, x]).run P w = .ok (.slice (some ⟨g', 0, none⟩) (n + m) cap') w' ∧
      (g' = g ∨ g' = w.heap.size) ∧ w.heap.size ≤ w'.heap.size ∧ n + m ≤ cap' ∧ cap ≤ cap' ∧ cap' ≤ maxLen ∧ Blk w' g' e C' ∧ C'.size = cap' * sz ∧ C'.toList.take ((n + m) * sz) = C.toList.take (n * sz) ++ news ∧ Ext [g] w w' := by
  obtain ⟨i, z, hi, hz, rfl, rfl, hzs⟩ := he.hi
  have ht := he.ht
  obtain ⟨B, c, rfl, hB⟩ := hx
  have hlx : (C.toList.take (n * i.size)).length = n * i.size := by
    rw [List.length_take, Array.length_toList, hC]; exact Nat.min_eq_left (Nat.mul_le_mul_right _ hn)
  by_cases hm : m = 0
  · subst hm
    have hnil : news = [] := List.eq_nil_of_length_eq_zero (by simpa using hl)
    subst hnil
    refine ⟨g, cap, C, w, ?_, .inl rfl, Nat.le_refl _, by omega, Nat.le_refl _, hcm, hb, hC, by simp, Ext.refl _ _⟩
    cases B <;> simp [Builtin.append_, run_underlying ht, sizeOf, typeInfo, hi, Builtin.lenOf, Builtin.firstCells, loadCells, loadCellsFrom, storeCells, hn]
  · obtain ⟨a, rfl, hc⟩ := hB (by omega)
    by_cases hroom : n + m ≤ cap
    · have hfit : n * i.size + news.length ≤ C.size := by rw [hl, hC, ← Nat.add_mul]; exact Nat.mul_le_mul_right _ hroom
      have hr := run_append_room (P := P) w t ty e i ht hi g n cap C hb a m c news hl hc h1 hroom hfit
      refine ⟨g, cap, _, _, hr, .inl rfl, by simp, hroom, Nat.le_refl _, hcm, setRow_heap w g C _ e _ hb, ?_, ?_, ⟨rfl, rfl, rfl, by simp, fun k _ hk => setRow_other w g k _ (fun e => hk (by simp [e]))⟩⟩
      · simp only [List.size_toArray, List.length_append, List.length_take, List.length_drop, Array.length_toList]
        omega
      · have : (n + m) * i.size = (C.toList.take (n * i.size) ++ news).length := by rw [List.length_append, hlx, hl, Nat.add_mul]
        rw [this]
        exact List.take_left
    · have holds : ∀ j u, (C.toList.take (n * i.size))[j]? = some u → w.cell? ((⟨g, 0, none⟩ : Addr).add j) = some u := by
        intro j u hu
        rw [Addr.add_lit, Nat.zero_add]
        refine hb.cell ?_
        rw [List.getElem?_take] at hu
        split at hu
        · simpa using hu
        · cases hu
      have hr := run_append_grow (P := P) w t ty e i z ht hi hz ⟨g, 0, none⟩ n cap (C.toList.take (n * i.size)) hlx holds a m c news hl hc (by omega) (by simp only [maxLen] at h63; omega) (growslice_fits (by omega) hbytes)
      have hge := grownCap_ge w (n + m) cap e
      refine ⟨w.heap.size, _, _, _, hr, .inr rfl, by simp, hge, by omega, grownCap_le_maxLen _ _ _ _ h63, heap_alloc_new w.drew _, ?_, ?_, ⟨rfl, rfl, rfl, by simp, fun k hk _ => Below.heap_alloc w.drew _ k hk⟩⟩
      · simp only [Array.size_append, List.size_toArray, size_zeroCells, hzs, hlx, hl, ← Nat.add_mul]
        congr 1; omega
      · have : (n + m) * i.size = (C.toList.take (n * i.size) ++ news).length := by rw [List.length_append, hlx, hl, Nat.add_mul]
        simp only [Array.toList_append]
        rw [this]
        exact List.take_left

variable {α : Type} {d : Kd α}
theorem Elems.append {Ss Sy : List (List Nat)} {C D E : List Value} {xs ys : List α} (hx : Elems d w Ss C xs) (hy : Elems d w Sy D ys)
    (hC : xs.length * d.sz ≤ C.length) (hE : E.take ((xs.length + ys.length) * d.sz) = C.take (xs.length * d.sz) ++ D) (hD : D.length = ys.length * d.sz) : Elems d w (Ss ++ Sy) E (xs ++ ys) := by
  have hlen : (C.take (xs.length * d.sz)).length = xs.length * d.sz := by rw [List.length_take]; omega
  have cut : ∀ i, i < xs.length + ys.length → (E.drop (i * d.sz)).take d.sz = ((C.take (xs.length * d.sz) ++ D).drop (i * d.sz)).take d.sz := by
    intro i hi
    rw [← hE, List.drop_take, List.take_take]
    congr 1
    have h2 : (i + 1) * d.sz ≤ (xs.length + ys.length) * d.sz := Nat.mul_le_mul_right _ hi
    rw [Nat.add_mul, Nat.one_mul] at h2
    omega
  refine ⟨by rw [List.length_append, List.length_append, hx.1, hy.1], fun i x hi => ?_⟩
  have hlt : i < xs.length + ys.length := by rw [← List.length_append]; exact (List.getElem?_eq_some_iff.1 hi).1
  rw [cut i hlt]
  rcases Nat.lt_or_ge i xs.length with h | h
  · rw [List.getElem?_append_left h] at hi
    obtain ⟨Si, hSi, hr⟩ := hx.2 i x hi
    refine ⟨Si, by rw [List.getElem?_append_left (by rw [hx.1]; exact h)]; exact hSi, ?_⟩
    have h2 : (i + 1) * d.sz ≤ xs.length * d.sz := Nat.mul_le_mul_right _ h
    rw [Nat.add_mul, Nat.one_mul] at h2
    rw [List.drop_append_of_le_length (by omega), List.take_append_of_le_length (by rw [List.length_drop]; omega), List.drop_take, List.take_take, Nat.min_eq_left (by omega)]
    exact hr
  · rw [List.getElem?_append_right h] at hi
    obtain ⟨Si, hSi, hr⟩ := hy.2 _ x hi
    refine ⟨Si, by rw [List.getElem?_append_right (by rw [hx.1]; exact h), hx.1]; exact hSi, ?_⟩
    have hs : i * d.sz = xs.length * d.sz + (i - xs.length) * d.sz := by rw [← Nat.add_mul]; congr 1; omega
    rw [hs, ← List.drop_drop]
    rw [show (C.take (xs.length * d.sz) ++ D).drop (xs.length * d.sz) = D from by exact List.drop_left' hlen]
    exact hr

theorem run_append_sl {S : List Nat} {v : Value} {xs ys : List α} (he : EI P t e d.sz bytes) (h : SlR d e w S v xs) (x : Value) (news : List Value) (Sy : List (List Nat))
    (hy : Elems d w Sy news ys) (hl : news.length = ys.length * d.sz) (h1 : ∀ u ∈ news, u.oneCell' = true) (hx : Src w x ys.length news) (hdis : ∀ k ∈ Sy.flatten, k ∉ S)
    (h63 : xs.length + ys.length ≤ maxLen) (hb : (xs.length + ys.length) * bytes ≤ 140737488355328) :
    ∃ v' w' S', (Builtin.append_ #[t, t] ty #[v, x]).run P w = .ok v' w' ∧ SlR d e w' S' v' (xs ++ ys) ∧ Ext S w w' ∧
      (∀ k ∈ S', k ∈ S ∨ k = w.heap.size ∨ k ∈ Sy.flatten) ∧ (S.Nodup → Sy.flatten.Nodup → S'.Nodup) := by
  rcases h with ⟨A, rfl, rfl, rfl⟩ | ⟨g, cap, C, Ss, rfl, h0, h1', h2, hbk, hC, hn, rfl, hE⟩
  · simp only [List.length_nil, Nat.zero_add, List.nil_append] at *
    rcases run_append_bare (ty := ty) he A x ys.length news hl hx h63 hb with ⟨hm, hr⟩ | ⟨hm, c, C, hr, hc1, hc2, hC, ht⟩
    · have : ys = [] := List.eq_nil_of_length_eq_zero hm
      subst this
      exact ⟨_, w, [], hr, .inl ⟨A, rfl, rfl, rfl⟩, Ext.refl _ _, by simp, by simp⟩
    · refine ⟨_, _, w.heap.size :: Sy.flatten, hr, .inr ⟨w.heap.size, c, C, Sy, rfl, by omega, hc1, hc2, heap_alloc_new w.drew _, hC, fun hk => by have := hy.lt _ hk; omega, rfl, ?_⟩, ((Ext.refl _ w).drew).alloc _, ?_, ?_⟩
      · have hm' : Elems d (w.drew.alloc (.cells C e)) Sy news ys := hy.move fun k hk => Below.heap_alloc w.drew _ k (hy.lt k hk)
        have := Elems.append (d := d) (xs := []) (Ss := []) (C := []) (E := C.toList) ⟨rfl, fun i x hx => by simp at hx⟩ hm' (by simp) (by simpa using ht) hl
        simpa using this
      · intro k hk
        rcases List.mem_cons.1 hk with rfl | hk
        · exact .inr (.inl rfl)
        · exact .inr (.inr hk)
      · intro _ hn
        exact List.nodup_cons.2 ⟨fun hk => by have := hy.lt _ hk; omega, hn⟩
  · have hdg : g ∉ Sy.flatten := fun hk => hdis g hk (by simp)
    obtain ⟨g', cap', C', w', hr, hg', hsz, hc1, hc2, hc3, hb', hC', htk, hx'⟩ := run_append_here (ty := ty) he g xs.length cap C hbk h1' h2 hC x ys.length news hl hx h1 h63 hb
    have hlt := hE.lt
    have hE' : Elems d w' Ss C.toList xs := hE.move fun k hk => hx'.block k (hlt k hk) (by simp; rintro rfl; exact hn hk)
    have hy' : Elems d w' Sy news ys := hy.move fun k hk => hx'.block k (hy.lt k hk) (by simp; rintro rfl; exact hdg hk)
    have hng : g' ∉ (Ss ++ Sy).flatten := by
      rw [List.flatten_append]
      intro hk
      rcases hg' with rfl | rfl
      · rcases List.mem_append.1 hk with hk | hk
        · exact hn hk
        · exact hdg hk
      · rcases List.mem_append.1 hk with hk | hk
        · have := hlt _ hk; omega
        · have := hy.lt _ hk; omega
    have hCl : xs.length * d.sz ≤ C.toList.length := by
      have : C.toList.length = cap * d.sz := by rw [Array.length_toList, hC]
      rw [this]; exact Nat.mul_le_mul_right _ h1'
    refine ⟨_, w', g' :: (Ss ++ Sy).flatten, hr, .inr ⟨g', cap', C', Ss ++ Sy, ?_, by omega, ?_, hc3, hb', hC', hng, rfl, ?_⟩, hx'.mono (by simp), ?_, ?_⟩
    · rw [List.length_append]
    · rw [List.length_append]; exact hc1
    · exact Elems.append hE' hy' hCl htk hl
    · intro k hk
      rcases List.mem_cons.1 hk with rfl | hk
      · rcases hg' with rfl | rfl
        · exact .inl (by simp)
        · exact .inr (.inl rfl)
      · rw [List.flatten_append] at hk
        rcases List.mem_append.1 hk with hk | hk
        · exact .inl (by simp [hk])
        · exact .inr (.inr hk)
    · intro hS hSy
      refine List.nodup_cons.2 ⟨hng, ?_⟩
      rw [List.flatten_append]
      refine List.nodup_append.2 ⟨(List.nodup_cons.1 hS).2, hSy, ?_⟩
      intro a ha b hb' hab
      subst hab
      exact hdis a hb' (by simp [ha])

theorem wpList_append_sl {ops : Array Oper} {rest : List Oper} {o : Oper} {a : Act} {Q : Exit → Act → World → Prop} (hgd : o.guard = none) (s x : Operand) (t : TypeId)
    (ho : o.op = .call { callee := .builtin .append, args := #[s, x], argTypes := #[t, t] })
    {S : List Nat} {v xv : Value} {xs ys : List α} (he : EI P t e d.sz bytes) (hs : a.eval s = v) (h : SlR d e w S v xs) (hxv : a.eval x = xv) (news : List Value) (Sy : List (List Nat))
    (hy : Elems d w Sy news ys) (hl : news.length = ys.length * d.sz) (h1 : ∀ u ∈ news, u.oneCell' = true) (hx : Src w xv ys.length news) (hdis : ∀ k ∈ Sy.flatten, k ∉ S)
    (h63 : xs.length + ys.length ≤ maxLen) (hb : (xs.length + ys.length) * bytes ≤ 140737488355328)
    (hk : ∀ v' w' S', SlR d e w' S' v' (xs ++ ys) → Ext S w w' → (∀ k ∈ S', k ∈ S ∨ k = w.heap.size ∨ k ∈ Sy.flatten) → (S.Nodup → Sy.flatten.Nodup → S'.Nodup) → wpList P ops Q rest (a.put o.dst v') w') : wpList P ops Q (o :: rest) a w := by
  refine wpList_plain hgd fun _ hK => ?_
  obtain ⟨v', w', S', hr, h2, h3, h4, h5⟩ := run_append_sl (ty := o.type) he h xv news Sy hy hl h1 hx hdis h63 hb
  unfold Oper.wp execOp
  simp only [ho, resolve, invoke, builtin, Sem.run_bind, Sem.run_pure, Result.andThen_ok, List.map_toArray, List.map_cons, List.map_nil, hs, hxv, hr]
  exact hK _ _ (hk v' w' S' h2 h3 h4 h5)
end
theorem Src.one {w : World} {x : Value} {T : TypeId} (h1 : x.oneCell' = true) : Src (w.alloc (.cells #[x] T)) (.slice (some ⟨w.heap.size, 0, none⟩) 1 1) 1 [x] := by
  refine ⟨_, _, rfl, fun _ => ⟨_, rfl, fun j u hu => ?_⟩⟩
  rcases j with _ | j
  · simp at hu; subst hu
    exact (Blk.new w #[x] T).cell rfl
  · simp at hu
theorem Src.blk {w : World} {cs : List Value} {T : TypeId} (n : Nat) : Src (w.alloc (.cells cs.toArray T)) (.slice (some ⟨w.heap.size, 0, none⟩) n n) n cs := by
  refine ⟨_, _, rfl, fun _ => ⟨_, rfl, fun j u hu => ?_⟩⟩
  rw [Addr.add_lit, Nat.zero_add]
  exact (Blk.new w cs.toArray T).cell (by simpa using hu)
theorem one_one {x : Value} (h1 : x.oneCell' = true) : ∀ u ∈ [x], u.oneCell' = true := by intro u hu; rw [List.mem_singleton.1 hu]; exact h1
theorem le_maxLen {n : Nat} (h : n ≤ 1073741824) : n + 1 ≤ maxLen := by simp only [maxLen]; omega
theorem le_bytes {n b : Nat} (h : n ≤ 1073741824) (hb : b ≤ 100) : (n + 1) * b ≤ 140737488355328 := Nat.le_trans (Nat.mul_le_mul (Nat.add_le_add_right h 1) hb) (by decide)
theorem elems_one {α : Type} {enc : α → Value} {h1 : ∀ x, (enc x).oneCell' = true} {w : World} {x : α} : Elems (kSc enc h1) w [[]] [enc x] [x] := elems_sc.2 ⟨rfl, rfl⟩
end Go.Proofs.Ytkmgbejhbkbaoaa
