/- The program's split: its model; entries looked up. -/
import Derived.Test.YtkmgbejhbkbaoaaS4
import Derived.Test.YtkmgbejhbkbaoaaC7
namespace Go.Proofs.Ytkmgbejhbkbaoaa
set_option linter.unusedSimpArgs false
set_option linter.unusedVariables false
open Go.RowKit

section
variable {α : Type} {d : Kd α} {e : TypeId} {w : World} {S Si : List Nat} {xs : List α} {g cap i : Nat} {cs : List Value}
/-- one of its cells is stored; what it leads to is as it was -/
theorem SlAt.putS (h : SlAt d e w S g cap xs i Si cs) (hn : S.Nodup) {x' : α} (j : Nat) (hj : j < d.sz) (u : Value) (hr : d.rep (w.setCell ⟨g, i * d.sz + j, none⟩ u) Si x' (cs.set j u)) :
    SlR d e (w.setCell ⟨g, i * d.sz + j, none⟩ u) S (.slice (some ⟨g, 0, none⟩) xs.length cap) (xs.set i x') := by
  have hni := h.notin
  obtain ⟨⟨C, Ss, h0, h1, h2, hb0, hC, hgn, rfl, hE, hSi, rfl⟩, hi, hrep⟩ := h
  have hnf : Ss.flatten.Nodup := (List.nodup_cons.1 hn).2
  have hlen : (i + 1) * d.sz ≤ C.toList.length := by
    have : C.toList.length = cap * d.sz := by rw [Array.length_toList, hC]
    rw [this]; exact Nat.mul_le_mul_right _ (by omega)
  obtain ⟨h3, h4⟩ := cut_set hj hlen u
  refine .inr ⟨g, cap, _, Ss, by rw [List.length_set], h0, by rw [List.length_set]; exact h1, h2, hb0.set _ u, by simpa using hC, hgn, rfl, ?_⟩
  refine ⟨by rw [List.length_set, hE.1], fun k x hk => ?_⟩
  rw [Array.toList_setIfInBounds]
  by_cases hij : i = k
  · subst hij
    rw [List.getElem?_set_self hi] at hk
    injection hk with hk
    subst hk
    exact ⟨Si, hSi, by rw [h3]; exact hr⟩
  · rw [List.getElem?_set_ne hij] at hk
    obtain ⟨Sj, hSj, hrj⟩ := hE.2 k x hk
    refine ⟨Sj, hSj, ?_⟩
    rw [h4 k (fun e => hij e.symm)]
    refine d.move hrj fun q hq => Below.heap_setCell w _ u q ?_
    rintro rfl
    exact hgn (List.mem_flatten.2 ⟨Sj, List.mem_of_getElem? hSj, hq⟩)
end

/-! ### the model -/
def lookC (n : Nat) (c : List (Nat × Nat)) (a t : Nat) : Option Nat := (c.findIdx? fun e => e == (a, t)).map (n + ·)
def fixT (n : Nat) (c : List (Nat × Nat)) (a : Nat) (t : Int) : Int := match lookC n c a t.toNat with | some k => (k : Int) | none => t
def fixS (n : Nat) (c : List (Nat × Nat)) (a : Nat) (s : Int) : Int := match lookC n c s.toNat a with | some k => (k : Int) | none => s
def fixIn (n : Nat) (c : List (Nat × Nat)) (a : Nat) (x : JIn) : JIn := ⟨fixS n c a x.src, x.val⟩
def sortIn (l : List JIn) : List JIn := l.mergeSort fun x y => decide (x.src ≤ y.src)
def fixP (n : Nat) (c : List (Nat × Nat)) (a : Nat) (p : JPhi) : JPhi := ⟨p.dst, sortIn (p.ins.map (fixIn n c a))⟩
def fixB (n : Nat) (c : List (Nat × Nat)) (a : Nat) (x : JBlock) : JBlock := ⟨x.phis.map (fixP n c a), x.ins, { x.term with to := x.term.to.map (fixT n c a) }⟩
def jumpB (t : Nat) : JBlock := ⟨[], [], ⟨1, [], [(t : Int)], 0⟩⟩
def splitBs (bs : List JBlock) : List JBlock := bs.mapIdx (fixB bs.length (critF (ofF bs))) ++ (critF (ofF bs)).map fun e => jumpB e.2
def splitF (f : JFunc) : JFunc := ⟨f.params, splitBs f.blocks⟩

/-! ### the map -/
def keyV (e : Nat × Nat) : Value := .agg #[.int .i64 (e.1 : Int), .int .i64 (e.2 : Int)]
def entC (n : Nat) (c : List (Nat × Nat)) : List (Value × Value) := c.zipIdx.map fun p => (keyV p.1, .int .i64 ((n + p.2 : Nat) : Int))
theorem keyV_inj {a b : Nat × Nat} (h : keyV a = keyV b) : a = b := by
  obtain ⟨a1, a2⟩ := a
  obtain ⟨b1, b2⟩ := b
  simp only [keyV, Value.agg.injEq, Array.mk.injEq, List.cons.injEq, Value.int.injEq, true_and, and_true] at h
  simp only [Prod.mk.injEq]; omega
theorem mem_entC {n : Nat} {c : List (Nat × Nat)} {k v : Value} : (k, v) ∈ entC n c ↔ ∃ i, ∃ hi : i < c.length, k = keyV c[i] ∧ v = .int .i64 ((n + i : Nat) : Int) := by
  simp only [entC, List.mem_map, List.mem_zipIdx_iff_getElem?, Prod.mk.injEq, Prod.exists]
  constructor
  · rintro ⟨a, b, i, hi, rfl, rfl⟩
    obtain ⟨h1, h2⟩ := List.getElem?_eq_some_iff.1 hi
    exact ⟨i, h1, by rw [h2], rfl⟩
  · rintro ⟨i, hi, rfl, rfl⟩
    exact ⟨c[i].1, c[i].2, i, by simp [hi], rfl, rfl⟩
theorem entC_succ {n : Nat} {c : List (Nat × Nat)} {i : Nat} (hi : i < c.length) : entC n (c.take (i + 1)) = entC n (c.take i) ++ [(keyV c[i], .int .i64 ((n + i : Nat) : Int))] := by
  rw [List.take_succ_eq_append_getElem hi, entC, List.zipIdx_append, List.map_append]
  have : (c.take i).length = i := by rw [List.length_take]; omega
  simp [entC, this]
theorem zero_int (w : World) : (zeroValue 3).run Try.prog w = .ok (.int .i64 0) w := by kernel_rfl
theorem lookC_none {n : Nat} {c : List (Nat × Nat)} {a t : Nat} (h : (a, t) ∉ c) : lookC n c a t = none := by
  unfold lookC
  rw [List.findIdx?_eq_none_iff.2]
  · rfl
  · intro x hx
    simp only [beq_eq_false_iff_ne, ne_eq]
    rintro rfl; exact h hx
theorem lookC_some {n : Nat} {c : List (Nat × Nat)} (hnd : c.Nodup) {i : Nat} (hi : i < c.length) : lookC n c c[i].1 c[i].2 = some (n + i) := by
  unfold lookC
  have : c.findIdx? (fun e => e == (c[i].1, c[i].2)) = some i := by
    rw [List.findIdx?_eq_some_iff_getElem]
    refine ⟨hi, by simp, fun j hj => ?_⟩
    simp only [beq_iff_eq]
    intro he0
    have he : c[j] = c[i] := he0
    have h1 := List.Nodup.idxOf_getElem hnd j (by omega)
    have h2 := List.Nodup.idxOf_getElem hnd i hi
    rw [he] at h1
    omega
  rw [this]; rfl
theorem look_two {w : World} {m n : Nat} {c : List (Nat × Nat)} (h : MapR KpT w m (entC n c)) (hnd : c.Nodup) {a t : Nat} (ha : a ≤ 1073741824) (ht : t ≤ 1073741824) :
    (Instr.lookup 76 (.map (some m)) (.agg #[.int .i64 (a : Int), .int .i64 (t : Int)]) true).run Try.prog w = .ok (.tuple #[.int .i64 (((lookC n c a t).getD 0 : Nat) : Int), .bool (lookC n c a t).isSome]) w := by
  rcases h.look klTwo Try.underlying76 (zero_int w) ⟨a, t, rfl, ha, ht⟩ with ⟨hrun, hno⟩ | ⟨v, hv, hrun⟩
  · rw [hrun, lookC_none]
    · rfl
    · intro hm
      obtain ⟨i, hi, he⟩ := List.getElem_of_mem hm
      exact hno (keyV c[i], _) (mem_entC.2 ⟨i, hi, rfl, rfl⟩) (by rw [he]; rfl)
  · obtain ⟨i, hi, hk, rfl⟩ := mem_entC.1 hv
    have he : (a, t) = c[i] := keyV_inj hk
    rw [hrun]
    have := lookC_some (n := n) hnd hi
    rw [← he] at this
    simp only at this
    rw [this]; rfl
theorem crit_nodup {g : List (List Nat)} (hg : Good g) : (critF g).Nodup := by
  unfold critF
  refine List.Nodup.sublist List.filter_sublist ?_
  unfold edgesF edgesTo
  rw [List.take_length]
  unfold List.Nodup
  rw [List.pairwise_flatMap]
  constructor
  · intro p hp
    obtain ⟨h1, h2, h3⟩ := List.mem_zipIdx hp
    rw [List.pairwise_map]
    have := (hg p.1 (by rw [h3]; exact List.getElem_mem _)).1
    exact this.imp fun {a b} hab he => by injection he; omega
  · rw [List.pairwise_iff_getElem]
    intro i j hi hj hij x hx y hy
    rw [List.length_zipIdx] at hi hj
    simp only [List.getElem_zipIdx, List.mem_map] at hx hy
    obtain ⟨x', _, rfl⟩ := hx
    obtain ⟨y', _, rfl⟩ := hy
    intro he
    injection he with h1 h2
    omega
end Go.Proofs.Ytkmgbejhbkbaoaa
