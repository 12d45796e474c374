/- Plain words on worlds: what a call has changed (Ext), how data lies in memory with the blocks that it takes up (Kd). -/
import Derived.WalkKit
import Derived.WalkSpells
import Derived.WalkMore
import Derived.Deep.QuietTactic
import Derived.BigQuiet
import Derived.Deep.LoopGhost
import Derived.Laws.AppendOwn
import Derived.Below
import Derived.Lib.Hide
namespace Go.Proofs.Ytkmgbejhbkbaoaa
set_option linter.unusedSimpArgs false
set_option linter.unusedVariables false
open Go.RowKit

/-! ### worlds -/
structure Ext (M : List Nat) (w w' : World) : Prop where
  os : w'.os = w.os
  tape : w'.tape = w.tape
  output : w'.output = w.output
  size : w.heap.size ≤ w'.heap.size
  block : ∀ k, k < w.heap.size → k ∉ M → w'.heap[k]? = w.heap[k]?

namespace Ext
variable {M M' : List Nat} {a b c w w' : World}
theorem refl (M : List Nat) (w : World) : Ext M w w := ⟨rfl, rfl, rfl, Nat.le_refl _, fun _ _ _ => rfl⟩
theorem trans (h : Ext M a b) (k : Ext M' b c) (hM : ∀ x ∈ M', x ∈ M ∨ a.heap.size ≤ x) : Ext M a c :=
  ⟨k.os.trans h.os, k.tape.trans h.tape, k.output.trans h.output, Nat.le_trans h.size k.size, fun i hi hn =>
    (k.block i (Nat.lt_of_lt_of_le hi h.size) (fun hm => by rcases hM i hm with h1 | h1; exact hn h1; omega)).trans (h.block i hi hn)⟩
theorem same (h : Ext M a b) (k : Ext M b c) : Ext M a c := h.trans k fun _ h => .inl h
theorem nil (h : Ext M a b) (k : Ext [] b c) : Ext M a c := h.trans k fun _ h => by cases h
theorem mono (h : Ext M a b) (hM : ∀ x ∈ M, x ∈ M' ∨ a.heap.size ≤ x) : Ext M' a b :=
  ⟨h.os, h.tape, h.output, h.size, fun i hi hn => h.block i hi fun hm => by rcases hM i hm with h1 | h1; exact hn h1; omega⟩
theorem drewN (h : Ext M a b) (n : Nat) : Ext M a (b.drewN n) := ⟨h.os, h.tape, h.output, h.size, h.block⟩
theorem drew (h : Ext M a b) : Ext M a b.drew := ⟨h.os, h.tape, h.output, h.size, h.block⟩
theorem alloc (h : Ext M a b) (o : Obj) : Ext M a (b.alloc o) :=
  ⟨h.os, h.tape, h.output, by have := h.size; simp; omega, fun k hk hn => (Below.heap_alloc b o k (Nat.lt_of_lt_of_le hk h.size)).trans (h.block k hk hn)⟩
theorem setCell (h : Ext M a b) {p : Addr} (hp : p.block ∈ M ∨ a.heap.size ≤ p.block) (u : Value) : Ext M a (b.setCell p u) :=
  ⟨h.os, h.tape, h.output, by have := h.size; simp [World.setCell]; omega, fun k hk hn =>
    (Below.heap_setCell b p u k (by rintro rfl; rcases hp with h1 | h1; exact hn h1; omega)).trans (h.block k hk hn)⟩
theorem grown (h : Ext M a b) {row : Option Nat} (hg : b.grownBy c row) (hr : ∀ k, row = some k → k ∈ M ∨ a.heap.size ≤ k) : Ext M a c :=
  h.trans (M' := row.toList) ⟨hg.os, hg.tape, hg.output, hg.size, fun k hk hn => hg.block k hk fun e => hn (by rw [← e]; simp)⟩ fun x hx => hr x (by simpa using hx)
theorem below (h : Ext [] w w') : Below w.heap.size w w' := ⟨h.os, h.tape, h.output, h.size, fun k hk => h.block k hk (by simp)⟩
theorem of_below (h : Below w.heap.size w w') : Ext [] w w' := ⟨h.os, h.tape, h.output, h.size, fun k hk _ => h.block k hk⟩
theorem cell (h : Ext M w w') {p : Addr} {v : Value} (hc : w.cell? p = some v) (hp : p.block ∉ M) : w'.cell? p = some v :=
  (World.cell?_of_block (h.block p.block (World.block_lt_of_cell? w p hc) hp)).trans hc
theorem frozen (h : Ext M w w') {p : Addr} (hk : p.block < w.heap.size) (hp : p.block ∉ M) : w'.frozen? p = w.frozen? p := World.frozen?_of_block (h.block p.block hk hp)
end Ext

/-- a block of cells that may be written -/
def Blk (w : World) (g : Nat) (e : TypeId) (C : Array Value) : Prop := w.heap[g]? = some (.cells C e (0, 0))
namespace Blk
variable {w w' : World} {g : Nat} {e : TypeId} {C : Array Value}
theorem lt (h : Blk w g e C) : g < w.heap.size := (Array.getElem?_eq_some_iff.1 h).1
theorem cell (h : Blk w g e C) {i : Nat} {v : Value} (hv : C[i]? = some v) : w.cell? ⟨g, i, none⟩ = some v := by
  simp [World.cell?, show w.heap[g]? = _ from h, hv]
theorem frozen (h : Blk w g e C) (i : Nat) : w.frozen? ⟨g, i, none⟩ = false := by
  simp [World.frozen?, show w.heap[g]? = _ from h]
theorem move (h : Blk w g e C) (hm : w'.heap[g]? = w.heap[g]?) : Blk w' g e C := hm.trans h
theorem ext (h : Blk w g e C) {M : List Nat} (hx : Ext M w w') (hg : g ∉ M) : Blk w' g e C := h.move (hx.block g h.lt hg)
theorem set (h : Blk w g e C) (i : Nat) (v : Value) : Blk (w.setCell ⟨g, i, none⟩ v) g e (C.setIfInBounds i v) := by
  unfold Blk
  simp [World.setCell, Array.getElem?_modify, show w.heap[g]? = _ from h]
theorem far (h : Blk w g e C) {p : Addr} (hp : g ≠ p.block) (v : Value) : Blk (w.setCell p v) g e C := h.move (Below.heap_setCell w p v g hp)
theorem new (w : World) (C : Array Value) (e : TypeId) : Blk (w.alloc (.cells C e)) w.heap.size e C := heap_alloc_new w _
theorem alloc (h : Blk w g e C) (o : Obj) : Blk (w.alloc o) g e C := h.move (Below.heap_alloc w o g h.lt)
theorem drewN (h : Blk w g e C) (n : Nat) : Blk (w.drewN n) g e C := h
theorem drew (h : Blk w g e C) : Blk w.drew g e C := h
end Blk

/-! ### kinds -/
structure Kd (α : Type) where
  sz : Nat
  rep : World → List Nat → α → List Value → Prop
  len : ∀ {w S x cs}, rep w S x cs → cs.length = sz
  one : ∀ {w S x cs}, rep w S x cs → ∀ u ∈ cs, u.oneCell' = true
  lt : ∀ {w : World} {S x cs}, rep w S x cs → ∀ k ∈ S, k < w.heap.size
  move : ∀ {w w' : World} {S x cs}, rep w S x cs → (∀ k ∈ S, w'.heap[k]? = w.heap[k]?) → rep w' S x cs

theorem Kd.ext {α : Type} (d : Kd α) {w w' : World} {M S : List Nat} {x : α} {cs : List Value} (h : d.rep w S x cs) (hx : Ext M w w') (hd : ∀ k ∈ S, k ∉ M) : d.rep w' S x cs :=
  d.move h fun k hk => hx.block k (d.lt h k hk) (hd k hk)

/-- a kind of one cell -/
def kSc {α : Type} (enc : α → Value) (h1 : ∀ x, (enc x).oneCell' = true) : Kd α := {
  sz := 1
  rep := fun _ S x cs => S = [] ∧ cs = [enc x]
  len := by rintro _ _ _ _ ⟨_, rfl⟩; rfl
  one := by rintro _ _ x _ ⟨_, rfl⟩ u hu; rw [List.mem_singleton.1 hu]; exact h1 x
  lt := by rintro _ _ _ _ ⟨rfl, _⟩ k hk; cases hk
  move := fun h _ => h }
def kInt : Kd Int := kSc (.int .i64) fun _ => rfl
def kNat : Kd Nat := kSc (fun n => .int .i64 (n : Int)) fun _ => rfl
def kI32 : Kd Int := kSc (.int .i32) fun _ => rfl
def kBool : Kd Bool := kSc .bool fun _ => rfl

/-- how the elements of a row lie in the cells C: element i from i * sz on, in the blocks Ss[i] -/
def Elems {α : Type} (d : Kd α) (w : World) (Ss : List (List Nat)) (C : List Value) (xs : List α) : Prop :=
  Ss.length = xs.length ∧ ∀ i x, xs[i]? = some x → ∃ Si, Ss[i]? = some Si ∧ d.rep w Si x ((C.drop (i * d.sz)).take d.sz)

/-- a slice that is one's own: without room (nil, empty), or from a block's begin on -/
def SlR {α : Type} (d : Kd α) (e : TypeId) (w : World) (S : List Nat) (v : Value) (xs : List α) : Prop :=
  (∃ A, v = .slice A 0 0 ∧ xs = [] ∧ S = []) ∨
  ∃ g cap C Ss, v = .slice (some ⟨g, 0, none⟩) xs.length cap ∧ 0 < cap ∧ xs.length ≤ cap ∧ cap ≤ maxLen ∧ Blk w g e C ∧ C.size = cap * d.sz ∧ g ∉ Ss.flatten ∧ S = g :: Ss.flatten ∧ Elems d w Ss C.toList xs

section
variable {α : Type} {d : Kd α} {e : TypeId} {w w' : World} {S : List Nat} {v : Value} {xs : List α}
theorem Elems.lt {Ss : List (List Nat)} {C : List Value} (h : Elems d w Ss C xs) : ∀ k ∈ Ss.flatten, k < w.heap.size := by
  intro k hk
  obtain ⟨Si, hSi, hk⟩ := List.mem_flatten.1 hk
  obtain ⟨i, hi, rfl⟩ := List.getElem_of_mem hSi
  have hi' : i < xs.length := by rw [← h.1]; exact hi
  obtain ⟨Sj, hSj, hr⟩ := h.2 i xs[i] (List.getElem?_eq_getElem hi')
  rw [List.getElem?_eq_getElem hi] at hSj
  injection hSj with hSj
  subst hSj
  exact d.lt hr k hk
theorem Elems.move {Ss : List (List Nat)} {C : List Value} (h : Elems d w Ss C xs) (hm : ∀ k ∈ Ss.flatten, w'.heap[k]? = w.heap[k]?) : Elems d w' Ss C xs := by
  refine ⟨h.1, fun i x hx => ?_⟩
  obtain ⟨Si, hSi, hr⟩ := h.2 i x hx
  exact ⟨Si, hSi, d.move hr fun k hk => hm k (List.mem_flatten.2 ⟨Si, List.mem_of_getElem? hSi, hk⟩)⟩
theorem SlR.lt (h : SlR d e w S v xs) : ∀ k ∈ S, k < w.heap.size := by
  rcases h with ⟨A, rfl, rfl, rfl⟩ | ⟨g, cap, C, Ss, rfl, h0, h1, h2, hb, hC, hn, rfl, hE⟩
  · intro k hk; cases hk
  · intro k hk
    rcases List.mem_cons.1 hk with rfl | hk
    · exact hb.lt
    · exact hE.lt k hk
theorem SlR.move (h : SlR d e w S v xs) (hm : ∀ k ∈ S, w'.heap[k]? = w.heap[k]?) : SlR d e w' S v xs := by
  rcases h with h | ⟨g, cap, C, Ss, rfl, h0, h1, h2, hb, hC, hn, rfl, hE⟩
  · exact .inl h
  · exact .inr ⟨g, cap, C, Ss, rfl, h0, h1, h2, hb.move (hm g (by simp)), hC, hn, rfl, hE.move fun k hk => hm k (by simp [hk])⟩
theorem SlR.ext {M : List Nat} (h : SlR d e w S v xs) (hx : Ext M w w') (hd : ∀ k ∈ S, k ∉ M) : SlR d e w' S v xs :=
  h.move fun k hk => hx.block k (h.lt k hk) (hd k hk)
theorem SlR.ext0 (h : SlR d e w S v xs) (hx : Ext [] w w') : SlR d e w' S v xs := h.ext hx fun _ _ => by simp
theorem SlR.nil (d : Kd α) (e : TypeId) (w : World) : SlR d e w [] (.slice none 0 0) [] := .inl ⟨_, rfl, rfl, rfl⟩
theorem SlR.shape (h : SlR d e w S v xs) : ∃ A cap, v = .slice A xs.length cap ∧ xs.length ≤ cap := by
  rcases h with ⟨A, rfl, rfl, rfl⟩ | ⟨g, cap, C, Ss, rfl, h0, h1, h2, hb, hC, hn, rfl, hE⟩
  · exact ⟨A, 0, rfl, Nat.le_refl _⟩
  · exact ⟨_, cap, rfl, h1⟩
theorem SlR.len_le (h : SlR d e w S v xs) : xs.length ≤ maxLen := by
  rcases h with ⟨A, rfl, rfl, rfl⟩ | ⟨g, cap, C, Ss, rfl, h0, h1, h2, hb, hC, hn, rfl, hE⟩
  · exact Nat.zero_le _
  · omega
/-- an element: where it lies -/
theorem SlR.get (h : SlR d e w S v xs) (i : Nat) (hi : i < xs.length) :
    ∃ g cap Si cs, v = .slice (some ⟨g, 0, none⟩) xs.length cap ∧ g ∈ S ∧ (∀ k ∈ Si, k ∈ S) ∧ d.rep w Si xs[i] cs ∧
      (∀ j u, cs[j]? = some u → w.cell? ⟨g, i * d.sz + j, none⟩ = some u) ∧ (∀ j, w.frozen? ⟨g, j, none⟩ = false) := by
  rcases h with ⟨A, rfl, rfl, rfl⟩ | ⟨g, cap, C, Ss, rfl, h0, h1, h2, hb, hC, hn, rfl, hE⟩
  · simp at hi
  · obtain ⟨Si, hSi, hr⟩ := hE.2 i xs[i] (List.getElem?_eq_getElem hi)
    refine ⟨g, cap, Si, _, rfl, by simp, fun k hk => List.mem_cons_of_mem _ (List.mem_flatten.2 ⟨Si, List.mem_of_getElem? hSi, hk⟩), hr, fun j u hu => hb.cell ?_, hb.frozen⟩
    rw [List.getElem?_take] at hu
    split at hu
    · rw [List.getElem?_drop] at hu
      simpa using hu
    · cases hu
end

/-- a slice as a kind -/
def kSl {α : Type} (e : TypeId) (d : Kd α) : Kd (List α) := {
  sz := 1
  rep := fun w S xs cs => ∃ v, cs = [v] ∧ SlR d e w S v xs
  len := by rintro _ _ _ _ ⟨v, rfl, _⟩; rfl
  one := by
    rintro _ _ _ _ ⟨v, rfl, h⟩ u hu
    obtain ⟨A, cap, rfl, _⟩ := h.shape
    rw [List.mem_singleton.1 hu]; rfl
  lt := by rintro _ _ _ _ ⟨v, rfl, h⟩; exact h.lt
  move := by rintro _ _ _ _ _ ⟨v, rfl, h⟩ hm; exact ⟨v, rfl, h.move hm⟩ }

/-! ### slices of elements of one cell -/
section
variable {α : Type} {enc : α → Value} {h1 : ∀ x, (enc x).oneCell' = true} {e : TypeId} {w w' : World} {S : List Nat} {v : Value} {xs : List α}
theorem elems_sc {Ss : List (List Nat)} {C : List Value} : Elems (kSc enc h1) w Ss C xs ↔ Ss = List.replicate xs.length [] ∧ C.take xs.length = xs.map enc := by
  constructor
  · rintro ⟨hl, h⟩
    constructor
    · refine List.ext_getElem (by simp [hl]) fun i hi _ => ?_
      obtain ⟨Si, hSi, hr⟩ := h i xs[i] (List.getElem?_eq_getElem (by omega))
      rw [List.getElem?_eq_getElem hi] at hSi
      injection hSi with hSi
      rw [hSi, hr.1]; simp
    · refine List.ext_getElem? fun i => ?_
      rw [List.getElem?_take, List.getElem?_map]
      split
      · rename_i hi
        obtain ⟨Si, hSi, hr⟩ := h i xs[i] (List.getElem?_eq_getElem hi)
        have h2 := hr.2
        simp only [kSc, Nat.mul_one] at h2
        have h3 : (C.drop i)[0]? = some (enc xs[i]) := by
          have : ((C.drop i).take 1)[0]? = some (enc xs[i]) := by rw [h2]; rfl
          rwa [List.getElem?_take_of_lt (by omega)] at this
        rw [List.getElem?_drop, Nat.add_zero] at h3
        rw [h3, List.getElem?_eq_getElem hi]; rfl
      · rename_i hi
        rw [List.getElem?_eq_none (by omega)]; rfl
  · rintro ⟨rfl, h⟩
    refine ⟨by simp, fun i x hx => ?_⟩
    have hi : i < xs.length := (List.getElem?_eq_some_iff.1 hx).1
    refine ⟨[], by simp [List.getElem?_replicate, hi], rfl, ?_⟩
    have h3 : C[i]? = some (enc x) := by
      have : (C.take xs.length)[i]? = some (enc x) := by rw [h, List.getElem?_map, hx]; rfl
      rwa [List.getElem?_take_of_lt hi] at this
    show (C.drop (i * 1)).take 1 = [enc x]
    rw [Nat.mul_one]
    obtain ⟨hl, h4⟩ := List.getElem?_eq_some_iff.1 h3
    rw [List.drop_eq_getElem_cons hl, h4]; simp
theorem flatten_nils (n : Nat) : (List.replicate n ([] : List Nat)).flatten = [] := by simp
theorem slr_sc : SlR (kSc enc h1) e w S v xs ↔ (∃ A, v = .slice A 0 0 ∧ xs = [] ∧ S = []) ∨
    ∃ g cap C, v = .slice (some ⟨g, 0, none⟩) xs.length cap ∧ 0 < cap ∧ xs.length ≤ cap ∧ cap ≤ maxLen ∧ Blk w g e C ∧ C.size = cap ∧ S = [g] ∧ C.toList.take xs.length = xs.map enc := by
  constructor
  · rintro (h | ⟨g, cap, C, Ss, rfl, h0, h1', h2, hb, hC, hn, rfl, hE⟩)
    · exact .inl h
    · obtain ⟨rfl, h3⟩ := elems_sc.1 hE
      exact .inr ⟨g, cap, C, rfl, h0, h1', h2, hb, by simpa [kSc] using hC, by rw [flatten_nils], h3⟩
  · rintro (h | ⟨g, cap, C, rfl, h0, h1', h2, hb, hC, rfl, h3⟩)
    · exact .inl h
    · exact .inr ⟨g, cap, C, List.replicate xs.length [], rfl, h0, h1', h2, hb, by simpa [kSc] using hC, by rw [flatten_nils]; simp, by rw [flatten_nils], elems_sc.2 ⟨rfl, h3⟩⟩
theorem slr_own (h : SlR (kSc enc h1) e w S v xs) (hne : xs ≠ []) : ∃ g cap C, v = .slice (some ⟨g, 0, none⟩) xs.length cap ∧ 0 < cap ∧ xs.length ≤ cap ∧ cap ≤ maxLen ∧ Blk w g e C ∧ C.size = cap ∧ S = [g] ∧ C.toList.take xs.length = xs.map enc := by
  rcases slr_sc.1 h with ⟨A, rfl, rfl, rfl⟩ | h
  · exact absurd rfl hne
  · exact h
/-- an element's cell -/
theorem SlR.cell (h : SlR (kSc enc h1) e w S v xs) (i : Nat) (hi : i < xs.length) :
    ∃ g cap, v = .slice (some ⟨g, 0, none⟩) xs.length cap ∧ S = [g] ∧ w.cell? ⟨g, i, none⟩ = some (enc xs[i]) ∧ w.frozen? ⟨g, i, none⟩ = false := by
  obtain ⟨g, cap, C, hv, _, _, _, hb, _, hS, ht⟩ := slr_own h (by rintro rfl; simp at hi)
  refine ⟨g, cap, hv, hS, hb.cell ?_, hb.frozen i⟩
  have : (C.toList.take xs.length)[i]? = some (enc xs[i]) := by rw [ht, List.getElem?_map, List.getElem?_eq_getElem hi]; rfl
  rwa [List.getElem?_take_of_lt hi, Array.getElem?_toList] at this
/-- an element stored -/
theorem SlR.set {g : Nat} {n cap : Nat} (h : SlR (kSc enc h1) e w S (.slice (some ⟨g, 0, none⟩) n cap) xs) (i : Nat) (hi : i < xs.length) (x : α) :
    SlR (kSc enc h1) e (w.setCell ⟨g, i, none⟩ (enc x)) S (.slice (some ⟨g, 0, none⟩) n cap) (xs.set i x) := by
  obtain ⟨g', cap', C, hv, h0, h1', h2, hb, hC, rfl, ht⟩ := slr_own h (by rintro rfl; simp at hi)
  injection hv with e1 e2 e3
  injection e1 with e1
  injection e1 with e1
  subst e1 e2 e3
  refine slr_sc.2 (.inr ⟨g, cap, C.setIfInBounds i (enc x), by rw [List.length_set], h0, by rw [List.length_set]; exact h1', h2, hb.set i _, by simpa using hC, rfl, ?_⟩)
  rw [Array.toList_setIfInBounds, List.length_set, List.map_set, ← ht, List.take_set]
end
theorem slr_nat_int {e : TypeId} {w : World} {S : List Nat} {v : Value} {xs : List Nat} : SlR kNat e w S v xs ↔ SlR kInt e w S v (xs.map Int.ofNat) := by
  refine Iff.trans (slr_sc (enc := fun n : Nat => Value.int .i64 (n : Int))) (Iff.trans ?_ (Iff.symm (slr_sc (enc := Value.int .i64))))
  simp [List.map_map, Function.comp_def]
end Go.Proofs.Ytkmgbejhbkbaoaa
