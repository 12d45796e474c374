/- Parts joined by program: L0, L5, L1, Shelf, G1, D1, M1, G2, L2, G3, G4, M2, L3, L4, G8, M3, M4, M5, G5, G6, M6, G9. -/
import Derived.WalkKit
import Derived.WalkSpells
import Derived.WalkMore
import Derived.Deep.QuietTactic
import Derived.BigQuiet
import Derived.Deep.LoopGhost
import Derived.Laws.AppendOwn
import Derived.Below
import Derived.Lib.Hide
import Derived.MapKept
import Derived.Maps.Keyed
import Derived.DeepKeys4
import Derived.Shelf.Small.Bits
import Derived.Shelf.Strconv.Itoa0
import Derived.Shelf.Sort.Plain
import Derived.Shelf.Slices.Turned
import Derived.Shelf.Slices.Reverse
import Derived.Ground.Names2Prog
import Derived.Shelf.Slices.Clone
import Derived.Shelf.Slices.CompactI
import Derived.Shelf.Slices.Cells
import Derived.Shelf.Slices.In.SortNone
import Derived.Test.YtkmgbejhbkbaoaaProg
import Derived.Sort.OwnSortedInts
import Derived.Lib.OwnBridge
import Derived.Lib.SlicesCompact
import Derived.Lib.RowBridge
import Derived.Laws.MakeOwn
import Derived.Orders
import Derived.OrdersIn
import Derived.RangeFuncCalls
import Derived.RangeFuncNested
import Derived.RangeFuncBound
import Derived.RangeFuncLeaves
import Derived.Shelf.Abstract
import Derived.OwnWalkIn
import Derived.TacticsInMore
import Derived.LoopNIn
import Derived.LoopIn
import Derived.Laws.EntriesVeiled
/- Plain words on worlds: what a call has changed (Ext), how data lies in memory with the blocks that it takes up (Kd). -/
namespace Go.Proofs.Ytkmgbejhbkbaoaa
set_option linter.unusedSimpArgs false
set_option linter.unusedVariables false
open Go.RowKit

/-! ### worlds -/
structure Ext (M : List Nat) (w w' : World) : Prop where
  os : w'.os = w.os
  tape : w'.tape = w.tape
  output : w'.output = w.output
  size : w.heap.size ≤ w'.heap.size
  block : ∀ k, k < w.heap.size → k ∉ M → w'.heap[k]? = w.heap[k]?

namespace Ext
variable {M M' : List Nat} {a b c w w' : World}
theorem refl (M : List Nat) (w : World) : Ext M w w := ⟨rfl, rfl, rfl, Nat.le_refl _, fun _ _ _ => rfl⟩
theorem trans (h : Ext M a b) (k : Ext M' b c) (hM : ∀ x ∈ M', x ∈ M ∨ a.heap.size ≤ x) : Ext M a c :=
  ⟨k.os.trans h.os, k.tape.trans h.tape, k.output.trans h.output, Nat.le_trans h.size k.size, fun i hi hn =>
    (k.block i (Nat.lt_of_lt_of_le hi h.size) (fun hm => by rcases hM i hm with h1 | h1; exact hn h1; omega)).trans (h.block i hi hn)⟩
theorem same (h : Ext M a b) (k : Ext M b c) : Ext M a c := h.trans k fun _ h => .inl h
theorem nil (h : Ext M a b) (k : Ext [] b c) : Ext M a c := h.trans k fun _ h => by cases h
theorem mono (h : Ext M a b) (hM : ∀ x ∈ M, x ∈ M' ∨ a.heap.size ≤ x) : Ext M' a b :=
  ⟨h.os, h.tape, h.output, h.size, fun i hi hn => h.block i hi fun hm => by rcases hM i hm with h1 | h1; exact hn h1; omega⟩
theorem drewN (h : Ext M a b) (n : Nat) : Ext M a (b.drewN n) := ⟨h.os, h.tape, h.output, h.size, h.block⟩
theorem drew (h : Ext M a b) : Ext M a b.drew := ⟨h.os, h.tape, h.output, h.size, h.block⟩
theorem alloc (h : Ext M a b) (o : Obj) : Ext M a (b.alloc o) :=
  ⟨h.os, h.tape, h.output, by have := h.size; simp; omega, fun k hk hn => (Below.heap_alloc b o k (Nat.lt_of_lt_of_le hk h.size)).trans (h.block k hk hn)⟩
theorem setCell (h : Ext M a b) {p : Addr} (hp : p.block ∈ M ∨ a.heap.size ≤ p.block) (u : Value) : Ext M a (b.setCell p u) :=
  ⟨h.os, h.tape, h.output, by have := h.size; simp [World.setCell]; omega, fun k hk hn =>
    (Below.heap_setCell b p u k (by rintro rfl; rcases hp with h1 | h1; exact hn h1; omega)).trans (h.block k hk hn)⟩
theorem grown (h : Ext M a b) {row : Option Nat} (hg : b.grownBy c row) (hr : ∀ k, row = some k → k ∈ M ∨ a.heap.size ≤ k) : Ext M a c :=
  h.trans (M' := row.toList) ⟨hg.os, hg.tape, hg.output, hg.size, fun k hk hn => hg.block k hk fun e => hn (by rw [← e]; simp)⟩ fun x hx => hr x (by simpa using hx)
theorem below (h : Ext [] w w') : Below w.heap.size w w' := ⟨h.os, h.tape, h.output, h.size, fun k hk => h.block k hk (by simp)⟩
theorem of_below (h : Below w.heap.size w w') : Ext [] w w' := ⟨h.os, h.tape, h.output, h.size, fun k hk _ => h.block k hk⟩
theorem cell (h : Ext M w w') {p : Addr} {v : Value} (hc : w.cell? p = some v) (hp : p.block ∉ M) : w'.cell? p = some v :=
  (World.cell?_of_block (h.block p.block (World.block_lt_of_cell? w p hc) hp)).trans hc
theorem frozen (h : Ext M w w') {p : Addr} (hk : p.block < w.heap.size) (hp : p.block ∉ M) : w'.frozen? p = w.frozen? p := World.frozen?_of_block (h.block p.block hk hp)
end Ext

/-- a block of cells that may be written -/
def Blk (w : World) (g : Nat) (e : TypeId) (C : Array Value) : Prop := w.heap[g]? = some (.cells C e (0, 0))
namespace Blk
variable {w w' : World} {g : Nat} {e : TypeId} {C : Array Value}
theorem lt (h : Blk w g e C) : g < w.heap.size := (Array.getElem?_eq_some_iff.1 h).1
theorem cell (h : Blk w g e C) {i : Nat} {v : Value} (hv : C[i]? = some v) : w.cell? ⟨g, i, none⟩ = some v := by
  simp [World.cell?, show w.heap[g]? = _ from h, hv]
theorem frozen (h : Blk w g e C) (i : Nat) : w.frozen? ⟨g, i, none⟩ = false := by
  simp [World.frozen?, show w.heap[g]? = _ from h]
theorem move (h : Blk w g e C) (hm : w'.heap[g]? = w.heap[g]?) : Blk w' g e C := hm.trans h
theorem ext (h : Blk w g e C) {M : List Nat} (hx : Ext M w w') (hg : g ∉ M) : Blk w' g e C := h.move (hx.block g h.lt hg)
theorem set (h : Blk w g e C) (i : Nat) (v : Value) : Blk (w.setCell ⟨g, i, none⟩ v) g e (C.setIfInBounds i v) := by
  unfold Blk
  simp [World.setCell, Array.getElem?_modify, show w.heap[g]? = _ from h]
theorem far (h : Blk w g e C) {p : Addr} (hp : g ≠ p.block) (v : Value) : Blk (w.setCell p v) g e C := h.move (Below.heap_setCell w p v g hp)
theorem new (w : World) (C : Array Value) (e : TypeId) : Blk (w.alloc (.cells C e)) w.heap.size e C := heap_alloc_new w _
theorem alloc (h : Blk w g e C) (o : Obj) : Blk (w.alloc o) g e C := h.move (Below.heap_alloc w o g h.lt)
theorem drewN (h : Blk w g e C) (n : Nat) : Blk (w.drewN n) g e C := h
theorem drew (h : Blk w g e C) : Blk w.drew g e C := h
end Blk

/-! ### kinds -/
structure Kd (α : Type) where
  sz : Nat
  rep : World → List Nat → α → List Value → Prop
  len : ∀ {w S x cs}, rep w S x cs → cs.length = sz
  one : ∀ {w S x cs}, rep w S x cs → ∀ u ∈ cs, u.oneCell' = true
  lt : ∀ {w : World} {S x cs}, rep w S x cs → ∀ k ∈ S, k < w.heap.size
  move : ∀ {w w' : World} {S x cs}, rep w S x cs → (∀ k ∈ S, w'.heap[k]? = w.heap[k]?) → rep w' S x cs

theorem Kd.ext {α : Type} (d : Kd α) {w w' : World} {M S : List Nat} {x : α} {cs : List Value} (h : d.rep w S x cs) (hx : Ext M w w') (hd : ∀ k ∈ S, k ∉ M) : d.rep w' S x cs :=
  d.move h fun k hk => hx.block k (d.lt h k hk) (hd k hk)

/-- a kind of one cell -/
def kSc {α : Type} (enc : α → Value) (h1 : ∀ x, (enc x).oneCell' = true) : Kd α := {
  sz := 1
  rep := fun _ S x cs => S = [] ∧ cs = [enc x]
  len := by rintro _ _ _ _ ⟨_, rfl⟩; rfl
  one := by rintro _ _ x _ ⟨_, rfl⟩ u hu; rw [List.mem_singleton.1 hu]; exact h1 x
  lt := by rintro _ _ _ _ ⟨rfl, _⟩ k hk; cases hk
  move := fun h _ => h }
def kInt : Kd Int := kSc (.int .i64) fun _ => rfl
def kNat : Kd Nat := kSc (fun n => .int .i64 (n : Int)) fun _ => rfl
def kI32 : Kd Int := kSc (.int .i32) fun _ => rfl
def kBool : Kd Bool := kSc .bool fun _ => rfl

/-- how the elements of a row lie in the cells C: element i from i * sz on, in the blocks Ss[i] -/
def Elems {α : Type} (d : Kd α) (w : World) (Ss : List (List Nat)) (C : List Value) (xs : List α) : Prop :=
  Ss.length = xs.length ∧ ∀ i x, xs[i]? = some x → ∃ Si, Ss[i]? = some Si ∧ d.rep w Si x ((C.drop (i * d.sz)).take d.sz)

/-- a slice that is one's own: without room (nil, empty), or from a block's begin on -/
def SlR {α : Type} (d : Kd α) (e : TypeId) (w : World) (S : List Nat) (v : Value) (xs : List α) : Prop :=
  (∃ A, v = .slice A 0 0 ∧ xs = [] ∧ S = []) ∨
  ∃ g cap C Ss, v = .slice (some ⟨g, 0, none⟩) xs.length cap ∧ 0 < cap ∧ xs.length ≤ cap ∧ cap ≤ maxLen ∧ Blk w g e C ∧ C.size = cap * d.sz ∧ g ∉ Ss.flatten ∧ S = g :: Ss.flatten ∧ Elems d w Ss C.toList xs

section
variable {α : Type} {d : Kd α} {e : TypeId} {w w' : World} {S : List Nat} {v : Value} {xs : List α}
theorem Elems.lt {Ss : List (List Nat)} {C : List Value} (h : Elems d w Ss C xs) : ∀ k ∈ Ss.flatten, k < w.heap.size := by
  intro k hk
  obtain ⟨Si, hSi, hk⟩ := List.mem_flatten.1 hk
  obtain ⟨i, hi, rfl⟩ := List.getElem_of_mem hSi
  have hi' : i < xs.length := by rw [← h.1]; exact hi
  obtain ⟨Sj, hSj, hr⟩ := h.2 i xs[i] (List.getElem?_eq_getElem hi')
  rw [List.getElem?_eq_getElem hi] at hSj
  injection hSj with hSj
  subst hSj
  exact d.lt hr k hk
theorem Elems.move {Ss : List (List Nat)} {C : List Value} (h : Elems d w Ss C xs) (hm : ∀ k ∈ Ss.flatten, w'.heap[k]? = w.heap[k]?) : Elems d w' Ss C xs := by
  refine ⟨h.1, fun i x hx => ?_⟩
  obtain ⟨Si, hSi, hr⟩ := h.2 i x hx
  exact ⟨Si, hSi, d.move hr fun k hk => hm k (List.mem_flatten.2 ⟨Si, List.mem_of_getElem? hSi, hk⟩)⟩
theorem SlR.lt (h : SlR d e w S v xs) : ∀ k ∈ S, k < w.heap.size := by
  rcases h with ⟨A, rfl, rfl, rfl⟩ | ⟨g, cap, C, Ss, rfl, h0, h1, h2, hb, hC, hn, rfl, hE⟩
  · intro k hk; cases hk
  · intro k hk
    rcases List.mem_cons.1 hk with rfl | hk
    · exact hb.lt
    · exact hE.lt k hk
theorem SlR.move (h : SlR d e w S v xs) (hm : ∀ k ∈ S, w'.heap[k]? = w.heap[k]?) : SlR d e w' S v xs := by
  rcases h with h | ⟨g, cap, C, Ss, rfl, h0, h1, h2, hb, hC, hn, rfl, hE⟩
  · exact .inl h
  · exact .inr ⟨g, cap, C, Ss, rfl, h0, h1, h2, hb.move (hm g (by simp)), hC, hn, rfl, hE.move fun k hk => hm k (by simp [hk])⟩
theorem SlR.ext {M : List Nat} (h : SlR d e w S v xs) (hx : Ext M w w') (hd : ∀ k ∈ S, k ∉ M) : SlR d e w' S v xs :=
  h.move fun k hk => hx.block k (h.lt k hk) (hd k hk)
theorem SlR.ext0 (h : SlR d e w S v xs) (hx : Ext [] w w') : SlR d e w' S v xs := h.ext hx fun _ _ => by simp
theorem SlR.nil (d : Kd α) (e : TypeId) (w : World) : SlR d e w [] (.slice none 0 0) [] := .inl ⟨_, rfl, rfl, rfl⟩
theorem SlR.shape (h : SlR d e w S v xs) : ∃ A cap, v = .slice A xs.length cap ∧ xs.length ≤ cap := by
  rcases h with ⟨A, rfl, rfl, rfl⟩ | ⟨g, cap, C, Ss, rfl, h0, h1, h2, hb, hC, hn, rfl, hE⟩
  · exact ⟨A, 0, rfl, Nat.le_refl _⟩
  · exact ⟨_, cap, rfl, h1⟩
theorem SlR.len_le (h : SlR d e w S v xs) : xs.length ≤ maxLen := by
  rcases h with ⟨A, rfl, rfl, rfl⟩ | ⟨g, cap, C, Ss, rfl, h0, h1, h2, hb, hC, hn, rfl, hE⟩
  · exact Nat.zero_le _
  · omega
/-- an element: where it lies -/
theorem SlR.get (h : SlR d e w S v xs) (i : Nat) (hi : i < xs.length) :
    ∃ g cap Si cs, v = .slice (some ⟨g, 0, none⟩) xs.length cap ∧ g ∈ S ∧ (∀ k ∈ Si, k ∈ S) ∧ d.rep w Si xs[i] cs ∧
      (∀ j u, cs[j]? = some u → w.cell? ⟨g, i * d.sz + j, none⟩ = some u) ∧ (∀ j, w.frozen? ⟨g, j, none⟩ = false) := by
  rcases h with ⟨A, rfl, rfl, rfl⟩ | ⟨g, cap, C, Ss, rfl, h0, h1, h2, hb, hC, hn, rfl, hE⟩
  · simp at hi
  · obtain ⟨Si, hSi, hr⟩ := hE.2 i xs[i] (List.getElem?_eq_getElem hi)
    refine ⟨g, cap, Si, _, rfl, by simp, fun k hk => List.mem_cons_of_mem _ (List.mem_flatten.2 ⟨Si, List.mem_of_getElem? hSi, hk⟩), hr, fun j u hu => hb.cell ?_, hb.frozen⟩
    rw [List.getElem?_take] at hu
    split at hu
    · rw [List.getElem?_drop] at hu
      simpa using hu
    · cases hu
end

/-- a slice as a kind -/
def kSl {α : Type} (e : TypeId) (d : Kd α) : Kd (List α) := {
  sz := 1
  rep := fun w S xs cs => ∃ v, cs = [v] ∧ SlR d e w S v xs
  len := by rintro _ _ _ _ ⟨v, rfl, _⟩; rfl
  one := by
    rintro _ _ _ _ ⟨v, rfl, h⟩ u hu
    obtain ⟨A, cap, rfl, _⟩ := h.shape
    rw [List.mem_singleton.1 hu]; rfl
  lt := by rintro _ _ _ _ ⟨v, rfl, h⟩; exact h.lt
  move := by rintro _ _ _ _ _ ⟨v, rfl, h⟩ hm; exact ⟨v, rfl, h.move hm⟩ }

/-! ### slices of elements of one cell -/
section
variable {α : Type} {enc : α → Value} {h1 : ∀ x, (enc x).oneCell' = true} {e : TypeId} {w w' : World} {S : List Nat} {v : Value} {xs : List α}
theorem elems_sc {Ss : List (List Nat)} {C : List Value} : Elems (kSc enc h1) w Ss C xs ↔ Ss = List.replicate xs.length [] ∧ C.take xs.length = xs.map enc := by
  constructor
  · rintro ⟨hl, h⟩
    constructor
    · refine List.ext_getElem (by simp [hl]) fun i hi _ => ?_
      obtain ⟨Si, hSi, hr⟩ := h i xs[i] (List.getElem?_eq_getElem (by omega))
      rw [List.getElem?_eq_getElem hi] at hSi
      injection hSi with hSi
      rw [hSi, hr.1]; simp
    · refine List.ext_getElem? fun i => ?_
      rw [List.getElem?_take, List.getElem?_map]
      split
      · rename_i hi
        obtain ⟨Si, hSi, hr⟩ := h i xs[i] (List.getElem?_eq_getElem hi)
        have h2 := hr.2
        simp only [kSc, Nat.mul_one] at h2
        have h3 : (C.drop i)[0]? = some (enc xs[i]) := by
          have : ((C.drop i).take 1)[0]? = some (enc xs[i]) := by rw [h2]; rfl
          rwa [List.getElem?_take_of_lt (by omega)] at this
        rw [List.getElem?_drop, Nat.add_zero] at h3
        rw [h3, List.getElem?_eq_getElem hi]; rfl
      · rename_i hi
        rw [List.getElem?_eq_none (by omega)]; rfl
  · rintro ⟨rfl, h⟩
    refine ⟨by simp, fun i x hx => ?_⟩
    have hi : i < xs.length := (List.getElem?_eq_some_iff.1 hx).1
    refine ⟨[], by simp [List.getElem?_replicate, hi], rfl, ?_⟩
    have h3 : C[i]? = some (enc x) := by
      have : (C.take xs.length)[i]? = some (enc x) := by rw [h, List.getElem?_map, hx]; rfl
      rwa [List.getElem?_take_of_lt hi] at this
    show (C.drop (i * 1)).take 1 = [enc x]
    rw [Nat.mul_one]
    obtain ⟨hl, h4⟩ := List.getElem?_eq_some_iff.1 h3
    rw [List.drop_eq_getElem_cons hl, h4]; simp
theorem flatten_nils (n : Nat) : (List.replicate n ([] : List Nat)).flatten = [] := by simp
theorem slr_sc : SlR (kSc enc h1) e w S v xs ↔ (∃ A, v = .slice A 0 0 ∧ xs = [] ∧ S = []) ∨
    ∃ g cap C, v = .slice (some ⟨g, 0, none⟩) xs.length cap ∧ 0 < cap ∧ xs.length ≤ cap ∧ cap ≤ maxLen ∧ Blk w g e C ∧ C.size = cap ∧ S = [g] ∧ C.toList.take xs.length = xs.map enc := by
  constructor
  · rintro (h | ⟨g, cap, C, Ss, rfl, h0, h1', h2, hb, hC, hn, rfl, hE⟩)
    · exact .inl h
    · obtain ⟨rfl, h3⟩ := elems_sc.1 hE
      exact .inr ⟨g, cap, C, rfl, h0, h1', h2, hb, by simpa [kSc] using hC, by rw [flatten_nils], h3⟩
  · rintro (h | ⟨g, cap, C, rfl, h0, h1', h2, hb, hC, rfl, h3⟩)
    · exact .inl h
    · exact .inr ⟨g, cap, C, List.replicate xs.length [], rfl, h0, h1', h2, hb, by simpa [kSc] using hC, by rw [flatten_nils]; simp, by rw [flatten_nils], elems_sc.2 ⟨rfl, h3⟩⟩
theorem slr_own (h : SlR (kSc enc h1) e w S v xs) (hne : xs ≠ []) : ∃ g cap C, v = .slice (some ⟨g, 0, none⟩) xs.length cap ∧ 0 < cap ∧ xs.length ≤ cap ∧ cap ≤ maxLen ∧ Blk w g e C ∧ C.size = cap ∧ S = [g] ∧ C.toList.take xs.length = xs.map enc := by
  rcases slr_sc.1 h with ⟨A, rfl, rfl, rfl⟩ | h
  · exact absurd rfl hne
  · exact h
/-- an element's cell -/
theorem SlR.cell (h : SlR (kSc enc h1) e w S v xs) (i : Nat) (hi : i < xs.length) :
    ∃ g cap, v = .slice (some ⟨g, 0, none⟩) xs.length cap ∧ S = [g] ∧ w.cell? ⟨g, i, none⟩ = some (enc xs[i]) ∧ w.frozen? ⟨g, i, none⟩ = false := by
  obtain ⟨g, cap, C, hv, _, _, _, hb, _, hS, ht⟩ := slr_own h (by rintro rfl; simp at hi)
  refine ⟨g, cap, hv, hS, hb.cell ?_, hb.frozen i⟩
  have : (C.toList.take xs.length)[i]? = some (enc xs[i]) := by rw [ht, List.getElem?_map, List.getElem?_eq_getElem hi]; rfl
  rwa [List.getElem?_take_of_lt hi, Array.getElem?_toList] at this
/-- an element stored -/
theorem SlR.set {g : Nat} {n cap : Nat} (h : SlR (kSc enc h1) e w S (.slice (some ⟨g, 0, none⟩) n cap) xs) (i : Nat) (hi : i < xs.length) (x : α) :
    SlR (kSc enc h1) e (w.setCell ⟨g, i, none⟩ (enc x)) S (.slice (some ⟨g, 0, none⟩) n cap) (xs.set i x) := by
  obtain ⟨g', cap', C, hv, h0, h1', h2, hb, hC, rfl, ht⟩ := slr_own h (by rintro rfl; simp at hi)
  injection hv with e1 e2 e3
  injection e1 with e1
  injection e1 with e1
  subst e1 e2 e3
  refine slr_sc.2 (.inr ⟨g, cap, C.setIfInBounds i (enc x), by rw [List.length_set], h0, by rw [List.length_set]; exact h1', h2, hb.set i _, by simpa using hC, rfl, ?_⟩)
  rw [Array.toList_setIfInBounds, List.length_set, List.map_set, ← ht, List.take_set]
end
theorem slr_nat_int {e : TypeId} {w : World} {S : List Nat} {v : Value} {xs : List Nat} : SlR kNat e w S v xs ↔ SlR kInt e w S v (xs.map Int.ofNat) := by
  refine Iff.trans (slr_sc (enc := fun n : Nat => Value.int .i64 (n : Int))) (Iff.trans ?_ (Iff.symm (slr_sc (enc := Value.int .i64))))
  simp [List.map_map, Function.comp_def]
end Go.Proofs.Ytkmgbejhbkbaoaa

/- Maps that the program makes: their entries as a list. -/
namespace Go.Proofs.Ytkmgbejhbkbaoaa
set_option linter.unusedSimpArgs false
set_option linter.unusedVariables false
open Go.RowKit

/-- what a map's laws need of its keys -/
structure KL (P : Program) (k : TypeId) (Kp : Value → Prop) : Prop where
  check : ∀ (w : World) (em : Bool) {v : Value}, Kp v → (Instr.checkKey em 10000 k v).run P w = .ok () w
  find : ∀ (w : World) {x : Value}, Kp x → ∀ es : List MapEntry, (∀ e ∈ es, Kp e.key) →
    ((Instr.findKey k x es).run P w = .ok none w ∧ ∀ e ∈ es, e.key ≠ x) ∨ ∃ j e, (Instr.findKey k x es).run P w = .ok (some (j, e.val)) w ∧ es[j]? = some e ∧ e.key = x
theorem KL.int {P : Program} {k : TypeId} {q : IntKind} (hk : P.underlying k = some (.int q)) : KL P k (fun v => ∃ a, v = .int q a) := {
  check := by rintro w em _ ⟨a, rfl⟩; exact MapKept.run_checkKey hk (by simp [MapKept.IsKey]) em 9999
  find := by
    rintro w _ ⟨a, rfl⟩ es hes
    rcases MapKept.findNow_spec (d := .int q) (k := .int q a) (by simp [MapKept.IsKey]) es 0 (fun e he => by obtain ⟨b, hb⟩ := hes e he; rw [hb]; simp [MapKept.IsKey]) with ⟨h1, h2⟩ | ⟨j, e, h1, h2, h3⟩
    · exact .inl ⟨MapKept.run_findKey hk h1, h2⟩
    · exact .inr ⟨j, e, by simpa using MapKept.run_findKey hk h1, h2, h3⟩ }
theorem KL.of_keyed {P : Program} {k : TypeId} (K : Maps.Keyed P k) : KL P k (fun v => ∃ l, keyOf P k v = some l) := {
  check := by rintro w em v ⟨l, h⟩; exact K.check w em h
  find := by rintro w x ⟨l, h⟩ es hes; exact K.find w h es hes }

/-- a map's block: its entries in the order in which they came -/
def MapR (Kp : Value → Prop) (w : World) (g : Nat) (L : List (Value × Value)) : Prop :=
  ∃ es clock, w.heap[g]? = some (.map es clock) ∧ es.toList.map (fun e => (e.key, e.val)) = L ∧ ∀ p ∈ L, Kp p.1
section
variable {P : Program} {Kp : Value → Prop} {w w' : World} {g : Nat} {L : List (Value × Value)}
theorem MapR.lt (h : MapR Kp w g L) : g < w.heap.size := by obtain ⟨_, _, h, _⟩ := h; exact (Array.getElem?_eq_some_iff.1 h).1
theorem MapR.move (h : MapR Kp w g L) (hm : w'.heap[g]? = w.heap[g]?) : MapR Kp w' g L := by
  obtain ⟨es, c, h1, h2, h3⟩ := h; exact ⟨es, c, hm.trans h1, h2, h3⟩
theorem MapR.ext (h : MapR Kp w g L) {M : List Nat} (hx : Ext M w w') (hg : g ∉ M) : MapR Kp w' g L := h.move (hx.block g h.lt hg)
theorem MapR.new (w : World) : MapR Kp (w.alloc (.map #[] 0)) w.heap.size [] := ⟨#[], 0, heap_alloc_new w _, rfl, by simp⟩

theorem MapR.look {k t e : TypeId} (K : KL P k Kp) (ht : P.underlying t = some (.map k e)) {z : Value} (hz : (zeroValue e).run P w = .ok z w) (h : MapR Kp w g L) {key : Value} (hk : Kp key) :
    ((Instr.lookup t (.map (some g)) key true).run P w = .ok (.tuple #[z, .bool false]) w ∧ ∀ p ∈ L, p.1 ≠ key) ∨
    ∃ v, (key, v) ∈ L ∧ (Instr.lookup t (.map (some g)) key true).run P w = .ok (.tuple #[v, .bool true]) w := by
  obtain ⟨es, clock, hb, rfl, hL⟩ := h
  have hes : ∀ e ∈ es.toList, Kp e.key := fun e he => hL (e.key, e.val) (List.mem_map.2 ⟨e, he, rfl⟩)
  rcases K.find w hk es.toList hes with ⟨h1, h2⟩ | ⟨j, e0, h1, h2, h3⟩
  · refine .inl ⟨by simp [Instr.lookup, run_underlying ht, MapKept.run_getObj_map hb, K.check w _ hk, h1, hz, Result.andThen], fun p hp => ?_⟩
    obtain ⟨e, he, rfl⟩ := List.mem_map.1 hp
    exact h2 e he
  · exact .inr ⟨e0.val, List.mem_map.2 ⟨e0, List.mem_of_getElem? h2, by rw [h3]⟩, by simp [Instr.lookup, run_underlying ht, MapKept.run_getObj_map hb, K.check w _ hk, h1, Result.andThen]⟩
/-- a new key -/
theorem MapR.put {k t e : TypeId} (K : KL P k Kp) (ht : P.underlying t = some (.map k e)) (h : MapR Kp w g L) {key : Value} (hk : Kp key) (hn : ∀ p ∈ L, p.1 ≠ key) (val : Value) :
    ∃ w', (Instr.mapUpdate t (.map (some g)) key val).run P w = .ok () w' ∧ MapR Kp w' g (L ++ [(key, val)]) ∧ Ext [g] w w' := by
  obtain ⟨es, clock, hb, rfl, hL⟩ := h
  have hes : ∀ e ∈ es.toList, Kp e.key := fun e he => hL (e.key, e.val) (List.mem_map.2 ⟨e, he, rfl⟩)
  have hlt : g < w.heap.size := (Array.getElem?_eq_some_iff.1 hb).1
  rcases K.find w hk es.toList hes with ⟨h1, h2⟩ | ⟨j, e0, h1, h2, h3⟩
  · refine ⟨{ w with heap := w.heap.setIfInBounds g (.map (es.push ⟨key, val, clock⟩) (clock + 1)) }, by simp [Instr.mapUpdate, run_underlying ht, MapKept.run_getObj_map hb, K.check w false hk, h1, MapKept.run_setObj_map _ hb, Result.andThen],
      ⟨_, _, (MapKept.heap_set hb).1, by simp, fun p hp => ?_⟩, ⟨rfl, rfl, rfl, by simp, fun k hk hg => (MapKept.heap_set hb).2 k (by simpa using hg)⟩⟩
    rcases List.mem_append.1 hp with hp | hp
    · exact hL p hp
    · simp at hp; subst hp; exact hk
  · exact absurd h3 (hn (e0.key, e0.val) (List.mem_map.2 ⟨e0, List.mem_of_getElem? h2, rfl⟩))
end
end Go.Proofs.Ytkmgbejhbkbaoaa

/- Appending to a slice of one's own; making slices; storing an element. -/
namespace Go.Proofs.Ytkmgbejhbkbaoaa
set_option linter.unusedSimpArgs false
set_option linter.unusedVariables false
open Go.RowKit

/-- what a call has made: new blocks S; all else is as it was -/
structure New (w w' : World) (S : List Nat) : Prop where
  ext : Ext [] w w'
  fresh : ∀ k ∈ S, w.heap.size ≤ k
  nodup : S.Nodup
theorem New.append {w wr w1 w2 : World} {S S' : List Nat} (h : New w wr S) (h1 : Ext [] wr w1) (h2 : Ext S w1 w2) (hf : ∀ k ∈ S', k ∈ S ∨ k = w1.heap.size ∨ k ∈ ([] : List Nat)) (hn : S.Nodup → ([] : List Nat).Nodup → S'.Nodup) : New w w2 S' := by
  refine ⟨(h.ext.nil h1).trans h2 fun k hk => .inr (h.fresh k hk), fun k hk => ?_, hn h.nodup (by simp)⟩
  have e1 := h.ext.size
  have e2 := h1.size
  rcases hf k hk with h3 | h3 | h3
  · exact h.fresh k h3
  · omega
  · cases h3
theorem New.refl (w : World) : New w w [] := ⟨Ext.refl _ _, by simp, by simp⟩
/-- what the translation says of a slice type and its elements -/
structure EI (P : Program) (t e : TypeId) (sz bytes : Nat) : Prop where
  ht : P.underlying t = some (.slice e)
  hi : ∃ i z, P.info? e = some i ∧ i.zero = some z ∧ i.size = sz ∧ i.bytes = bytes ∧ z.cells.size = sz
  pos : 0 < sz

/-- a slice whose first elements lie in these cells -/
def Src (w : World) (x : Value) (m : Nat) (news : List Value) : Prop :=
  ∃ B c, x = .slice B m c ∧ (0 < m → ∃ a, B = some a ∧ ∀ j u, news[j]? = some u → w.cell? (a.add j) = some u)

section
variable {P : Program} {w : World} {t ty e : TypeId} {sz bytes : Nat}

theorem run_append_bare (he : EI P t e sz bytes) (A : Option Addr) (x : Value) (m : Nat) (news : List Value) (hl : news.length = m * sz) (hx : Src w x m news)
    (h63 : m ≤ maxLen) (hb : m * bytes ≤ 140737488355328) :
    (m = 0 ∧ (Builtin.append_ #[t, t] ty #[.slice A 0 0, x]).run P w = .ok (.slice A 0 0) w) ∨
    (0 < m ∧ ∃ c C, (Builtin.append_ #[t, t] ty #[.slice A 0 0, x]).run P w = .ok (.slice (some ⟨w.heap.size, 0, none⟩) m c) (w.drew.alloc (.cells C e)) ∧
      m ≤ c ∧ c ≤ maxLen ∧ C.size = c * sz ∧ C.toList.take (m * sz) = news) := by
  obtain ⟨i, z, hi, hz, rfl, rfl, hzs⟩ := he.hi
  have ht := he.ht
  obtain ⟨B, c, rfl, hB⟩ := hx
  by_cases hm : m = 0
  · subst hm
    refine .inl ⟨rfl, ?_⟩
    cases A <;> cases B <;> simp [Builtin.append_, run_underlying ht, sizeOf, typeInfo, hi, Builtin.lenOf, Builtin.firstCells, loadCells, loadCellsFrom, storeCells]
  · obtain ⟨a, rfl, hc⟩ := hB (by omega)
    refine .inr ⟨by omega, grownCap w m 0 e, (news.toArray ++ Builtin.zeroCells z.cells (grownCap w m 0 e - m)), ?_, grownCap_ge _ _ _ _, grownCap_le_maxLen _ _ _ _ h63, ?_, ?_⟩
    · cases A with
      | none => exact run_append_nil (P := P) w t ty e i z ht hi hz a m c news hl hc (by omega) (by simp only [maxLen] at h63; omega) (by omega)
      | some b =>
        have hn : m ≠ 0 := hm
        have h63' : ¬ (9223372036854775807 < (m : Int)) := by simp only [maxLen] at h63; omega
        have h48' : ¬ (281474976710656 < Builtin.nextslicecap m 0 * i.bytes) := by rw [nextslicecap_zero (by omega)]; omega
        have hf := run_firstCells_some (P := P) w.drew i.size m a m c news hl (by simpa using hc)
        have hf0 := run_firstCells_some (P := P) w.drew i.size 0 b 0 0 [] (by simp) (by simp)
        simp [Builtin.append_, run_underlying ht, sizeOf, typeInfo, zeroValue, hi, hz, Builtin.lenOf, hn, h63', h48', Question.forced, hf, hf0, newRow, grownCap]
    · have hge := grownCap_ge w m 0 e
      simp only [Array.size_append, List.size_toArray, size_zeroCells, hzs, hl, ← Nat.add_mul]
      congr 1; omega
    · simp only [Array.toList_append, ← hl]
      exact List.take_left

theorem run_append_here (he : EI P t e sz bytes) (g n cap : Nat) (C : Array Value) (hb : Blk w g e C) (hn : n ≤ cap) (hcm : cap ≤ maxLen) (hC : C.size = cap * sz)
    (x : Value) (m : Nat) (news : List Value) (hl : news.length = m * sz) (hx : Src w x m news) (h1 : ∀ u ∈ news, u.oneCell' = true)
    (h63 : n + m ≤ maxLen) (hbytes : (n + m) * bytes ≤ 140737488355328) :
    ∃ g' cap' C' w', (Builtin.append_ #[t, t] ty #[.slice (some ⟨g, 0, none⟩) n cap, x]).run P w = .ok (.slice (some ⟨g', 0, none⟩) (n + m) cap') w' ∧
      (g' = g ∨ g' = w.heap.size) ∧ w.heap.size ≤ w'.heap.size ∧ n + m ≤ cap' ∧ cap ≤ cap' ∧ cap' ≤ maxLen ∧ Blk w' g' e C' ∧ C'.size = cap' * sz ∧ C'.toList.take ((n + m) * sz) = C.toList.take (n * sz) ++ news ∧ Ext [g] w w' := by
  obtain ⟨i, z, hi, hz, rfl, rfl, hzs⟩ := he.hi
  have ht := he.ht
  obtain ⟨B, c, rfl, hB⟩ := hx
  have hlx : (C.toList.take (n * i.size)).length = n * i.size := by
    rw [List.length_take, Array.length_toList, hC]; exact Nat.min_eq_left (Nat.mul_le_mul_right _ hn)
  by_cases hm : m = 0
  · subst hm
    have hnil : news = [] := List.eq_nil_of_length_eq_zero (by simpa using hl)
    subst hnil
    refine ⟨g, cap, C, w, ?_, .inl rfl, Nat.le_refl _, by omega, Nat.le_refl _, hcm, hb, hC, by simp, Ext.refl _ _⟩
    cases B <;> simp [Builtin.append_, run_underlying ht, sizeOf, typeInfo, hi, Builtin.lenOf, Builtin.firstCells, loadCells, loadCellsFrom, storeCells, hn]
  · obtain ⟨a, rfl, hc⟩ := hB (by omega)
    by_cases hroom : n + m ≤ cap
    · have hfit : n * i.size + news.length ≤ C.size := by rw [hl, hC, ← Nat.add_mul]; exact Nat.mul_le_mul_right _ hroom
      have hr := run_append_room (P := P) w t ty e i ht hi g n cap C hb a m c news hl hc h1 hroom hfit
      refine ⟨g, cap, _, _, hr, .inl rfl, by simp, hroom, Nat.le_refl _, hcm, setRow_heap w g C _ e _ hb, ?_, ?_, ⟨rfl, rfl, rfl, by simp, fun k _ hk => setRow_other w g k _ (fun e => hk (by simp [e]))⟩⟩
      · simp only [List.size_toArray, List.length_append, List.length_take, List.length_drop, Array.length_toList]
        omega
      · have : (n + m) * i.size = (C.toList.take (n * i.size) ++ news).length := by rw [List.length_append, hlx, hl, Nat.add_mul]
        rw [this]
        exact List.take_left
    · have holds : ∀ j u, (C.toList.take (n * i.size))[j]? = some u → w.cell? ((⟨g, 0, none⟩ : Addr).add j) = some u := by
        intro j u hu
        rw [Addr.add_lit, Nat.zero_add]
        refine hb.cell ?_
        rw [List.getElem?_take] at hu
        split at hu
        · simpa using hu
        · cases hu
      have hr := run_append_grow (P := P) w t ty e i z ht hi hz ⟨g, 0, none⟩ n cap (C.toList.take (n * i.size)) hlx holds a m c news hl hc (by omega) (by simp only [maxLen] at h63; omega) (growslice_fits (by omega) hbytes)
      have hge := grownCap_ge w (n + m) cap e
      refine ⟨w.heap.size, _, _, _, hr, .inr rfl, by simp, hge, by omega, grownCap_le_maxLen _ _ _ _ h63, heap_alloc_new w.drew _, ?_, ?_, ⟨rfl, rfl, rfl, by simp, fun k hk _ => Below.heap_alloc w.drew _ k hk⟩⟩
      · simp only [Array.size_append, List.size_toArray, size_zeroCells, hzs, hlx, hl, ← Nat.add_mul]
        congr 1; omega
      · have : (n + m) * i.size = (C.toList.take (n * i.size) ++ news).length := by rw [List.length_append, hlx, hl, Nat.add_mul]
        simp only [Array.toList_append]
        rw [this]
        exact List.take_left

variable {α : Type} {d : Kd α}
theorem Elems.append {Ss Sy : List (List Nat)} {C D E : List Value} {xs ys : List α} (hx : Elems d w Ss C xs) (hy : Elems d w Sy D ys)
    (hC : xs.length * d.sz ≤ C.length) (hE : E.take ((xs.length + ys.length) * d.sz) = C.take (xs.length * d.sz) ++ D) (hD : D.length = ys.length * d.sz) : Elems d w (Ss ++ Sy) E (xs ++ ys) := by
  have hlen : (C.take (xs.length * d.sz)).length = xs.length * d.sz := by rw [List.length_take]; omega
  have cut : ∀ i, i < xs.length + ys.length → (E.drop (i * d.sz)).take d.sz = ((C.take (xs.length * d.sz) ++ D).drop (i * d.sz)).take d.sz := by
    intro i hi
    rw [← hE, List.drop_take, List.take_take]
    congr 1
    have h2 : (i + 1) * d.sz ≤ (xs.length + ys.length) * d.sz := Nat.mul_le_mul_right _ hi
    rw [Nat.add_mul, Nat.one_mul] at h2
    omega
  refine ⟨by rw [List.length_append, List.length_append, hx.1, hy.1], fun i x hi => ?_⟩
  have hlt : i < xs.length + ys.length := by rw [← List.length_append]; exact (List.getElem?_eq_some_iff.1 hi).1
  rw [cut i hlt]
  rcases Nat.lt_or_ge i xs.length with h | h
  · rw [List.getElem?_append_left h] at hi
    obtain ⟨Si, hSi, hr⟩ := hx.2 i x hi
    refine ⟨Si, by rw [List.getElem?_append_left (by rw [hx.1]; exact h)]; exact hSi, ?_⟩
    have h2 : (i + 1) * d.sz ≤ xs.length * d.sz := Nat.mul_le_mul_right _ h
    rw [Nat.add_mul, Nat.one_mul] at h2
    rw [List.drop_append_of_le_length (by omega), List.take_append_of_le_length (by rw [List.length_drop]; omega), List.drop_take, List.take_take, Nat.min_eq_left (by omega)]
    exact hr
  · rw [List.getElem?_append_right h] at hi
    obtain ⟨Si, hSi, hr⟩ := hy.2 _ x hi
    refine ⟨Si, by rw [List.getElem?_append_right (by rw [hx.1]; exact h), hx.1]; exact hSi, ?_⟩
    have hs : i * d.sz = xs.length * d.sz + (i - xs.length) * d.sz := by rw [← Nat.add_mul]; congr 1; omega
    rw [hs, ← List.drop_drop]
    rw [show (C.take (xs.length * d.sz) ++ D).drop (xs.length * d.sz) = D from by exact List.drop_left' hlen]
    exact hr

theorem run_append_sl {S : List Nat} {v : Value} {xs ys : List α} (he : EI P t e d.sz bytes) (h : SlR d e w S v xs) (x : Value) (news : List Value) (Sy : List (List Nat))
    (hy : Elems d w Sy news ys) (hl : news.length = ys.length * d.sz) (h1 : ∀ u ∈ news, u.oneCell' = true) (hx : Src w x ys.length news) (hdis : ∀ k ∈ Sy.flatten, k ∉ S)
    (h63 : xs.length + ys.length ≤ maxLen) (hb : (xs.length + ys.length) * bytes ≤ 140737488355328) :
    ∃ v' w' S', (Builtin.append_ #[t, t] ty #[v, x]).run P w = .ok v' w' ∧ SlR d e w' S' v' (xs ++ ys) ∧ Ext S w w' ∧
      (∀ k ∈ S', k ∈ S ∨ k = w.heap.size ∨ k ∈ Sy.flatten) ∧ (S.Nodup → Sy.flatten.Nodup → S'.Nodup) := by
  rcases h with ⟨A, rfl, rfl, rfl⟩ | ⟨g, cap, C, Ss, rfl, h0, h1', h2, hbk, hC, hn, rfl, hE⟩
  · simp only [List.length_nil, Nat.zero_add, List.nil_append] at *
    rcases run_append_bare (ty := ty) he A x ys.length news hl hx h63 hb with ⟨hm, hr⟩ | ⟨hm, c, C, hr, hc1, hc2, hC, ht⟩
    · have : ys = [] := List.eq_nil_of_length_eq_zero hm
      subst this
      exact ⟨_, w, [], hr, .inl ⟨A, rfl, rfl, rfl⟩, Ext.refl _ _, by simp, by simp⟩
    · refine ⟨_, _, w.heap.size :: Sy.flatten, hr, .inr ⟨w.heap.size, c, C, Sy, rfl, by omega, hc1, hc2, heap_alloc_new w.drew _, hC, fun hk => by have := hy.lt _ hk; omega, rfl, ?_⟩, ((Ext.refl _ w).drew).alloc _, ?_, ?_⟩
      · have hm' : Elems d (w.drew.alloc (.cells C e)) Sy news ys := hy.move fun k hk => Below.heap_alloc w.drew _ k (hy.lt k hk)
        have := Elems.append (d := d) (xs := []) (Ss := []) (C := []) (E := C.toList) ⟨rfl, fun i x hx => by simp at hx⟩ hm' (by simp) (by simpa using ht) hl
        simpa using this
      · intro k hk
        rcases List.mem_cons.1 hk with rfl | hk
        · exact .inr (.inl rfl)
        · exact .inr (.inr hk)
      · intro _ hn
        exact List.nodup_cons.2 ⟨fun hk => by have := hy.lt _ hk; omega, hn⟩
  · have hdg : g ∉ Sy.flatten := fun hk => hdis g hk (by simp)
    obtain ⟨g', cap', C', w', hr, hg', hsz, hc1, hc2, hc3, hb', hC', htk, hx'⟩ := run_append_here (ty := ty) he g xs.length cap C hbk h1' h2 hC x ys.length news hl hx h1 h63 hb
    have hlt := hE.lt
    have hE' : Elems d w' Ss C.toList xs := hE.move fun k hk => hx'.block k (hlt k hk) (by simp; rintro rfl; exact hn hk)
    have hy' : Elems d w' Sy news ys := hy.move fun k hk => hx'.block k (hy.lt k hk) (by simp; rintro rfl; exact hdg hk)
    have hng : g' ∉ (Ss ++ Sy).flatten := by
      rw [List.flatten_append]
      intro hk
      rcases hg' with rfl | rfl
      · rcases List.mem_append.1 hk with hk | hk
        · exact hn hk
        · exact hdg hk
      · rcases List.mem_append.1 hk with hk | hk
        · have := hlt _ hk; omega
        · have := hy.lt _ hk; omega
    have hCl : xs.length * d.sz ≤ C.toList.length := by
      have : C.toList.length = cap * d.sz := by rw [Array.length_toList, hC]
      rw [this]; exact Nat.mul_le_mul_right _ h1'
    refine ⟨_, w', g' :: (Ss ++ Sy).flatten, hr, .inr ⟨g', cap', C', Ss ++ Sy, ?_, by omega, ?_, hc3, hb', hC', hng, rfl, ?_⟩, hx'.mono (by simp), ?_, ?_⟩
    · rw [List.length_append]
    · rw [List.length_append]; exact hc1
    · exact Elems.append hE' hy' hCl htk hl
    · intro k hk
      rcases List.mem_cons.1 hk with rfl | hk
      · rcases hg' with rfl | rfl
        · exact .inl (by simp)
        · exact .inr (.inl rfl)
      · rw [List.flatten_append] at hk
        rcases List.mem_append.1 hk with hk | hk
        · exact .inl (by simp [hk])
        · exact .inr (.inr hk)
    · intro hS hSy
      refine List.nodup_cons.2 ⟨hng, ?_⟩
      rw [List.flatten_append]
      refine List.nodup_append.2 ⟨(List.nodup_cons.1 hS).2, hSy, ?_⟩
      intro a ha b hb' hab
      subst hab
      exact hdis a hb' (by simp [ha])

theorem wpList_append_sl {ops : Array Oper} {rest : List Oper} {o : Oper} {a : Act} {Q : Exit → Act → World → Prop} (hgd : o.guard = none) (s x : Operand) (t : TypeId)
    (ho : o.op = .call { callee := .builtin .append, args := #[s, x], argTypes := #[t, t] })
    {S : List Nat} {v xv : Value} {xs ys : List α} (he : EI P t e d.sz bytes) (hs : a.eval s = v) (h : SlR d e w S v xs) (hxv : a.eval x = xv) (news : List Value) (Sy : List (List Nat))
    (hy : Elems d w Sy news ys) (hl : news.length = ys.length * d.sz) (h1 : ∀ u ∈ news, u.oneCell' = true) (hx : Src w xv ys.length news) (hdis : ∀ k ∈ Sy.flatten, k ∉ S)
    (h63 : xs.length + ys.length ≤ maxLen) (hb : (xs.length + ys.length) * bytes ≤ 140737488355328)
    (hk : ∀ v' w' S', SlR d e w' S' v' (xs ++ ys) → Ext S w w' → (∀ k ∈ S', k ∈ S ∨ k = w.heap.size ∨ k ∈ Sy.flatten) → (S.Nodup → Sy.flatten.Nodup → S'.Nodup) → wpList P ops Q rest (a.put o.dst v') w') : wpList P ops Q (o :: rest) a w := by
  refine wpList_plain hgd fun _ hK => ?_
  obtain ⟨v', w', S', hr, h2, h3, h4, h5⟩ := run_append_sl (ty := o.type) he h xv news Sy hy hl h1 hx hdis h63 hb
  unfold Oper.wp execOp
  simp only [ho, resolve, invoke, builtin, Sem.run_bind, Sem.run_pure, Result.andThen_ok, List.map_toArray, List.map_cons, List.map_nil, hs, hxv, hr]
  exact hK _ _ (hk v' w' S' h2 h3 h4 h5)
end
theorem Src.one {w : World} {x : Value} {T : TypeId} (h1 : x.oneCell' = true) : Src (w.alloc (.cells #[x] T)) (.slice (some ⟨w.heap.size, 0, none⟩) 1 1) 1 [x] := by
  refine ⟨_, _, rfl, fun _ => ⟨_, rfl, fun j u hu => ?_⟩⟩
  rcases j with _ | j
  · simp at hu; subst hu
    exact (Blk.new w #[x] T).cell rfl
  · simp at hu
theorem Src.blk {w : World} {cs : List Value} {T : TypeId} (n : Nat) : Src (w.alloc (.cells cs.toArray T)) (.slice (some ⟨w.heap.size, 0, none⟩) n n) n cs := by
  refine ⟨_, _, rfl, fun _ => ⟨_, rfl, fun j u hu => ?_⟩⟩
  rw [Addr.add_lit, Nat.zero_add]
  exact (Blk.new w cs.toArray T).cell (by simpa using hu)
theorem one_one {x : Value} (h1 : x.oneCell' = true) : ∀ u ∈ [x], u.oneCell' = true := by intro u hu; rw [List.mem_singleton.1 hu]; exact h1
theorem le_maxLen {n : Nat} (h : n ≤ 1073741824) : n + 1 ≤ maxLen := by simp only [maxLen]; omega
theorem le_bytes {n b : Nat} (h : n ≤ 1073741824) (hb : b ≤ 100) : (n + 1) * b ≤ 140737488355328 := Nat.le_trans (Nat.mul_le_mul (Nat.add_le_add_right h 1) hb) (by decide)
theorem elems_one {α : Type} {enc : α → Value} {h1 : ∀ x, (enc x).oneCell' = true} {w : World} {x : α} : Elems (kSc enc h1) w [[]] [enc x] [x] := elems_sc.2 ⟨rfl, rfl⟩
end Go.Proofs.Ytkmgbejhbkbaoaa

/- Contracts of library functions that the kit proves for every program, stated with the numbers of this translation. -/
namespace Go.Proofs
set_option linter.unusedSimpArgs false
set_option linter.unusedVariables false
open Go.Shelf
def Try.lays128_ren : Go.Shelf.Ren := ⟨fun | 128 => 84 | n => n, fun | 51 => 141 | 3 => 3 | 4 => 4 | 46 => 115 | 5 => 5 | 9 => 9 | n => n, fun | n => n⟩
theorem Try.lays128 : Go.Proofs.Lays.n128 Try.prog Try.lays128_ren := {
  mixed := by kernel_rfl
  f128 := Try.func84.trans (congrArg some (by kernel_rfl))
  t3 := Try.underlying3
  a3 := Try.isAgg3
  z3 := Try.sizeOf3
  v3 := Try.zeroValue3
  t4 := Try.underlying4
  a4 := Try.isAgg4
  z4 := Try.sizeOf4
  v4 := Try.zeroValue4
  t5 := Try.underlying5
  a5 := Try.isAgg5
  z5 := Try.sizeOf5
  v5 := Try.zeroValue5
  t9 := Try.underlying9
  a9 := Try.isAgg9
  z9 := Try.sizeOf9
  v9 := Try.zeroValue9
  t46 := Try.underlying115
  a46 := Try.isAgg115
  z46 := Try.sizeOf115
  v46 := Try.zeroValue115
  t51 := Try.underlying141
  a51 := Try.isAgg141
  z51 := Try.sizeOf141
  v51 := Try.zeroValue141 }
theorem Try.bits_Len32 (x : Int) (w : World) (h0 : 0 ≤ x) (h1 : x ≤ 4294967295) :
    Calls Try.prog 84 #[.int .u32 x] w fun e w' => e = .returned (.int .i64 (Lib.bitLen x.toNat)) ∧ w' = w := Any.bits_Len32 Try.lays128 x w h0 h1
def Try.lays125_ren : Go.Shelf.Ren := ⟨fun | 125 => 63 | 128 => 84 | 129 => 85 | n => n, fun | 46 => 115 | 3 => 3 | 51 => 141 | 53 => 143 | 4 => 4 | 5 => 5 | 9 => 9 | n => n, fun | n => n⟩
theorem Try.lays125 : Go.Proofs.Lays.n125 Try.prog Try.lays125_ren := {
  mixed := by kernel_rfl
  f125 := Try.func63.trans (congrArg some (by kernel_rfl))
  f128 := Try.func84.trans (congrArg some (by kernel_rfl))
  f129 := Try.func85.trans (congrArg some (by kernel_rfl))
  t3 := Try.underlying3
  a3 := Try.isAgg3
  z3 := Try.sizeOf3
  v3 := Try.zeroValue3
  t4 := Try.underlying4
  a4 := Try.isAgg4
  z4 := Try.sizeOf4
  v4 := Try.zeroValue4
  t5 := Try.underlying5
  a5 := Try.isAgg5
  z5 := Try.sizeOf5
  v5 := Try.zeroValue5
  t9 := Try.underlying9
  a9 := Try.isAgg9
  z9 := Try.sizeOf9
  v9 := Try.zeroValue9
  t46 := Try.underlying115
  a46 := Try.isAgg115
  z46 := Try.sizeOf115
  v46 := Try.zeroValue115
  t51 := Try.underlying141
  a51 := Try.isAgg141
  z51 := Try.sizeOf141
  v51 := Try.zeroValue141
  t53 := Try.underlying143
  a53 := Try.isAgg143
  z53 := Try.sizeOf143
  v53 := Try.zeroValue143 }
theorem Try.bits_Len (x : Int) (w : World) (h0 : 0 ≤ x) (h1 : x ≤ 18446744073709551615) :
    Calls Try.prog 63 #[.int .u64 x] w fun e w' => e = .returned (.int .i64 (Lib.bitLen x.toNat)) ∧ w' = w := Any.bits_Len Try.lays125 x w h0 h1
def Try.lays129_ren : Go.Shelf.Ren := ⟨fun | 129 => 85 | n => n, fun | 53 => 143 | 3 => 3 | 4 => 4 | 46 => 115 | 5 => 5 | 9 => 9 | n => n, fun | n => n⟩
theorem Try.lays129 : Go.Proofs.Lays.n129 Try.prog Try.lays129_ren := {
  mixed := by kernel_rfl
  f129 := Try.func85.trans (congrArg some (by kernel_rfl))
  t3 := Try.underlying3
  a3 := Try.isAgg3
  z3 := Try.sizeOf3
  v3 := Try.zeroValue3
  t4 := Try.underlying4
  a4 := Try.isAgg4
  z4 := Try.sizeOf4
  v4 := Try.zeroValue4
  t5 := Try.underlying5
  a5 := Try.isAgg5
  z5 := Try.sizeOf5
  v5 := Try.zeroValue5
  t9 := Try.underlying9
  a9 := Try.isAgg9
  z9 := Try.sizeOf9
  v9 := Try.zeroValue9
  t46 := Try.underlying115
  a46 := Try.isAgg115
  z46 := Try.sizeOf115
  v46 := Try.zeroValue115
  t53 := Try.underlying143
  a53 := Try.isAgg143
  z53 := Try.sizeOf143
  v53 := Try.zeroValue143 }
theorem Try.bits_Len64 (x : Int) (w : World) (h0 : 0 ≤ x) (h1 : x ≤ 18446744073709551615) :
    Calls Try.prog 85 #[.int .u64 x] w fun e w' => e = .returned (.int .i64 (Lib.bitLen x.toNat)) ∧ w' = w := Any.bits_Len64 Try.lays129 x w h0 h1
def Try.lays189_ren : Go.Shelf.Ren := ⟨fun | 189 => 66 | 125 => 63 | 257 => 86 | 128 => 84 | 129 => 85 | 294 => 95 | 295 => 96 | 296 => 97 | 297 => 98 | 298 => 99 | 299 => 100 | 216 => 101 | 300 => 102 | 301 => 103 | 328 => 105 | 329 => 91 | 330 => 92 | 331 => 106 | 332 => 107 | 215 => 108 | 343 => 109 | n => n, fun | 28 => 22 | 3 => 3 | 46 => 115 | 0 => 0 | 51 => 141 | 53 => 143 | 4 => 4 | 183 => 135 | 182 => 134 | 131 => 79 | 5 => 5 | 9 => 9 | 218 => 147 | 222 => 151 | 228 => 156 | 229 => 120 | n => n, fun | n => n⟩
theorem Try.lays189 : Go.Proofs.Lays.n189 Try.prog Try.lays189_ren := {
  mixed := by kernel_rfl
  f125 := Try.func63.trans (congrArg some (by kernel_rfl))
  f128 := Try.func84.trans (congrArg some (by kernel_rfl))
  f129 := Try.func85.trans (congrArg some (by kernel_rfl))
  f189 := Try.func66.trans (congrArg some (by kernel_rfl))
  f215 := Try.func108.trans (congrArg some (by kernel_rfl))
  f216 := Try.func101.trans (congrArg some (by kernel_rfl))
  f257 := Try.func86.trans (congrArg some (by kernel_rfl))
  f294 := Try.func95.trans (congrArg some (by kernel_rfl))
  f295 := Try.func96.trans (congrArg some (by kernel_rfl))
  f296 := Try.func97.trans (congrArg some (by kernel_rfl))
  f297 := Try.func98.trans (congrArg some (by kernel_rfl))
  f298 := Try.func99.trans (congrArg some (by kernel_rfl))
  f299 := Try.func100.trans (congrArg some (by kernel_rfl))
  f300 := Try.func102.trans (congrArg some (by kernel_rfl))
  f301 := Try.func103.trans (congrArg some (by kernel_rfl))
  f328 := Try.func105.trans (congrArg some (by kernel_rfl))
  f329 := Try.func91.trans (congrArg some (by kernel_rfl))
  f330 := Try.func92.trans (congrArg some (by kernel_rfl))
  f331 := Try.func106.trans (congrArg some (by kernel_rfl))
  f332 := Try.func107.trans (congrArg some (by kernel_rfl))
  f343 := Try.func109.trans (congrArg some (by kernel_rfl))
  t0 := Try.underlying0
  a0 := Try.isAgg0
  z0 := Try.sizeOf0
  v0 := Try.zeroValue0
  t3 := Try.underlying3
  a3 := Try.isAgg3
  z3 := Try.sizeOf3
  v3 := Try.zeroValue3
  t4 := Try.underlying4
  a4 := Try.isAgg4
  z4 := Try.sizeOf4
  v4 := Try.zeroValue4
  t5 := Try.underlying5
  a5 := Try.isAgg5
  z5 := Try.sizeOf5
  v5 := Try.zeroValue5
  t9 := Try.underlying9
  a9 := Try.isAgg9
  z9 := Try.sizeOf9
  v9 := Try.zeroValue9
  t28 := Try.underlying22
  a28 := Try.isAgg22
  z28 := Try.sizeOf22
  v28 := Try.zeroValue22
  t46 := Try.underlying115
  a46 := Try.isAgg115
  z46 := Try.sizeOf115
  v46 := Try.zeroValue115
  t51 := Try.underlying141
  a51 := Try.isAgg141
  z51 := Try.sizeOf141
  v51 := Try.zeroValue141
  t53 := Try.underlying143
  a53 := Try.isAgg143
  z53 := Try.sizeOf143
  v53 := Try.zeroValue143
  t131 := Try.underlying79
  a131 := Try.isAgg79
  z131 := Try.sizeOf79
  v131 := Try.zeroValue79
  t182 := Try.underlying134
  a182 := Try.isAgg134
  z182 := Try.sizeOf134
  v182 := Try.zeroValue134
  t183 := Try.underlying135
  a183 := Try.isAgg135
  z183 := Try.sizeOf135
  v183 := Try.zeroValue135
  t218 := Try.underlying147
  a218 := Try.isAgg147
  z218 := Try.sizeOf147
  v218 := Try.zeroValue147
  t222 := Try.underlying151
  a222 := Try.isAgg151
  z222 := Try.sizeOf151
  v222 := Try.zeroValue151
  t228 := Try.underlying156
  a228 := Try.isAgg156
  z228 := Try.sizeOf156
  v228 := Try.zeroValue156
  t229 := Try.underlying120
  a229 := Try.isAgg120
  z229 := Try.sizeOf120
  v229 := Try.zeroValue120 }
open Go.Sort Go.RowKit in
theorem Try.slices_Sort_int (blk off cap : Nat) (zs : List Int) (w : World) (hH : Holds (Value.int .i64) w blk off zs.toArray) (hblk : blk < w.heap.size) (hsz : zs.length < 4611686018427387904) :
    Calls Try.prog 66 #[.slice (some ⟨blk, off, none⟩) zs.length cap] w fun e w' =>
      e = .returned (.tuple #[]) ∧ ∃ n os, w' = grow (putRow (Value.int .i64) (Sort.ahead w n) blk off (zs.mergeSort fun x y => decide (x ≤ y)).toArray) os := Any.slices_Sort_int Try.lays189 blk off cap zs w hH hblk hsz
def Try.lays108_ren : Go.Shelf.Ren := ⟨fun | 108 => 89 | n => n, fun | 28 => 22 | 3 => 3 | 0 => 0 | 4 => 4 | n => n, fun | n => n⟩
theorem Try.lays108 : Go.Proofs.Lays.n108 Try.prog Try.lays108_ren := {
  mixed := by kernel_rfl
  f108 := Try.func89.trans (congrArg some (by kernel_rfl))
  t0 := Try.underlying0
  a0 := Try.isAgg0
  z0 := Try.sizeOf0
  v0 := Try.zeroValue0
  t3 := Try.underlying3
  a3 := Try.isAgg3
  z3 := Try.sizeOf3
  v3 := Try.zeroValue3
  t4 := Try.underlying4
  a4 := Try.isAgg4
  z4 := Try.sizeOf4
  v4 := Try.zeroValue4
  t28 := Try.underlying22
  a28 := Try.isAgg22
  z28 := Try.sizeOf22
  v28 := Try.zeroValue22 }
open Go.Lib in
theorem Try.slices_Index_int (b off n c : Nat) (zs : List Int) (x : Int) (w : World) (hz : n ≤ zs.length) (hbig : n ≤ 9223372036854775807) (hc : ∀ j, j < zs.length → w.cell? ⟨b, off + j, none⟩ = some (.int .i64 (zs.getD j 0))) :
    Calls Try.prog 89 #[.slice (some ⟨b, off, none⟩) n c, .int .i64 x] w fun e w' => e = .returned (.int .i64 (Lib.idxOf (zs.take n) x)) ∧ w' = w := Any.slices_Index_int Try.lays108 b off n c zs x w hz hbig hc
open Go.Lib in
theorem Try.slices_Index_int_empty (a : Option Addr) (c : Nat) (x : Int) (w : World) :
    Calls Try.prog 89 #[.slice a 0 c, .int .i64 x] w fun e w' => e = .returned (.int .i64 (Lib.idxOf [] x)) ∧ w' = w := Any.slices_Index_int_empty Try.lays108 a c x w
def Try.lays107_ren : Go.Shelf.Ren := ⟨fun | 107 => 73 | 108 => 89 | n => n, fun | 28 => 22 | 3 => 3 | 4 => 4 | 0 => 0 | n => n, fun | n => n⟩
theorem Try.lays107 : Go.Proofs.Lays.n107 Try.prog Try.lays107_ren := {
  mixed := by kernel_rfl
  f107 := Try.func73.trans (congrArg some (by kernel_rfl))
  f108 := Try.func89.trans (congrArg some (by kernel_rfl))
  t0 := Try.underlying0
  a0 := Try.isAgg0
  z0 := Try.sizeOf0
  v0 := Try.zeroValue0
  t3 := Try.underlying3
  a3 := Try.isAgg3
  z3 := Try.sizeOf3
  v3 := Try.zeroValue3
  t4 := Try.underlying4
  a4 := Try.isAgg4
  z4 := Try.sizeOf4
  v4 := Try.zeroValue4
  t28 := Try.underlying22
  a28 := Try.isAgg22
  z28 := Try.sizeOf22
  v28 := Try.zeroValue22 }
open Go.Lib in
theorem Try.slices_Contains_int (b off n c : Nat) (zs : List Int) (x : Int) (w : World) (hz : n ≤ zs.length) (hbig : n ≤ 9223372036854775807) (hc : ∀ j, j < zs.length → w.cell? ⟨b, off + j, none⟩ = some (.int .i64 (zs.getD j 0))) :
    Calls Try.prog 73 #[.slice (some ⟨b, off, none⟩) n c, .int .i64 x] w fun e w' => e = .returned (.bool ((zs.take n).contains x)) ∧ w' = w := Any.slices_Contains_int Try.lays107 b off n c zs x w hz hbig hc
open Go.Lib in
theorem Try.slices_Contains_int_empty (a : Option Addr) (c : Nat) (x : Int) (w : World) :
    Calls Try.prog 73 #[.slice a 0 c, .int .i64 x] w fun e w' => e = .returned (.bool false) ∧ w' = w := Any.slices_Contains_int_empty Try.lays107 a c x w
def Try.lays112_ren : Go.Shelf.Ren := ⟨fun | 112 => 65 | n => n, fun | 28 => 22 | 3 => 3 | 4 => 4 | 0 => 0 | n => n, fun | n => n⟩
theorem Try.lays112 : Go.Proofs.Lays.n112 Try.prog Try.lays112_ren := {
  mixed := by kernel_rfl
  f112 := Try.func65.trans (congrArg some (by kernel_rfl))
  t0 := Try.underlying0
  a0 := Try.isAgg0
  z0 := Try.sizeOf0
  v0 := Try.zeroValue0
  t3 := Try.underlying3
  a3 := Try.isAgg3
  z3 := Try.sizeOf3
  v3 := Try.zeroValue3
  t4 := Try.underlying4
  a4 := Try.isAgg4
  z4 := Try.sizeOf4
  v4 := Try.zeroValue4
  t28 := Try.underlying22
  a28 := Try.isAgg22
  z28 := Try.sizeOf22
  v28 := Try.zeroValue22 }
open Go.RowKit Go.Lib Go.Sort in
theorem Try.slices_Reverse_int_arr (blk off cap : Nat) (d : Array Int) (w : World) (hH : Holds encI w blk off d) (hsz : d.size ≤ 9223372036854775807) :
    Calls Try.prog 65 #[.slice (some ⟨blk, off, none⟩) d.size cap] w fun e w' => e = .returned (.tuple #[]) ∧ ∃ n, w' = putRow encI (Sort.ahead w n) blk off d.reverse := Any.slices_Reverse_int_arr Try.lays112 blk off cap d w hH hsz
open Go.RowKit Go.Lib Go.Sort in
theorem Try.slices_Reverse_int (blk off cap : Nat) (zs : List Int) (w : World) (hH : Holds (Value.int .i64) w blk off zs.toArray) (hsz : zs.length ≤ 9223372036854775807) :
    Calls Try.prog 65 #[.slice (some ⟨blk, off, none⟩) zs.length cap] w fun e w' => e = .returned (.tuple #[]) ∧ ∃ n, w' = putRow (Value.int .i64) (Sort.ahead w n) blk off zs.reverse.toArray := Any.slices_Reverse_int Try.lays112 blk off cap zs w hH hsz
open Go.RowKit Go.Lib Go.Sort in
theorem Try.slices_Reverse_int_empty (a : Option Addr) (cap : Nat) (w : World) :
    Calls Try.prog 65 #[.slice a 0 cap] w fun e w' => e = .returned (.tuple #[]) ∧ w' = w := Any.slices_Reverse_int_empty Try.lays112 a cap w
def Try.laysNm215_ren : Go.Shelf.Ren := ⟨fun | 15 => 61 | n => n, fun | 22 => 22 | 3 => 3 | 4 => 4 | n => n, fun | n => n⟩
theorem Try.laysNm215 : Go.Proofs.Lays2.n15 Try.prog Try.laysNm215_ren := {
  mixed := by kernel_rfl
  f15 := Try.func61.trans (congrArg some (by kernel_rfl))
  t3 := Try.underlying3
  a3 := Try.isAgg3
  z3 := Try.sizeOf3
  v3 := Try.zeroValue3
  t4 := Try.underlying4
  a4 := Try.isAgg4
  z4 := Try.sizeOf4
  v4 := Try.zeroValue4
  t22 := Try.underlying22
  a22 := Try.isAgg22
  z22 := Try.sizeOf22
  v22 := Try.zeroValue22
  i3 := by kernel_rfl }
open Go.RowKit Go.Lib in
theorem Try.slices_Clone_int (b off n c : Nat) (zs : List Int) (w : World) (hz : n ≤ zs.length) (hbig : n * 8 ≤ 140737488355328) (hc : ∀ j, j < zs.length → w.cell? ⟨b, off + j, none⟩ = some (.int .i64 (zs.getD j 0))) :
    Calls Try.prog 61 #[.slice (some ⟨b, off, none⟩) n c] w fun e w' => ∃ v', e = .returned v' ∧ w'.ownsRow w.heap.size 3 1 v' n ((zs.take n).map (Value.int .i64)) ∧ v' ≠ .slice none 0 0 ∧ Below w.heap.size w w' := Any.slices_Clone_int Try.laysNm215 b off n c zs w hz hbig hc
open Go.RowKit Go.Lib in
theorem Try.slices_Clone_int_nil (n c : Nat) (w : World) :
    Calls Try.prog 61 #[.slice none n c] w fun e w' => e = .returned (.slice none 0 0) ∧ w' = w := Any.slices_Clone_int_nil Try.laysNm215 n c w
open Go.RowKit Go.Lib in
theorem Try.slices_Clone_int_zero (a : Addr) (c : Nat) (w : World) :
    Calls Try.prog 61 #[.slice (some a) 0 c] w fun e w' => ∃ v', e = .returned v' ∧ w'.ownsRow w.heap.size 3 1 v' 0 [] ∧ v' ≠ .slice none 0 0 ∧ Below w.heap.size w w' := Any.slices_Clone_int_zero Try.laysNm215 a c w
def Try.laysNm220_ren : Go.Shelf.Ren := ⟨fun | 20 => 67 | n => n, fun | 22 => 22 | 3 => 3 | 4 => 4 | 0 => 0 | n => n, fun | n => n⟩
theorem Try.laysNm220 : Go.Proofs.Lays2.n20 Try.prog Try.laysNm220_ren := {
  mixed := by kernel_rfl
  f20 := Try.func67.trans (congrArg some (by kernel_rfl))
  t0 := Try.underlying0
  a0 := Try.isAgg0
  z0 := Try.sizeOf0
  v0 := Try.zeroValue0
  t3 := Try.underlying3
  a3 := Try.isAgg3
  z3 := Try.sizeOf3
  v3 := Try.zeroValue3
  t4 := Try.underlying4
  a4 := Try.isAgg4
  z4 := Try.sizeOf4
  v4 := Try.zeroValue4
  t22 := Try.underlying22
  a22 := Try.isAgg22
  z22 := Try.sizeOf22
  v22 := Try.zeroValue22
  i3 := by kernel_rfl }
open Go.RowKit Go.Lib Go.Sort in
theorem Try.slices_Compact_int_arr (blk off cap : Nat) (d : Array Int) (w : World) (hH : Holds encI w blk off d) (hsz : d.size ≤ 9223372036854775807) (hcap : d.size ≤ cap) :
    Calls Try.prog 67 #[.slice (some ⟨blk, off, none⟩) d.size cap] w fun e w' => e = .returned (.slice (some ⟨blk, off, none⟩) (compactUpTo d d.size).length cap) ∧ ∃ q, w' = putRow encI (Sort.ahead w q) blk off (compactUpTo d d.size ++ List.replicate (d.size - (compactUpTo d d.size).length) 0).toArray := Any.slices_Compact_int_arr Try.laysNm220 blk off cap d w hH hsz hcap
open Go.RowKit Go.Lib Go.Sort in
theorem Try.slices_Compact_int (blk off cap : Nat) (zs : List Int) (w : World) (hH : Holds (Value.int .i64) w blk off zs.toArray) (hsz : zs.length ≤ 9223372036854775807) (hcap : zs.length ≤ cap) :
    Calls Try.prog 67 #[.slice (some ⟨blk, off, none⟩) zs.length cap] w fun e w' => e = .returned (.slice (some ⟨blk, off, none⟩) (Lib.compact zs).length cap) ∧ ∃ q, w' = putRow (Value.int .i64) (Sort.ahead w q) blk off (Lib.compact zs ++ List.replicate (zs.length - (Lib.compact zs).length) 0).toArray := Any.slices_Compact_int Try.laysNm220 blk off cap zs w hH hsz hcap
open Go.RowKit Go.Lib Go.Sort in
theorem Try.slices_Compact_int_empty (a : Option Addr) (cap : Nat) (w : World) :
    Calls Try.prog 67 #[.slice a 0 cap] w fun e w' => e = .returned (.slice a 0 cap) ∧ w' = w := Any.slices_Compact_int_empty Try.laysNm220 a cap w
open Go.RowKit Go.Lib Go.Sort in
theorem Try.slices_Reverse_int_cells (b off n c : Nat) (zs : List Int) (w : World) (hz : n ≤ zs.length) (hbig : n ≤ 9223372036854775807) (hc : ∀ j, j < zs.length → w.cell? ⟨b, off + j, none⟩ = some (.int .i64 (zs.getD j 0))) (hf : ∀ j, j < n → w.frozen? ⟨b, off + j, none⟩ = false) :
    Calls Try.prog 65 #[.slice (some ⟨b, off, none⟩) n c] w fun e w' => e = .returned (.tuple #[]) ∧ ∃ q, w' = (w.drewN q).setCells b off ((zs.take n).reverse.map (Value.int .i64)) := Any.slices_Reverse_int_cells Try.lays112 b off n c zs w hz hbig hc hf
open Go.RowKit Go.Lib Go.Sort in
theorem Try.slices_Compact_int_cells (b off n c : Nat) (zs : List Int) (w : World) (hz : n ≤ zs.length) (hbig : n ≤ 9223372036854775807) (hcap : n ≤ c) (hc : ∀ j, j < zs.length → w.cell? ⟨b, off + j, none⟩ = some (.int .i64 (zs.getD j 0))) (hf : ∀ j, j < n → w.frozen? ⟨b, off + j, none⟩ = false) :
    Calls Try.prog 67 #[.slice (some ⟨b, off, none⟩) n c] w fun e w' => e = .returned (.slice (some ⟨b, off, none⟩) (Lib.compact (zs.take n)).length c) ∧ ∃ q, w' = (w.drewN q).setCells b off ((Lib.compact (zs.take n) ++ List.replicate (n - (Lib.compact (zs.take n)).length) 0).map (Value.int .i64)) := Any.slices_Compact_int_cells Try.laysNm220 b off n c zs w hz hbig hcap hc hf
open Go.RowKit Go.Sort in
theorem Try.slices_Sort_int_none (p : Option Addr) (cap : Nat) (w : World) :
    Calls Try.prog 66 #[.slice p 0 cap] w fun e w' => e = .returned (.tuple #[]) ∧ w' = w := Any.slices_Sort_int_none Try.lays189 p cap w
end Go.Proofs

/- The library's calls on slices of numbers, in L0's words; what the translation says of slice types. -/
namespace Go.Proofs.Ytkmgbejhbkbaoaa
set_option linter.unusedSimpArgs false
set_option linter.unusedVariables false
open Go.RowKit Go.Sort

theorem Try.info3 : (Try.prog.info? 3).map (fun i => (i.zero, i.size, i.bytes)) = some (some (.int .i64 0), 1, 8) := by kernel_rfl
theorem ei_of {P : Program} {t e : TypeId} {z : Value} {sz bytes : Nat} (ht : P.underlying t = some (.slice e)) (h : (P.info? e).map (fun i => (i.zero, i.size, i.bytes)) = some (some z, sz, bytes)) (hz : z.cells.size = sz) (h0 : 0 < sz) : EI P t e sz bytes := by
  refine ⟨ht, ?_, h0⟩
  cases hi : P.info? e with
  | none => rw [hi] at h; cases h
  | some i =>
    rw [hi] at h
    simp only [Option.map_some, Option.some.injEq, Prod.mk.injEq] at h
    exact ⟨i, z, rfl, h.1, h.2.1, h.2.2, hz⟩
theorem ei_int : EI Try.prog 22 3 1 8 := ei_of Try.underlying22 Try.info3 rfl (by decide)

section
variable {w : World} {S : List Nat} {v : Value} {xs : List Int} {e : TypeId}
theorem own_slr {B n : Nat} {w' : World} (h : w'.ownsRow B e 1 v n (xs.map (Value.int .i64))) : ∃ S, SlR kInt e w' S v xs ∧ (∀ k ∈ S, B ≤ k) ∧ S.Nodup := by
  have hl : xs.length = n := by simpa using h.1
  subst hl
  rcases h.2 with ⟨rfl, h0⟩ | ⟨g, cap, cur, rfl, hb, hg, hn, hm, hs, ht⟩
  · exact ⟨[], .inl ⟨none, rfl, List.eq_nil_of_length_eq_zero h0, rfl⟩, by simp, by simp⟩
  · rcases Nat.eq_zero_or_pos cap with h0 | h0
    · subst h0
      have h0 : xs = [] := List.eq_nil_of_length_eq_zero (by omega)
      subst h0
      exact ⟨[], .inl ⟨_, rfl, rfl, rfl⟩, by simp, by simp⟩
    · exact ⟨[g], slr_sc.2 (.inr ⟨g, cap, cur, rfl, h0, hn, hm, hg, by simpa using hs, rfl, by simpa using ht⟩), by simpa using hb, by simp⟩

theorem blk_put {g n : Nat} {C : Array Value} {ts : List Int} {os : Array Obj} (hb : Blk w g e C) (hl : ts.length ≤ C.size) :
    Blk (grow (putRow (Value.int .i64) (Sort.ahead w n) g 0 ts.toArray) os) g e (putCells (Value.int .i64) 0 ts.toArray C) := heap_sortedI _ hb
theorem ext_put {g n : Nat} {d : Array Int} {os : Array Obj} : Ext [g] w (grow (putRow (Value.int .i64) (Sort.ahead w n) g 0 d) os) := by
  have h := grownBy_sortedI (w := w) (g := g) (n := n) (os := os) d
  exact ⟨h.os, h.tape, h.output, h.size, fun k hk hn => h.block k hk (by simpa using hn)⟩
/-- behind a call that has put as many numbers into the row -/
theorem slr_put {g n cap : Nat} {ts : List Int} {os : Array Obj} (h : SlR kInt e w S (.slice (some ⟨g, 0, none⟩) xs.length cap) xs) (h0 : 0 < xs.length) (hl : ts.length = xs.length) :
    SlR kInt e (grow (putRow (Value.int .i64) (Sort.ahead w n) g 0 ts.toArray) os) S (.slice (some ⟨g, 0, none⟩) xs.length cap) ts ∧ Ext S w (grow (putRow (Value.int .i64) (Sort.ahead w n) g 0 ts.toArray) os) := by
  obtain ⟨g', cap', C, hv, hp, h1, h2, hb, hC, rfl, ht⟩ := slr_own h (by rintro rfl; simp at h0)
  injection hv with e1 e2 e3
  injection e1 with e1
  injection e1 with e1
  subst e1 e3
  refine ⟨slr_sc.2 (.inr ⟨g, cap, _, by rw [hl], hp, by omega, h2, blk_put hb (by omega), by simp [putCells, hC], rfl, take_putCellsI C ts (by omega)⟩), ext_put⟩

theorem sort_calls (h : SlR kInt 3 w S v xs) (hsz : xs.length ≤ 1073741824) :
    Calls Try.prog 66 #[v] w fun e w' => e = .returned (.tuple #[]) ∧ SlR kInt 3 w' S v (xs.mergeSort fun x y => decide (x ≤ y)) ∧ Ext S w w' := by
  by_cases h0 : xs = []
  · subst h0
    obtain ⟨A, cap, rfl, _⟩ := h.shape
    refine (Try.slices_Sort_int_none A cap w).mono ?_
    rintro e w' ⟨rfl, rfl⟩
    exact ⟨rfl, by simpa using h, Ext.refl _ _⟩
  · have hp : 0 < xs.length := by cases xs; exact absurd rfl h0; simp
    obtain ⟨g, cap, C, rfl, hc0, h1, h2, hb, hC, rfl, ht⟩ := slr_own h h0
    refine (Try.slices_Sort_int g 0 cap xs w (holds_of_blockI hb ht) hb.lt (by omega)).mono ?_
    rintro e w' ⟨rfl, n, os, rfl⟩
    exact ⟨rfl, slr_put h hp (by simp)⟩

theorem compact_calls (h : SlR kInt 3 w S v xs) (hsz : xs.length ≤ 1073741824) :
    Calls Try.prog 67 #[v] w fun e w' => ∃ v', e = .returned v' ∧ SlR kInt 3 w' S v' (Lib.compact xs) ∧ Ext S w w' := by
  by_cases h0 : xs = []
  · subst h0
    obtain ⟨A, cap, rfl, _⟩ := h.shape
    refine (Try.slices_Compact_int_empty A cap w).mono ?_
    rintro e w' ⟨rfl, rfl⟩
    exact ⟨_, rfl, h, Ext.refl _ _⟩
  · have hp : 0 < xs.length := by cases xs; exact absurd rfl h0; simp
    obtain ⟨g, cap, C, rfl, hc0, h1, h2, hb, hC, rfl, ht⟩ := slr_own h h0
    refine (Try.slices_Compact_int g 0 cap xs w (holds_of_blockI hb ht) (by omega) h1).mono ?_
    rintro e w' ⟨rfl, n, rfl⟩
    have hle := Lib.compact_length_le xs
    obtain ⟨h3, h4⟩ := slr_put (n := n) (os := #[]) (ts := Lib.compact xs ++ List.replicate (xs.length - (Lib.compact xs).length) 0) h hp (by rw [List.length_append, List.length_replicate]; omega)
    rw [grow_empty] at h3 h4
    refine ⟨_, rfl, ?_, h4⟩
    obtain ⟨g', cap', C', hv, hp', h1', h2', hb', hC', hS', ht'⟩ := slr_own h3 (by intro hn; have := congrArg List.length hn; rw [List.length_append, List.length_replicate, List.length_nil] at this; omega)
    injection hv with e1 e2 e3
    injection e1 with e1
    injection e1 with e1
    subst e1 e3
    refine slr_sc.2 (.inr ⟨g, cap, C', rfl, hp', by omega, h2', hb', hC', rfl, ?_⟩)
    have := congrArg (List.take (Lib.compact xs).length) ht'
    rw [List.take_take, Nat.min_eq_left (by simp), List.map_append, List.take_left' (by simp)] at this
    exact this

theorem reverse_calls (h : SlR kInt 3 w S v xs) (hsz : xs.length ≤ 1073741824) :
    Calls Try.prog 65 #[v] w fun e w' => e = .returned (.tuple #[]) ∧ SlR kInt 3 w' S v xs.reverse ∧ Ext S w w' := by
  by_cases h0 : xs = []
  · subst h0
    obtain ⟨A, cap, rfl, _⟩ := h.shape
    refine (Try.slices_Reverse_int_empty A cap w).mono ?_
    rintro e w' ⟨rfl, rfl⟩
    exact ⟨rfl, by simpa using h, Ext.refl _ _⟩
  · have hp : 0 < xs.length := by cases xs; exact absurd rfl h0; simp
    obtain ⟨g, cap, C, rfl, hc0, h1, h2, hb, hC, rfl, ht⟩ := slr_own h h0
    refine (Try.slices_Reverse_int g 0 cap xs w (holds_of_blockI hb ht) (by omega)).mono ?_
    rintro e w' ⟨rfl, n, rfl⟩
    obtain ⟨h3, h4⟩ := slr_put (n := n) (os := #[]) (ts := xs.reverse) h hp (by simp)
    rw [grow_empty] at h3 h4
    exact ⟨rfl, h3, h4⟩

theorem contains_calls (h : SlR kInt e w S v xs) (hsz : xs.length ≤ 1073741824) (x : Int) :
    Calls Try.prog 73 #[v, .int .i64 x] w fun e w' => e = .returned (.bool (xs.contains x)) ∧ w' = w := by
  by_cases h0 : xs = []
  · subst h0
    obtain ⟨A, cap, rfl, _⟩ := h.shape
    refine (Try.slices_Contains_int_empty A cap x w).mono ?_
    rintro e w' ⟨rfl, rfl⟩
    exact ⟨by simp, rfl⟩
  · obtain ⟨g, cap, C, rfl, hc0, h1, h2, hb, hC, rfl, ht⟩ := slr_own h h0
    refine (Try.slices_Contains_int g 0 xs.length cap xs x w (Nat.le_refl _) (by omega) ?_).mono ?_
    · intro j hj
      have := (holds_of_blockI hb ht j (by simpa using hj)).1
      rw [this]
      simp [List.getD, hj]
    · rintro e w' ⟨rfl, rfl⟩
      exact ⟨by rw [List.take_length], rfl⟩

theorem clone_calls (h : SlR kInt e w S v xs) (hsz : xs.length ≤ 1073741824) :
    Calls Try.prog 61 #[v] w fun e w' => ∃ v' S', e = .returned v' ∧ SlR kInt 3 w' S' v' xs ∧ Ext [] w w' ∧ (∀ k ∈ S', w.heap.size ≤ k) ∧ S'.Nodup := by
  by_cases h0 : xs = []
  · subst h0
    obtain ⟨A, cap, rfl, _⟩ := h.shape
    cases A with
    | none =>
      refine (Try.slices_Clone_int_nil 0 cap w).mono ?_
      rintro e w' ⟨rfl, rfl⟩
      exact ⟨_, [], rfl, .inl ⟨_, rfl, rfl, rfl⟩, Ext.refl _ _, by simp, by simp⟩
    | some a =>
      refine (Try.slices_Clone_int_zero a cap w).mono ?_
      rintro e w' ⟨v', rfl, ho, _, hb⟩
      obtain ⟨S', h1, h2, h3⟩ := own_slr (xs := []) (by simpa using ho)
      exact ⟨v', S', rfl, h1, Ext.of_below hb, h2, h3⟩
  · obtain ⟨g, cap, C, rfl, hc0, h1, h2, hb, hC, rfl, ht⟩ := slr_own h h0
    refine (Try.slices_Clone_int g 0 xs.length cap xs w (Nat.le_refl _) (by omega) ?_).mono ?_
    · intro j hj
      have := (holds_of_blockI hb ht j (by simpa using hj)).1
      rw [this]
      simp [List.getD, hj]
    · rintro e w' ⟨v', rfl, ho, _, hb'⟩
      rw [List.take_length] at ho
      obtain ⟨S', h1, h2, h3⟩ := own_slr ho
      exact ⟨v', S', rfl, h1, Ext.of_below hb', h2, h3⟩
end
end Go.Proofs.Ytkmgbejhbkbaoaa

/- Functions of the program as data, and how they lie in memory. -/
namespace Go.Proofs.Ytkmgbejhbkbaoaa
set_option linter.unusedSimpArgs false
set_option linter.unusedVariables false
open Go.RowKit

structure JIn where
  src : Int
  val : Int
  deriving DecidableEq
structure JPhi where
  dst : Int
  ins : List JIn
  deriving DecidableEq
structure JIns where
  op : Int
  dst : Int
  two : Int
  args : List Int
  imm : Int
  deriving DecidableEq
structure JTerm where
  kind : Int
  args : List Int
  to : List Int
  imm : Int
  deriving DecidableEq
structure JBlock where
  phis : List JPhi
  ins : List JIns
  term : JTerm
  deriving DecidableEq
structure JFunc where
  params : Int
  blocks : List JBlock
  deriving DecidableEq
instance : Inhabited JIn := ⟨0, 0⟩
instance : Inhabited JPhi := ⟨0, []⟩
instance : Inhabited JIns := ⟨0, 0, 0, [], 0⟩
instance : Inhabited JTerm := ⟨0, [], [], 0⟩
instance : Inhabited JBlock := ⟨[], [], default⟩

theorem slice_one {d : Type} {k : Kd d} {e : TypeId} {w : World} {S : List Nat} {v : Value} {xs : List d} (h : SlR k e w S v xs) : v.oneCell' = true := by
  obtain ⟨A, cap, rfl, _⟩ := h.shape; rfl

def kIn : Kd JIn := {
  sz := 2
  rep := fun _ S x cs => S = [] ∧ cs = [.int .i64 x.src, .int .i64 x.val]
  len := by rintro _ _ _ _ ⟨_, rfl⟩; rfl
  one := by rintro _ _ x _ ⟨_, rfl⟩ u hu; simp only [List.mem_cons, List.not_mem_nil, or_false] at hu; rcases hu with rfl | rfl <;> rfl
  lt := by rintro _ _ _ _ ⟨rfl, _⟩ k hk; cases hk
  move := fun h _ => h }
def kPhi : Kd JPhi := {
  sz := 2
  rep := fun w S x cs => ∃ v, cs = [.int .i64 x.dst, v] ∧ SlR kIn 49 w S v x.ins
  len := by rintro _ _ _ _ ⟨_, rfl, _⟩; rfl
  one := by rintro _ _ x _ ⟨_, rfl, h⟩ u hu; simp only [List.mem_cons, List.not_mem_nil, or_false] at hu; rcases hu with rfl | rfl; rfl; exact slice_one h
  lt := by rintro _ _ _ _ ⟨_, _, h⟩; exact h.lt
  move := by rintro _ _ _ _ _ ⟨v, rfl, h⟩ hm; exact ⟨v, rfl, h.move hm⟩ }
def kIns : Kd JIns := {
  sz := 5
  rep := fun w S x cs => ∃ v, cs = [.int .i64 x.op, .int .i64 x.dst, .int .i64 x.two, v, .int .i32 x.imm] ∧ SlR kInt 3 w S v x.args
  len := by rintro _ _ _ _ ⟨_, rfl, _⟩; rfl
  one := by rintro _ _ x _ ⟨_, rfl, h⟩ u hu; simp only [List.mem_cons, List.not_mem_nil, or_false] at hu; rcases hu with rfl | rfl | rfl | rfl | rfl <;> first | rfl | exact slice_one h
  lt := by rintro _ _ _ _ ⟨_, _, h⟩; exact h.lt
  move := by rintro _ _ _ _ _ ⟨v, rfl, h⟩ hm; exact ⟨v, rfl, h.move hm⟩ }
/-- a block's six cells, and the blocks of memory that they lead to -/
structure BlkCells (w : World) (S : List Nat) (x : JBlock) (vp vi va vt : Value) (Sp Si Sa St : List Nat) : Prop where
  p : SlR kPhi 46 w Sp vp x.phis
  i : SlR kIns 54 w Si vi x.ins
  a : SlR kInt 3 w Sa va x.term.args
  t : SlR kInt 3 w St vt x.term.to
  s : S = Sp ++ (Si ++ (Sa ++ St))
theorem BlkCells.move {w w' : World} {S : List Nat} {x : JBlock} {vp vi va vt : Value} {Sp Si Sa St : List Nat} (h : BlkCells w S x vp vi va vt Sp Si Sa St) (hm : ∀ k ∈ S, w'.heap[k]? = w.heap[k]?) : BlkCells w' S x vp vi va vt Sp Si Sa St := by
  obtain ⟨h1, h2, h3, h4, rfl⟩ := h
  exact ⟨h1.move fun k hk => hm k (by simp [hk]), h2.move fun k hk => hm k (by simp [hk]), h3.move fun k hk => hm k (by simp [hk]), h4.move fun k hk => hm k (by simp [hk]), rfl⟩
theorem BlkCells.lt {w : World} {S : List Nat} {x : JBlock} {vp vi va vt : Value} {Sp Si Sa St : List Nat} (h : BlkCells w S x vp vi va vt Sp Si Sa St) : ∀ k ∈ S, k < w.heap.size := by
  obtain ⟨h1, h2, h3, h4, rfl⟩ := h
  intro k hk
  simp only [List.mem_append] at hk
  rcases hk with hk | hk | hk | hk
  · exact h1.lt k hk
  · exact h2.lt k hk
  · exact h3.lt k hk
  · exact h4.lt k hk
def kBlock : Kd JBlock := {
  sz := 6
  rep := fun w S x cs => ∃ vp vi va vt Sp Si Sa St, cs = [vp, vi, .int .i64 x.term.kind, va, vt, .int .i32 x.term.imm] ∧ BlkCells w S x vp vi va vt Sp Si Sa St
  len := by rintro _ _ _ _ ⟨_, _, _, _, _, _, _, _, rfl, _⟩; rfl
  one := by
    rintro _ _ x _ ⟨_, _, _, _, _, _, _, _, rfl, h⟩ u hu
    simp only [List.mem_cons, List.not_mem_nil, or_false] at hu
    rcases hu with rfl | rfl | rfl | rfl | rfl | rfl
    · exact slice_one h.p
    · exact slice_one h.i
    · rfl
    · exact slice_one h.a
    · exact slice_one h.t
    · rfl
  lt := by rintro _ _ _ _ ⟨_, _, _, _, _, _, _, _, _, h⟩; exact h.lt
  move := by rintro _ _ _ _ _ ⟨vp, vi, va, vt, Sp, Si, Sa, St, rfl, h⟩ hm; exact ⟨vp, vi, va, vt, Sp, Si, Sa, St, rfl, h.move hm⟩ }

/-- a function as a value -/
def FnR (w : World) (S : List Nat) (v : Value) (f : JFunc) : Prop :=
  ∃ vb, v = .agg #[.int .i64 f.params, vb] ∧ SlR kBlock 43 w S vb f.blocks
theorem FnR.move {w w' : World} {S : List Nat} {v : Value} {f : JFunc} (h : FnR w S v f) (hm : ∀ k ∈ S, w'.heap[k]? = w.heap[k]?) : FnR w' S v f := by
  obtain ⟨vb, rfl, h⟩ := h; exact ⟨vb, rfl, h.move hm⟩
theorem FnR.lt {w : World} {S : List Nat} {v : Value} {f : JFunc} (h : FnR w S v f) : ∀ k ∈ S, k < w.heap.size := by
  obtain ⟨vb, rfl, h⟩ := h; exact h.lt
theorem FnR.ext {M : List Nat} {w w' : World} {S : List Nat} {v : Value} {f : JFunc} (h : FnR w S v f) (hx : Ext M w w') (hd : ∀ k ∈ S, k ∉ M) : FnR w' S v f :=
  h.move fun k hk => hx.block k (h.lt k hk) (hd k hk)
/-- a block of a function: where it lies -/
theorem FnR.block {w : World} {S : List Nat} {vb : Value} {bs : List JBlock} (h : SlR kBlock 43 w S vb bs) (i : Nat) (hi : i < bs.length) :
    ∃ g cap Ap cp Ai ci Aa ca At ct Sb Sp Si Sa St, vb = .slice (some ⟨g, 0, none⟩) bs.length cap ∧ g ∈ S ∧ (∀ k ∈ Sb, k ∈ S) ∧
      BlkCells w Sb bs[i] (.slice Ap bs[i].phis.length cp) (.slice Ai bs[i].ins.length ci) (.slice Aa bs[i].term.args.length ca) (.slice At bs[i].term.to.length ct) Sp Si Sa St ∧
      w.cell? ⟨g, i * 6, none⟩ = some (.slice Ap bs[i].phis.length cp) ∧ w.cell? ⟨g, i * 6 + 1, none⟩ = some (.slice Ai bs[i].ins.length ci) ∧ w.cell? ⟨g, i * 6 + 2, none⟩ = some (.int .i64 bs[i].term.kind) ∧
      w.cell? ⟨g, i * 6 + 3, none⟩ = some (.slice Aa bs[i].term.args.length ca) ∧ w.cell? ⟨g, i * 6 + 4, none⟩ = some (.slice At bs[i].term.to.length ct) ∧ w.cell? ⟨g, i * 6 + 5, none⟩ = some (.int .i32 bs[i].term.imm) := by
  obtain ⟨g, cap, Sb, cs, hv, hg, hs, ⟨vp, vi, va, vt, Sp, Si, Sa, St, rfl, hr⟩, hc, _⟩ := h.get i hi
  obtain ⟨Ap, cp, rfl, _⟩ := hr.p.shape
  obtain ⟨Ai, ci, rfl, _⟩ := hr.i.shape
  obtain ⟨Aa, ca, rfl, _⟩ := hr.a.shape
  obtain ⟨At, ct, rfl, _⟩ := hr.t.shape
  exact ⟨g, cap, Ap, cp, Ai, ci, Aa, ca, At, ct, Sb, Sp, Si, Sa, St, hv, hg, hs, hr, hc 0 _ rfl, hc 1 _ rfl, hc 2 _ rfl, hc 3 _ rfl, hc 4 _ rfl, hc 5 _ rfl⟩
end Go.Proofs.Ytkmgbejhbkbaoaa

/- Plain: rows of numbers sorted, each once. -/
namespace Go.Proofs.Ytkmgbejhbkbaoaa
set_option linter.unusedSimpArgs false
set_option linter.unusedVariables false

/-- the numbers of a row that are below n, rising, each once -/
def keptF (row : List Int) (n : Nat) : List Nat := (List.range n).filter fun b => row.contains (b : Int)

theorem mem_keptF {row : List Int} {n b : Nat} : b ∈ keptF row n ↔ b < n ∧ (b : Int) ∈ row := by
  simp [keptF, List.mem_filter]
theorem keptF_sorted (row : List Int) (n : Nat) : (keptF row n).Pairwise (· < ·) := List.Pairwise.filter _ List.pairwise_lt_range

theorem sorted_ext {l1 l2 : List Int} (h1 : l1.Pairwise (· < ·)) (h2 : l2.Pairwise (· < ·)) (h : ∀ x, x ∈ l1 ↔ x ∈ l2) : l1 = l2 := by
  refine List.Perm.eq_of_pairwise (le := (· < ·)) (fun a b _ _ h1 h2 => by omega) h1 h2 ?_
  exact (List.perm_ext_iff_of_nodup (h1.imp (fun h => by omega)) (h2.imp (fun h => by omega))).2 h

theorem compactUpTo_spec (d : Array Int) (hs : ∀ i j, i < j → j < d.size → d[i]! ≤ d[j]!) (m : Nat) (hm : m ≤ d.size) :
    (Lib.compactUpTo d m).Pairwise (· < ·) ∧ ∀ x, x ∈ Lib.compactUpTo d m ↔ ∃ j, j < m ∧ d[j]! = x := by
  induction m with
  | zero => simp [Lib.compactUpTo]
  | succ m ih =>
    obtain ⟨h1, h2⟩ := ih (by omega)
    rw [Lib.compactUpTo_succ]
    by_cases hk : Lib.keeps d m = true
    · rw [if_pos hk]
      refine ⟨List.pairwise_append.2 ⟨h1, List.pairwise_singleton _ _, ?_⟩, ?_⟩
      · intro a ha b hb
        rw [List.mem_singleton.1 hb]
        obtain ⟨j, hj, rfl⟩ := (h2 a).1 ha
        simp only [Lib.keeps, decide_eq_true_eq] at hk
        rcases hk with rfl | hk
        · omega
        · have e1 : d[m - 1]! ≤ d[m]! := hs (m - 1) m (by omega) (by omega)
          have e2 : d[j]! ≤ d[m - 1]! := by
            rcases Nat.lt_or_ge j (m - 1) with h | h
            · exact hs j (m - 1) h (by omega)
            · have : j = m - 1 := by omega
              rw [this]; exact Int.le_refl _
          omega
      · intro x
        rw [List.mem_append, h2, List.mem_singleton]
        constructor
        · rintro (⟨j, hj, rfl⟩ | rfl)
          · exact ⟨j, by omega, rfl⟩
          · exact ⟨m, by omega, rfl⟩
        · rintro ⟨j, hj, rfl⟩
          rcases Nat.lt_or_ge j m with h | h
          · exact .inl ⟨j, h, rfl⟩
          · have : j = m := by omega
            subst this; exact .inr rfl
    · rw [if_neg hk, List.append_nil]
      refine ⟨h1, fun x => ?_⟩
      rw [h2]
      simp only [Lib.keeps, decide_eq_true_eq, not_or, Decidable.not_not] at hk
      constructor
      · rintro ⟨j, hj, rfl⟩; exact ⟨j, by omega, rfl⟩
      · rintro ⟨j, hj, rfl⟩
        rcases Nat.lt_or_ge j m with h | h
        · exact ⟨j, h, rfl⟩
        · have : j = m := by omega
          subst this
          exact ⟨j - 1, by have := hk.1; omega, hk.2.symm⟩

theorem kept_spec (row : List Int) (n : Nat) :
    Lib.compact ((row.filter fun b : Int => decide (0 ≤ b) && decide (b < n)).mergeSort fun x y => decide (x ≤ y)) = (keptF row n).map Int.ofNat := by
  have hp := List.pairwise_mergeSort (le := fun x y : Int => decide (x ≤ y)) (fun a b c h1 h2 => by simp at *; omega) (fun a b => by simp; omega) (row.filter fun b : Int => decide (0 ≤ b) && decide (b < n))
  have hm := fun x => List.mem_mergeSort (le := fun x y : Int => decide (x ≤ y)) (a := x) (l := row.filter fun b : Int => decide (0 ≤ b) && decide (b < n))
  generalize (row.filter fun b : Int => decide (0 ≤ b) && decide (b < n)).mergeSort (fun x y => decide (x ≤ y)) = zs at *
  obtain ⟨h1, h2⟩ := compactUpTo_spec zs.toArray (fun i j hij hj => by
    have hj' : j < zs.length := by simpa using hj
    have := List.pairwise_iff_getElem.1 hp i j (by omega) hj' hij
    simpa [getElem!_pos, show i < zs.length by omega, hj'] using this) zs.length (by simp)
  refine sorted_ext h1 ?_ fun x => ?_
  · rw [List.pairwise_map]
    exact (keptF_sorted row n).imp fun h => by simpa using h
  · show x ∈ Lib.compactUpTo zs.toArray zs.length ↔ _
    rw [h2, List.mem_map]
    have e1 : (∃ j, j < zs.length ∧ zs.toArray[j]! = x) ↔ x ∈ zs := by
      rw [List.mem_iff_getElem]
      constructor
      · rintro ⟨j, hj, rfl⟩; exact ⟨j, hj, by simp [hj]⟩
      · rintro ⟨j, hj, rfl⟩; exact ⟨j, hj, by simp [hj]⟩
    rw [e1, hm, List.mem_filter]
    simp only [Bool.and_eq_true, decide_eq_true_eq, mem_keptF]
    constructor
    · rintro ⟨hx, h0, hn⟩
      exact ⟨x.toNat, ⟨by omega, by rwa [Int.toNat_of_nonneg h0]⟩, by show ((x.toNat : Nat) : Int) = x; omega⟩
    · rintro ⟨b, ⟨hb, hr⟩, rfl⟩
      exact ⟨hr, Int.natCast_nonneg _, by simpa using hb⟩
end Go.Proofs.Ytkmgbejhbkbaoaa

/- The program's graph: kept, Of, clean. -/
namespace Go.Proofs.Ytkmgbejhbkbaoaa
set_option linter.unusedSimpArgs false
set_option linter.unusedVariables false
open Go.RowKit

set_option maxRecDepth 20000 in
set_option maxHeartbeats 400000 in
theorem kept_calls {w : World} {S : List Nat} {v : Value} {row : List Int} (h : SlR kInt 3 w S v row) (n : Nat) (hn : n ≤ 1073741824) (hl : row.length ≤ 1073741824) :
    Calls Try.prog 38 #[v, .int .i64 (n : Int)] w fun e w' => ∃ v' S', e = .returned v' ∧ SlR kNat 3 w' S' v' (keptF row n) ∧ New w w' S' := by
  obtain ⟨A, cap, rfl, hcap⟩ := h.shape
  go_enter Try.func38, Try.ntmps38
  go_wp2
  go_loopg [5, 10] row.length (fun k vo vi wr => ∃ (i : Nat) (So : List Nat), vi = .int .i64 (i : Int) ∧ i ≤ row.length ∧ Hid (i + k = row.length) ∧
    SlR kInt 3 wr So vo ((row.take i).filter fun b : Int => decide (0 ≤ b) && decide (b < n)) ∧ New w wr So)
  case atStart => exact ⟨0, [], rfl, by omega, by simp [Hid], by simpa using SlR.nil _ _ _, New.refl _⟩
  case round =>
    obtain ⟨i, So, rfl, hi, HK, hso, hnew⟩ := hrel
    have hfl : ((row.take i).filter fun b : Int => decide (0 ≤ b) && decide (b < n)).length ≤ 1073741824 := Nat.le_trans (List.length_filter_le _ _) (by rw [List.length_take]; omega)
    by_cases hlt : i < row.length
    · obtain ⟨g, cap', hv, hS, hc, hf⟩ := (h.ext0 hnew.ext).cell i hlt
      cases hv
      have hsn : Hid (row.take (i + 1) = row.take i ++ [row[i]]) := by rw [Hid, List.take_succ_eq_append_getElem hlt]
      generalize row[i] = x at *
      by_cases h0 : 0 ≤ x
      · by_cases h1 : x < n
        · go_wp2_with (at_builtin; refine wpList_append_sl (d := kInt) (ys := [x]) rfl (.tmp 21) (.tmp 23) 22 rfl ei_int rfl (hso.ext0 ((Ext.refl _ _).alloc _)) rfl [.int .i64 x] [[]] elems_one rfl (one_one rfl) (Src.one rfl) (by simp) (le_maxLen hfl) (le_bytes hfl (by decide)) ?_; intro v' w' S' hs' hx' hf' hn')
          go_roundg (gk - 1)
          case measure => have := HK.out; omega
          case rel =>
            refine ⟨i + 1, S', by go_num, by omega, by have := HK.out; simp only [Hid]; omega, ?_, hnew.append ((Ext.refl _ _).alloc _) hx' hf' hn'⟩
            rw [hsn.out, List.filter_append]
            simpa [h0, h1] using hs'
        · go_wp2
          go_roundg (gk - 1)
          case measure => have := HK.out; omega
          case rel =>
            refine ⟨i + 1, So, by go_num, by omega, by have := HK.out; simp only [Hid]; omega, ?_, hnew⟩
            rw [hsn.out, List.filter_append]
            simpa [h0, h1] using hso
      · go_wp2
        go_roundg (gk - 1)
        case measure => have := HK.out; omega
        case rel =>
          refine ⟨i + 1, So, by go_num, by omega, by have := HK.out; simp only [Hid]; omega, ?_, hnew⟩
          rw [hsn.out, List.filter_append]
          simpa [List.filter_cons, show ¬ (0 ≤ x ∧ x < (n : Int)) by omega] using hso
    · have hi' : Hid (i = row.length) := by simp only [Hid]; omega
      go_wp2_with fail
      refine (sort_calls hso hfl).mono ?_
      rintro e w1 ⟨rfl, h1, hx1⟩
      go_wp2_with fail
      refine (compact_calls h1 (by simpa using hfl)).mono ?_
      rintro e w2 ⟨v2, rfl, h2, hx2⟩
      go_wp2
      go_ret
      refine ⟨v2, So, rfl, ?_, (hnew.ext.trans hx1 fun k hk => .inr (hnew.fresh k hk)).trans hx2 fun k hk => .inr (hnew.fresh k hk), hnew.fresh, hnew.nodup⟩
      rw [hi'.out, List.take_length, kept_spec] at h2
      exact slr_nat_int.2 h2
end Go.Proofs.Ytkmgbejhbkbaoaa

/- An element of a slice opened, changed and shut; slices made. -/
namespace Go.Proofs.Ytkmgbejhbkbaoaa
set_option linter.unusedSimpArgs false
set_option linter.unusedVariables false
open Go.RowKit

/-- element i of a row at block g: its cells cs, the blocks Si that it leads to -/
structure SlAt {α : Type} (d : Kd α) (e : TypeId) (w : World) (S : List Nat) (g cap : Nat) (xs : List α) (i : Nat) (Si : List Nat) (cs : List Value) : Prop where
  ex : ∃ C Ss, 0 < cap ∧ xs.length ≤ cap ∧ cap ≤ maxLen ∧ Blk w g e C ∧ C.size = cap * d.sz ∧ g ∉ Ss.flatten ∧ S = g :: Ss.flatten ∧ Elems d w Ss C.toList xs ∧
    Ss[i]? = some Si ∧ cs = (C.toList.drop (i * d.sz)).take d.sz
  hi : i < xs.length
  rep : d.rep w Si xs[i] cs

theorem nodup_flatten_mem {L : List (List Nat)} (h : L.flatten.Nodup) {l : List Nat} (hl : l ∈ L) : l.Nodup := by
  unfold List.Nodup at *
  rw [List.pairwise_flatten] at h
  exact h.1 l hl
section
variable {α : Type} {d : Kd α} {e : TypeId} {w w1 : World} {S Si : List Nat} {v : Value} {xs : List α} {g cap i : Nat} {cs : List Value}
theorem SlR.at (h : SlR d e w S v xs) (i : Nat) (hi : i < xs.length) : ∃ g cap Si cs, v = .slice (some ⟨g, 0, none⟩) xs.length cap ∧ SlAt d e w S g cap xs i Si cs := by
  rcases h with ⟨A, rfl, rfl, rfl⟩ | ⟨g, cap, C, Ss, rfl, h0, h1, h2, hb, hC, hn, hS, hE⟩
  · simp at hi
  · obtain ⟨Si, hSi, hr⟩ := hE.2 i xs[i] (List.getElem?_eq_getElem hi)
    exact ⟨g, cap, Si, _, rfl, ⟨C, Ss, h0, h1, h2, hb, hC, hn, hS, hE, hSi, rfl⟩, hi, hr⟩
theorem SlAt.cell (h : SlAt d e w S g cap xs i Si cs) (j : Nat) {u : Value} (hu : cs[j]? = some u) : w.cell? ⟨g, i * d.sz + j, none⟩ = some u := by
  obtain ⟨⟨C, Ss, h0, h1, h2, hb, hC, hn, rfl, hE, hSi, rfl⟩, hi, hr⟩ := h
  refine hb.cell ?_
  rw [List.getElem?_take] at hu
  split at hu
  · rw [List.getElem?_drop] at hu
    simpa using hu
  · cases hu
theorem SlAt.frozen (h : SlAt d e w S g cap xs i Si cs) (j : Nat) : w.frozen? ⟨g, j, none⟩ = false := by
  obtain ⟨⟨C, Ss, h0, h1, h2, hb, _⟩, _⟩ := h
  exact hb.frozen j
theorem SlAt.slr (h : SlAt d e w S g cap xs i Si cs) : SlR d e w S (.slice (some ⟨g, 0, none⟩) xs.length cap) xs := by
  obtain ⟨⟨C, Ss, h0, h1, h2, hb, hC, hn, hS, hE, hSi, rfl⟩, hi, hr⟩ := h
  exact .inr ⟨g, cap, C, Ss, rfl, h0, h1, h2, hb, hC, hn, hS, hE⟩
theorem SlAt.mem (h : SlAt d e w S g cap xs i Si cs) : g ∈ S ∧ ∀ k ∈ Si, k ∈ S := by
  obtain ⟨⟨C, Ss, h0, h1, h2, hb, hC, hn, rfl, hE, hSi, rfl⟩, hi, hr⟩ := h
  exact ⟨by simp, fun k hk => List.mem_cons_of_mem _ (List.mem_flatten.2 ⟨Si, List.mem_of_getElem? hSi, hk⟩)⟩
theorem SlAt.notin (h : SlAt d e w S g cap xs i Si cs) : g ∉ Si := by
  obtain ⟨⟨C, Ss, h0, h1, h2, hb, hC, hn, rfl, hE, hSi, rfl⟩, hi, hr⟩ := h
  exact fun hk => hn (List.mem_flatten.2 ⟨Si, List.mem_of_getElem? hSi, hk⟩)
theorem SlAt.nodup (h : SlAt d e w S g cap xs i Si cs) (hn : S.Nodup) : Si.Nodup := by
  obtain ⟨⟨C, Ss, h0, h1, h2, hb, hC, hgn, rfl, hE, hSi, rfl⟩, hi, hr⟩ := h
  exact (nodup_flatten_mem (List.nodup_cons.1 hn).2 (List.mem_of_getElem? hSi))
theorem SlAt.lt (h : SlAt d e w S g cap xs i Si cs) : g < w.heap.size := h.slr.lt g h.mem.1
theorem SlAt.ext (h : SlAt d e w S g cap xs i Si cs) {M : List Nat} (hx : Ext M w w1) (hd : ∀ k ∈ S, k ∉ M) : SlAt d e w1 S g cap xs i Si cs := by
  have hm := h.mem
  obtain ⟨⟨C, Ss, h0, h1, h2, hb, hC, hn, hS, hE, hSi, hcs⟩, hi, hr⟩ := h
  exact ⟨⟨C, Ss, h0, h1, h2, hb.ext hx (hd g hm.1), hC, hn, hS, hE.move fun k hk => hx.block k (hE.lt k hk) (hd k (by rw [hS]; exact List.mem_cons_of_mem _ hk)), hSi, hcs⟩, hi, d.ext hr hx fun k hk => hd k (hm.2 k hk)⟩
theorem SlAt.ext0 (h : SlAt d e w S g cap xs i Si cs) (hx : Ext [] w w1) : SlAt d e w1 S g cap xs i Si cs := h.ext hx fun _ _ => by simp
theorem SlAt.len (h : SlAt d e w S g cap xs i Si cs) : cs.length = d.sz := d.len h.rep

theorem nodup_flat {L : List (List Nat)} : L.flatten.Nodup ↔ (∀ l ∈ L, l.Nodup) ∧ L.Pairwise (fun a b => ∀ k ∈ a, k ∉ b) := by
  unfold List.Nodup
  rw [List.pairwise_flatten]
  refine and_congr Iff.rfl ⟨fun h => h.imp fun h k hk hb => h k hk k hb rfl, fun h => h.imp fun h x hx y hy => ?_⟩
  rintro rfl
  exact h x hx hy
theorem flatten_disj {Ss : List (List Nat)} (hn : Ss.flatten.Nodup) {i j : Nat} {A B : List Nat} (hA : Ss[i]? = some A) (hB : Ss[j]? = some B) (hij : i ≠ j) : ∀ k ∈ A, k ∉ B := by
  obtain ⟨hi, rfl⟩ := List.getElem?_eq_some_iff.1 hA
  obtain ⟨hj, rfl⟩ := List.getElem?_eq_some_iff.1 hB
  intro k h1 h2
  have hp := (nodup_flat.1 hn).2
  rcases Nat.lt_or_ge i j with h | h
  · exact List.pairwise_iff_getElem.1 hp i j hi hj h k h1 h2
  · exact List.pairwise_iff_getElem.1 hp j i hj hi (by omega) k h2 h1
theorem mem_flatten_set {Ss : List (List Nat)} {i : Nat} {A : List Nat} {k : Nat} (hk : k ∈ (Ss.set i A).flatten) : k ∈ A ∨ ∃ j B, j ≠ i ∧ Ss[j]? = some B ∧ k ∈ B := by
  obtain ⟨B, hB, hk⟩ := List.mem_flatten.1 hk
  obtain ⟨j, hj, rfl⟩ := List.getElem_of_mem hB
  rw [List.length_set] at hj
  by_cases hij : i = j
  · subst hij
    rw [List.getElem_set_self] at hk
    exact .inl hk
  · rw [List.getElem_set_ne hij] at hk
    exact .inr ⟨j, Ss[j], fun e => hij e.symm, List.getElem?_eq_getElem hj, hk⟩
theorem nodup_flatten_set {Ss : List (List Nat)} {i : Nat} {A B : List Nat} (hn : Ss.flatten.Nodup) (hA : Ss[i]? = some A) (hB : B.Nodup) (hd : ∀ k ∈ B, k ∈ A ∨ k ∉ Ss.flatten) : (Ss.set i B).flatten.Nodup := by
  obtain ⟨hi, rfl⟩ := List.getElem?_eq_some_iff.1 hA
  refine nodup_flat.2 ⟨?_, ?_⟩
  · intro l hl
    rcases List.mem_or_eq_of_mem_set hl with hl | rfl
    · exact (nodup_flat.1 hn).1 l hl
    · exact hB
  · refine List.pairwise_iff_getElem.2 fun a b ha hb hab => ?_
    rw [List.length_set] at ha hb
    have key : ∀ j (hj : j < Ss.length), j ≠ i → ∀ k ∈ B, k ∉ Ss[j] := by
      intro j hj hji k hk h2
      rcases hd k hk with h | h
      · exact flatten_disj hn (List.getElem?_eq_getElem hi) (List.getElem?_eq_getElem hj) (fun e => hji e.symm) k h h2
      · exact h (List.mem_flatten.2 ⟨_, List.getElem_mem hj, h2⟩)
    intro k h1 h2
    by_cases e1 : i = a
    · subst e1
      rw [List.getElem_set_self] at h1
      rw [List.getElem_set_ne (by omega)] at h2
      exact key b hb (by omega) k h1 h2
    · rw [List.getElem_set_ne e1] at h1
      by_cases e2 : i = b
      · subst e2
        rw [List.getElem_set_self] at h2
        exact key a ha (by omega) k h2 h1
      · rw [List.getElem_set_ne e2] at h2
        exact flatten_disj hn (List.getElem?_eq_getElem ha) (List.getElem?_eq_getElem hb) (by omega) k h1 h2

/-- the element has become another one, in the blocks Sx; its cells are cs' (in the world w2 block g holds them, and is else as it was) -/
theorem SlAt.upd {w2 : World} (h : SlAt d e w S g cap xs i Si cs) (hn : S.Nodup) {cs' : List Value} {x' : α} {Sx : List Nat} (hx : ∀ k, k < w.heap.size → k ∉ Si → k ≠ g → w2.heap[k]? = w.heap[k]?)
    (hb : ∀ C, Blk w g e C → (C.toList.drop (i * d.sz)).take d.sz = cs → ∃ C', Blk w2 g e C' ∧ C'.size = C.size ∧ (C'.toList.drop (i * d.sz)).take d.sz = cs' ∧ ∀ j, j ≠ i → (C'.toList.drop (j * d.sz)).take d.sz = (C.toList.drop (j * d.sz)).take d.sz)
    (hr : d.rep w2 Sx x' cs') (hS : ∀ k ∈ Sx, k ∈ Si ∨ w.heap.size ≤ k) (hg : g < w.heap.size) :
    ∃ S', SlR d e w2 S' (.slice (some ⟨g, 0, none⟩) xs.length cap) (xs.set i x') ∧ (∀ k ∈ S', k ∈ S ∨ w.heap.size ≤ k) ∧ (Sx.Nodup → S'.Nodup) := by
  obtain ⟨⟨C, Ss, h0, h1, h2, hb0, hC, hgn, rfl, hE, hSi, rfl⟩, hi, hrep⟩ := h
  obtain ⟨C', hb', hC', hcs, hother⟩ := hb C hb0 rfl
  have hnf : Ss.flatten.Nodup := (List.nodup_cons.1 hn).2
  have hlt := hE.lt
  have hgSx : g ∉ Sx := fun hk => by
    rcases hS g hk with h3 | h3
    · exact hgn (List.mem_flatten.2 ⟨Si, List.mem_of_getElem? hSi, h3⟩)
    · omega
  have hgS : g ∉ (Ss.set i Sx).flatten := fun hk => by
    rcases mem_flatten_set hk with h3 | ⟨j, B, _, hB, h3⟩
    · exact hgSx h3
    · exact hgn (List.mem_flatten.2 ⟨B, List.mem_of_getElem? hB, h3⟩)
  refine ⟨g :: (Ss.set i Sx).flatten, .inr ⟨g, cap, C', Ss.set i Sx, by rw [List.length_set], h0, by rw [List.length_set]; exact h1, h2, hb', by rw [hC', hC], hgS, rfl, ?_⟩, ?_, ?_⟩
  · refine ⟨by rw [List.length_set, List.length_set, hE.1], fun j x hj => ?_⟩
    by_cases hij : i = j
    · subst hij
      rw [List.getElem?_set_self hi] at hj
      injection hj with hj
      subst hj
      exact ⟨Sx, List.getElem?_set_self (by rw [hE.1]; exact hi), by rw [hcs]; exact hr⟩
    · rw [List.getElem?_set_ne hij] at hj
      obtain ⟨Sj, hSj, hrj⟩ := hE.2 j x hj
      refine ⟨Sj, by rw [List.getElem?_set_ne hij]; exact hSj, ?_⟩
      rw [hother j (fun e => hij e.symm)]
      refine d.move hrj fun k hk => hx k (d.lt hrj k hk) ?_ ?_
      · exact flatten_disj hnf hSj hSi (fun e => hij e.symm) k hk
      · rintro rfl; exact hgn (List.mem_flatten.2 ⟨Sj, List.mem_of_getElem? hSj, hk⟩)
  · intro k hk
    rcases List.mem_cons.1 hk with rfl | hk
    · exact .inl (by simp)
    · rcases mem_flatten_set hk with h3 | ⟨j, B, _, hB, h3⟩
      · rcases hS k h3 with h4 | h4
        · exact .inl (List.mem_cons_of_mem _ (List.mem_flatten.2 ⟨Si, List.mem_of_getElem? hSi, h4⟩))
        · exact .inr h4
      · exact .inl (List.mem_cons_of_mem _ (List.mem_flatten.2 ⟨B, List.mem_of_getElem? hB, h3⟩))
  · intro hSx
    refine List.nodup_cons.2 ⟨hgS, nodup_flatten_set hnf hSi hSx fun k hk => ?_⟩
    rcases hS k hk with h3 | h3
    · exact .inl h3
    · exact .inr fun h4 => by have := hlt k h4; omega

/-- what it leads to has changed; its cells stay -/
theorem SlAt.inner (h : SlAt d e w S g cap xs i Si cs) (hn : S.Nodup) {x' : α} {Sx : List Nat} (hx : Ext Si w w1) (hr : d.rep w1 Sx x' cs) (hS : ∀ k ∈ Sx, k ∈ Si ∨ w.heap.size ≤ k) :
    ∃ S', SlR d e w1 S' (.slice (some ⟨g, 0, none⟩) xs.length cap) (xs.set i x') ∧ (∀ k ∈ S', k ∈ S ∨ w.heap.size ≤ k) ∧ (Sx.Nodup → S'.Nodup) :=
  h.upd hn (fun k hk h1 _ => hx.block k hk h1) (fun C hC hcs => ⟨C, hC.ext hx h.notin, rfl, hcs, fun _ _ => rfl⟩) hr hS h.lt

theorem cut_set {C : List Value} {sz i j : Nat} (hj : j < sz) (hC : (i + 1) * sz ≤ C.length) (u : Value) :
    ((C.set (i * sz + j) u).drop (i * sz)).take sz = ((C.drop (i * sz)).take sz).set j u ∧ ∀ k, k ≠ i → ((C.set (i * sz + j) u).drop (k * sz)).take sz = (C.drop (k * sz)).take sz := by
  have hm : (i + 1) * sz = i * sz + sz := by rw [Nat.add_mul, Nat.one_mul]
  constructor
  · rw [List.drop_set]
    rw [if_neg (by omega), show i * sz + j - i * sz = j from by omega, List.take_set]
  · intro k hk
    rcases Nat.lt_or_ge k i with h | h
    · have h2 : (k + 1) * sz ≤ i * sz := Nat.mul_le_mul_right _ h
      rw [Nat.add_mul, Nat.one_mul] at h2
      rw [List.drop_set, if_neg (by omega), List.take_set, List.set_eq_of_length_le]
      rw [List.length_take]; omega
    · have h2 : (i + 1) * sz ≤ k * sz := Nat.mul_le_mul_right _ (by omega)
      rw [List.drop_set, if_pos (by omega)]

/-- one of its cells is stored, behind changes in what it leads to -/
theorem SlAt.put (h : SlAt d e w S g cap xs i Si cs) (hn : S.Nodup) {x' : α} {Sx : List Nat} (hx : Ext Si w w1) (j : Nat) (hj : j < d.sz) (u : Value)
    (hr : d.rep (w1.setCell ⟨g, i * d.sz + j, none⟩ u) Sx x' (cs.set j u)) (hS : ∀ k ∈ Sx, k ∈ Si ∨ w.heap.size ≤ k) :
    ∃ S', SlR d e (w1.setCell ⟨g, i * d.sz + j, none⟩ u) S' (.slice (some ⟨g, 0, none⟩) xs.length cap) (xs.set i x') ∧ (∀ k ∈ S', k ∈ S ∨ w.heap.size ≤ k) ∧ (Sx.Nodup → S'.Nodup) ∧
      Ext S w (w1.setCell ⟨g, i * d.sz + j, none⟩ u) := by
  have hm := h.mem
  obtain ⟨S', h1, h2, h3⟩ := h.upd (w2 := w1.setCell ⟨g, i * d.sz + j, none⟩ u) hn (fun k hk h1 h2 => (Below.heap_setCell w1 ⟨g, i * d.sz + j, none⟩ u k h2).trans (hx.block k hk h1)) (by
    intro C hC hcs
    have hno := h.notin
    obtain ⟨⟨C0, Ss, h0, h1, h2, hb0, hC0, _⟩, hi, _⟩ := h
    have hCC : C = C0 := by
      have e1 : w.heap[g]? = some (.cells C e (0, 0)) := hC
      have e2 : w.heap[g]? = some (.cells C0 e (0, 0)) := hb0
      rw [e1] at e2
      injection e2 with e2
      injection e2
    subst hCC
    have hlen : (i + 1) * d.sz ≤ C.toList.length := by
      have : C.toList.length = cap * d.sz := by rw [Array.length_toList, hC0]
      rw [this]; exact Nat.mul_le_mul_right _ (by omega)
    obtain ⟨h3, h4⟩ := cut_set hj hlen u
    refine ⟨_, (hC.ext hx hno).set (i * d.sz + j) u, by simp, ?_, ?_⟩
    · rw [Array.toList_setIfInBounds, h3, hcs]
    · intro k hk
      rw [Array.toList_setIfInBounds]
      exact h4 k hk) hr hS h.lt
  exact ⟨S', h1, h2, h3, (hx.mono fun k hk => .inl (hm.2 k hk)).setCell (.inl hm.1) u⟩
end

/-- an element of one cell stored, made since w -/
theorem SlAt.put1 {α : Type} {d : Kd α} {e : TypeId} {w w1 : World} {S Si : List Nat} {xs : List α} {g cap i : Nat} {cs : List Value} (h : SlAt d e w S g cap xs i Si cs) (hn : S.Nodup) (h1 : d.sz = 1)
    {x' : α} {Sx : List Nat} {u : Value} (hx : Ext [] w w1) (hr : d.rep w1 Sx x' [u]) (hS : ∀ k ∈ Sx, w.heap.size ≤ k) :
    ∃ S', SlR d e (w1.setCell ⟨g, i, none⟩ u) S' (.slice (some ⟨g, 0, none⟩) xs.length cap) (xs.set i x') ∧ (∀ k ∈ S', k ∈ S ∨ w.heap.size ≤ k) ∧ (Sx.Nodup → S'.Nodup) ∧
      Ext S w (w1.setCell ⟨g, i, none⟩ u) := by
  have hl := h.len
  rw [h1] at hl
  obtain ⟨c, hc⟩ : ∃ c, cs = [c] := by
    cases cs with
    | nil => simp at hl
    | cons a l => cases l with
      | nil => exact ⟨a, rfl⟩
      | cons b l => simp at hl
  have hg : ∀ k ∈ Sx, k ≠ g := fun k hk e1 => by have := hS k hk; have := h.lt; omega
  have := h.put hn (w1 := w1) (x' := x') (Sx := Sx) (hx.mono (by simp)) 0 (by omega) u (by
    rw [hc, h1, Nat.mul_one, Nat.add_zero]
    exact d.move hr fun k hk => Below.heap_setCell w1 ⟨g, i, none⟩ u k (hg k hk)) (fun k hk => .inr (hS k hk))
  rw [h1, Nat.mul_one, Nat.add_zero] at this
  exact this

/-! ### rows that are filled one by one -/
def part {α : Type} (F : List α) (z : α) (i : Nat) : List α := F.take i ++ List.replicate (F.length - i) z
theorem part_zero {α : Type} (F : List α) (z : α) : part F z 0 = List.replicate F.length z := by simp [part]
theorem part_all {α : Type} (F : List α) (z : α) : part F z F.length = F := by simp [part]
theorem part_len {α : Type} (F : List α) (z : α) {i : Nat} (hi : i ≤ F.length) : (part F z i).length = F.length := by simp [part]; omega
theorem part_set {α : Type} (F : List α) (z : α) {i : Nat} (hi : i < F.length) : (part F z i).set i F[i] = part F z (i + 1) := by
  unfold part
  rw [List.set_append_right _ _ (by simp; omega), List.take_succ_eq_append_getElem hi, List.append_assoc]
  congr 1
  rw [show i - (F.take i).length = 0 from by simp; omega, show F.length - i = (F.length - (i + 1)) + 1 from by omega, List.replicate_succ]
  simp

/-! ### slices made -/
set_option maxRecDepth 4000 in
theorem run_make_eq {P : Program} {t e : TypeId} {sz bytes : Nat} {z : Value} {zc : Array Value} (ht : P.underlying t = some (.slice e)) (hi : (P.info? e).map (fun i => (i.zero, i.size, i.bytes)) = some (some z, sz, bytes)) (hzc : z.cells = zc) (n m : Nat) (hm : m = n * sz) (hn : n ≤ 1073741824) (hb : bytes ≤ 1000) (w : World) :
    (Instr.makeSlice t (.int .i64 (n : Int)) (.int .i64 (n : Int))).run P w = .ok (.slice (some ⟨w.heap.size, 0, none⟩) n n) (w.alloc (.cells (madeCells zc m) e)) := by
  subst hm hzc
  cases h : P.info? e with
  | none => rw [h] at hi; cases hi
  | some i =>
    rw [h] at hi
    simp only [Option.map_some, Option.some.injEq, Prod.mk.injEq] at hi
    obtain ⟨hz, rfl, rfl⟩ := hi
    have hb2 : (i.bytes : Int) * (n : Int) ≤ 281474976710656 := by
      have h2 : i.bytes * n ≤ 281474976710656 := Nat.le_trans (Nat.mul_le_mul hb hn) (by decide)
      have h3 : ((i.bytes * n : Nat) : Int) ≤ ((281474976710656 : Nat) : Int) := Int.ofNat_le.2 h2
      rwa [Int.natCast_mul] at h3
    have := run_make (P := P) w t e i z ht h hz .i64 .i64 n n (Int.natCast_nonneg _) (Int.le_refl _) hb2 (by omega)
    simpa using this

theorem slr_made {α : Type} {d : Kd α} {e : TypeId} {w : World} {zc : Array Value} {x : α} (n m : Nat) (hm : m = n * d.sz) (hn : n ≤ 1073741824) (hsz : zc.size = d.sz) (h0 : 0 < d.sz) (hr : ∀ w, d.rep w [] x zc.toList) :
    ∃ S, SlR d e (w.alloc (.cells (madeCells zc m) e)) S (.slice (some ⟨w.heap.size, 0, none⟩) n n) (List.replicate n x) ∧ (∀ k ∈ S, k = w.heap.size) ∧ S.Nodup := by
  subst hm
  by_cases hz : n = 0
  · subst hz
    exact ⟨[], .inl ⟨_, rfl, rfl, rfl⟩, by simp, by simp⟩
  · refine ⟨[w.heap.size], .inr ⟨w.heap.size, n, _, List.replicate n [], by rw [List.length_replicate], by omega, by simp, by simp only [maxLen]; omega, Blk.new w _ e, by simp [madeCells], by simp, by simp, by simp, ?_⟩, by simp, by simp⟩
    intro i y hy
    have hi : i < n := by have := (List.getElem?_eq_some_iff.1 hy).1; simpa using this
    rw [List.getElem?_replicate, if_pos hi] at hy
    injection hy with hy
    subst hy
    refine ⟨[], by rw [List.getElem?_replicate, if_pos hi], ?_⟩
    have : ((madeCells zc (n * d.sz)).toList.drop (i * d.sz)).take d.sz = zc.toList := by
      have h2 : (i + 1) * d.sz ≤ n * d.sz := Nat.mul_le_mul_right _ hi
      rw [Nat.add_mul, Nat.one_mul] at h2
      refine List.ext_getElem (by simp [madeCells]; omega) fun j h3 h4 => ?_
      have hj : j < d.sz := by simpa [hsz] using h4
      simp [madeCells, hsz, Nat.mod_eq_of_lt hj]
      exact getElem!_pos zc j (by omega)
    rw [this]
    exact hr _
end Go.Proofs.Ytkmgbejhbkbaoaa

/- The program's graph of a function. -/
namespace Go.Proofs.Ytkmgbejhbkbaoaa
set_option linter.unusedSimpArgs false
set_option linter.unusedVariables false
open Go.RowKit

theorem Try.info22 : (Try.prog.info? 22).map (fun i => (i.zero, i.size, i.bytes)) = some (some (.slice none 0 0), 1, 24) := by kernel_rfl
theorem ei_rows : EI Try.prog 33 22 1 24 := ei_of Try.underlying33 Try.info22 rfl (by decide)
abbrev kRow : Kd (List Nat) := kSl 3 kNat

/-- P2.1 -/
def ofF (bs : List JBlock) : List (List Nat) := bs.map fun b => keptF b.term.to bs.length

set_option maxRecDepth 20000 in
set_option maxHeartbeats 400000 in
theorem of_calls {w : World} {S : List Nat} {v : Value} {f : JFunc} (h : FnR w S v f) (hn : f.blocks.length ≤ 1073741824) (hl : ∀ b ∈ f.blocks, b.term.to.length ≤ 1073741824) :
    Calls Try.prog 12 #[v] w fun e w' => ∃ v' S', e = .returned v' ∧ SlR kRow 22 w' S' v' (ofF f.blocks) ∧ New w w' S' := by
  obtain ⟨vb, rfl, hb⟩ := h
  obtain ⟨A, cap, rfl, hcap⟩ := hb.shape
  have hmk := run_make_eq Try.underlying33 Try.info22 rfl f.blocks.length f.blocks.length (by simp) hn (by decide)
  go_enter Try.func12, Try.ntmps12
  go_wp2
  clear hmk
  obtain ⟨So0, hs0, hf0, hn0⟩ := slr_made (d := kRow) (e := 22) (w := w.alloc (.cells #[.int .i64 f.params, .slice A f.blocks.length cap] 26)) (zc := #[.slice none 0 0]) (x := []) f.blocks.length f.blocks.length (by simp [kRow, kSl]) hn rfl (by decide) (fun w => ⟨_, rfl, SlR.nil _ _ _⟩)
  simp only [World.size_alloc] at hs0 hf0
  go_loopg [13] f.blocks.length (fun k vi wr => ∃ (i : Nat) (So : List Nat), vi = .int .i64 (i : Int) ∧ i ≤ f.blocks.length ∧ Hid (i + k = f.blocks.length) ∧
    SlR kRow 22 wr So (.slice (some ⟨w.heap.size + 1, 0, none⟩) f.blocks.length f.blocks.length) ((ofF f.blocks).take i ++ List.replicate (f.blocks.length - i) []) ∧ New w wr So ∧
    Blk wr w.heap.size 26 #[.int .i64 f.params, .slice A f.blocks.length cap] ∧ w.heap.size ∉ So)
  case atStart => 
    refine ⟨0, So0, rfl, by omega, by simp [Hid], by simpa using hs0, ⟨((Ext.refl _ _).alloc _).alloc _, fun k hk => ?_, hn0⟩, (Blk.new _ _ _).alloc _, fun hk => ?_⟩
    · have := hf0 k hk; omega
    · have := hf0 _ hk; omega
  case round =>
    obtain ⟨i, So, rfl, hi, HK, hso, hnew, hblk, hnin⟩ := hrel
    have hsz := hblk.lt
    by_cases hlt : i < f.blocks.length
    · obtain ⟨g, cap', Ap, cp, Ai, ci, Aa, ca, At, ct, Sb, Sp, Si, Sa, St, hv, hg, hsub, hbc, c0, c1, c2, c3, c4, c5⟩ := FnR.block (hb.ext0 hnew.ext) i hlt
      cases hv
      have d0 := hblk.cell (i := 0) rfl
      have d1 := hblk.cell (i := 1) rfl
      generalize hx : f.blocks[i] = x at *
      have Hx := Lib.hid hx
      clear hx hf0 hs0
      go_wp2_with fail
      refine (kept_calls (hbc.t.ext0 ((Ext.refl _ _).alloc _)) f.blocks.length hn (by rw [← Hx.out]; exact hl _ (List.getElem_mem hlt))).mono ?_
      rintro e w1 ⟨v1, S1, rfl, hr1, hnew1⟩
      obtain ⟨A1, c1', rfl, _⟩ := hr1.shape
      have hxx : Ext [] wr w1 := ((Ext.refl _ _).alloc _).nil hnew1.ext
      obtain ⟨g', cap', Si, cs, hv, hat⟩ := hso.at i (by simp [ofF]; omega)
      have hlen : ((ofF f.blocks).take i ++ List.replicate (f.blocks.length - i) []).length = f.blocks.length := by simp [ofF]; omega
      rw [hlen] at hv
      cases hv
      obtain ⟨vv, rfl, hvv⟩ := hat.rep
      have e1 := (hat.ext0 hxx).cell 0 rfl
      have e2 := (hat.ext0 hxx).frozen i
      simp only [kRow, kSl, Nat.mul_one, Nat.add_zero] at e1
      have hblk1 := hblk.ext hxx (by simp)
      have hsz1 := hblk1.lt
      go_wp2
      go_roundg (gk - 1)
      case measure => have := HK.out; omega
      case rel =>
        have hw : ∀ k ∈ S1, wr.heap.size ≤ k := fun k hk => by have := hnew1.fresh k hk; simp at this; omega
        obtain ⟨S', p1, p2, p3, p4⟩ := hat.put1 hnew.nodup rfl hxx (x' := keptF x.term.to f.blocks.length) (Sx := S1) ⟨_, rfl, hr1⟩ hw
        refine ⟨i + 1, S', by go_num, by omega, by have := HK.out; simp only [Hid]; omega, ?_, ⟨hnew.ext.trans p4 fun k hk => .inr (hnew.fresh k hk), fun k hk => ?_, p3 hnew1.nodup⟩, ?_, ?_⟩
        · rw [hlen] at p1
          have hset : ((ofF f.blocks).take i ++ List.replicate (f.blocks.length - i) []).set i (keptF x.term.to f.blocks.length) = (ofF f.blocks).take (i + 1) ++ List.replicate (f.blocks.length - (i + 1)) [] := by
            rw [List.set_append_right _ _ (by simp [ofF]; omega), List.take_succ_eq_append_getElem (by simp [ofF]; omega), List.append_assoc]
            congr 1
            rw [show i - ((ofF f.blocks).take i).length = 0 from by simp [ofF]; omega, show f.blocks.length - i = (f.blocks.length - (i + 1)) + 1 from by omega, List.replicate_succ]
            simp [ofF, Hx.out]
          rw [hset] at p1
          exact p1
        · rcases p2 k hk with h3 | h3
          · exact hnew.fresh k h3
          · omega
        · exact hblk.ext p4 hnin
        · intro hk
          rcases p2 _ hk with h3 | h3
          · exact hnin h3
          · omega
    · have hi' : i = f.blocks.length := by omega
      subst hi'
      go_wp2
      go_ret
      refine ⟨_, So, rfl, ?_, hnew⟩
      have : (ofF f.blocks).take f.blocks.length = ofF f.blocks := List.take_of_length_le (by simp [ofF])
      simpa [this] using hso
end Go.Proofs.Ytkmgbejhbkbaoaa

/- The program's graph: clean, Dominates. -/
namespace Go.Proofs.Ytkmgbejhbkbaoaa
set_option linter.unusedSimpArgs false
set_option linter.unusedVariables false
open Go.RowKit

/-- a graph's rows: blocks, rising, each once -/
def Good (g : List (List Nat)) : Prop := ∀ row ∈ g, row.Pairwise (· < ·) ∧ ∀ b ∈ row, b < g.length
theorem kept_same {row : List Nat} {n : Nat} (h1 : row.Pairwise (· < ·)) (h2 : ∀ b ∈ row, b < n) : keptF (row.map Int.ofNat) n = row := by
  have h3 := keptF_sorted (row.map Int.ofNat) n
  refine List.Perm.eq_of_pairwise (le := (· < ·)) (fun a b _ _ h1 h2 => by omega) h3 h1 ?_
  refine (List.perm_ext_iff_of_nodup (h3.imp (fun h => by omega)) (h1.imp (fun h => by omega))).2 fun a => ?_
  rw [mem_keptF, List.mem_map]
  constructor
  · rintro ⟨_, b, hb, he⟩
    have : b = a := by have : (b : Int) = (a : Int) := he
                       omega
    rwa [← this]
  · intro h; exact ⟨h2 a h, a, h, rfl⟩

theorem row_get {w : World} {S : List Nat} {v : Value} {g : List (List Nat)} (h : SlR kRow 22 w S v g) (i : Nat) (hi : i < g.length) :
    ∃ b cap A c Si, v = .slice (some ⟨b, 0, none⟩) g.length cap ∧ b ∈ S ∧ w.cell? ⟨b, i, none⟩ = some (.slice A g[i].length c) ∧ SlR kNat 3 w Si (.slice A g[i].length c) g[i] ∧ ∀ k ∈ Si, k ∈ S := by
  obtain ⟨b, cap, Si, cs, hv, hat⟩ := h.at i hi
  obtain ⟨vv, hcs, hr⟩ : ∃ vv, cs = [vv] ∧ SlR kNat 3 w Si vv (g[i]'hi) := hat.rep
  obtain ⟨A, c, hvv, _⟩ := hr.shape
  rw [hvv] at hcs hr
  have := hat.cell 0 (by rw [hcs]; rfl)
  simp only [kRow, kSl, Nat.mul_one, Nat.add_zero] at this
  exact ⟨b, cap, A, c, Si, hv, hat.mem.1, this, hr, hat.mem.2⟩

set_option maxRecDepth 20000 in
set_option maxHeartbeats 400000 in
theorem clean_calls {w : World} {S : List Nat} {v : Value} {g : List (List Nat)} (h : SlR kRow 22 w S v g) (hg : Good g) (hn : g.length ≤ 1073741824) :
    Calls Try.prog 52 #[v] w fun e w' => ∃ v' S', e = .returned v' ∧ SlR kRow 22 w' S' v' g ∧ New w w' S' := by
  obtain ⟨A, cap, rfl, hcap⟩ := h.shape
  have hmk := run_make_eq Try.underlying33 Try.info22 rfl g.length g.length (by simp) hn (by decide)
  go_enter Try.func52, Try.ntmps52
  go_wp2
  clear hmk
  obtain ⟨So0, hs0, hf0, hn0⟩ := slr_made (d := kRow) (e := 22) (w := w) (zc := #[.slice none 0 0]) (x := []) g.length g.length (by simp [kRow, kSl]) hn rfl (by decide) (fun w => ⟨_, rfl, SlR.nil _ _ _⟩)
  go_loopg [11] g.length (fun k vi wr => ∃ (i : Nat) (So : List Nat), vi = .int .i64 (i : Int) ∧ i ≤ g.length ∧ Hid (i + k = g.length) ∧
    SlR kRow 22 wr So (.slice (some ⟨w.heap.size, 0, none⟩) g.length g.length) (part g [] i) ∧ New w wr So)
  case atStart =>
    refine ⟨0, So0, rfl, by omega, by simp [Hid], by rw [part_zero]; exact hs0, ⟨(Ext.refl _ _).alloc _, fun k hk => ?_, hn0⟩⟩
    have := hf0 k hk; omega
  case round =>
    obtain ⟨i, So, rfl, hi, HK, hso, hnew⟩ := hrel
    have hsz := hnew.ext.size
    by_cases hlt : i < g.length
    · obtain ⟨b, cap', A, c, Si, hv, hb, hc, hr, hsub⟩ := row_get (h.ext0 hnew.ext) i hlt
      cases hv
      have hgd := hg g[i] (List.getElem_mem hlt)
      have Hset := Lib.hid (part_set g [] hlt)
      generalize hx : g[i] = x at *
      have Hx := Lib.hid hx
      clear hx hs0 hf0
      have hxl : x.length ≤ 1073741824 := by
        have : (keptF (x.map Int.ofNat) g.length).length ≤ (List.range g.length).length := List.length_filter_le _ _
        rw [kept_same hgd.1 hgd.2, List.length_range] at this; omega
      go_wp2_with fail
      refine (kept_calls (slr_nat_int.1 hr) g.length hn (by simpa using hxl)).mono ?_
      rintro e w1 ⟨v1, S1, rfl, hr1, hnew1⟩
      rw [kept_same hgd.1 hgd.2] at hr1
      obtain ⟨A1, c1', rfl, _⟩ := hr1.shape
      have hxx : Ext [] wr w1 := hnew1.ext
      obtain ⟨g', cap', Si, cs, hv, hat⟩ := hso.at i (by rw [part_len _ _ hi]; exact hlt)
      have hlen := part_len g [] hi
      rw [hlen] at hv
      cases hv
      obtain ⟨vv, rfl, hvv⟩ := hat.rep
      have e1 := (hat.ext0 hxx).cell 0 rfl
      have e2 := (hat.ext0 hxx).frozen i
      simp only [kRow, kSl, Nat.mul_one, Nat.add_zero] at e1
      have Hlen := Lib.hid hlen
      clear hlen
      go_wp2
      go_roundg (gk - 1)
      case measure => have := HK.out; omega
      case rel =>
        obtain ⟨S', p1, p2, p3, p4⟩ := hat.put1 hnew.nodup rfl hxx (x' := x) (Sx := S1) ⟨_, rfl, hr1⟩ hnew1.fresh
        rw [Hlen.out, Hset.out] at p1
        refine ⟨i + 1, S', by go_num, by omega, by have := HK.out; simp only [Hid]; omega, p1, ⟨hnew.ext.trans p4 fun k hk => .inr (hnew.fresh k hk), fun k hk => ?_, p3 hnew1.nodup⟩⟩
        rcases p2 k hk with h3 | h3
        · exact hnew.fresh k h3
        · omega
    · have hi' : i = g.length := by omega
      subst hi'
      go_wp2
      go_ret
      refine ⟨_, So, rfl, ?_, hnew⟩
      rw [part_all] at hso
      exact hso

/-! ### Dominates: one by one -/
def chainF (idom : List Int) (a : Int) : Nat → Int → Bool
  | 0, _ => false
  | k + 1, b => if a = b then true else if 0 ≤ b ∧ b < idom.length then chainF idom a k (idom.getD b.toNat 0) else false
/-- P2.3 -/
def domF (idom : List Int) (a b : Int) : Bool := if (0 ≤ a ∧ a < idom.length) ∧ (0 ≤ b ∧ b < idom.length) then chainF idom a (idom.length + 1) b else false

set_option maxRecDepth 20000 in
set_option maxHeartbeats 400000 in
theorem dom1_calls {w : World} {p : Addr} {A : Option Addr} {n cap : Nat} (x : Int) (hc : w.cell? p = some (.slice A n cap)) :
    Calls Try.prog 39 #[.int .i64 x, .pointer (some p)] w fun e w' => e = .returned (.bool (decide (0 ≤ x ∧ x < n))) ∧ w' = w := by
  by_cases h0 : 0 ≤ x
  · go_enter Try.func39, Try.ntmps39
    go_wp2
    go_ret
    exact ⟨by simp [h0], rfl⟩
  · have hd : decide (0 ≤ x) = false := by simpa using h0
    go_enter Try.func39, Try.ntmps39
    go_wp2
    go_ret
    exact ⟨by simp [h0], rfl⟩

set_option maxRecDepth 20000 in
set_option maxHeartbeats 400000 in
theorem dominates_calls {w : World} {S : List Nat} {v : Value} {idom : List Int} (h : SlR kInt 3 w S v idom) (hn : idom.length ≤ 1073741824) (a b : Int) :
    Calls Try.prog 13 #[v, .int .i64 a, .int .i64 b] w fun e w' => e = .returned (.bool (domF idom a b)) ∧ Ext [] w w' := by
  obtain ⟨A, cap, rfl, hcap⟩ := h.shape
  go_enter Try.func13, Try.ntmps13
  go_wp2_with fail
  refine (dom1_calls a ((Blk.new w #[.slice A idom.length cap] 22).cell rfl)).mono ?_
  rintro e w1 ⟨rfl, rfl⟩
  by_cases ha : 0 ≤ a ∧ a < idom.length
  · have hda : decide (0 ≤ a ∧ a < (idom.length : Int)) = true := by simpa using ha
    rw [hda]
    go_wp2_with fail
    refine (dom1_calls b ((Blk.new w #[.slice A idom.length cap] 22).cell rfl)).mono ?_
    rintro e w1 ⟨rfl, rfl⟩
    by_cases hb : 0 ≤ b ∧ b < idom.length
    · have hdb : decide (0 ≤ b ∧ b < (idom.length : Int)) = true := by simpa using hb
      have hfin : Hid (domF idom a b = chainF idom a (idom.length + 1) b) := by rw [Hid, domF, if_pos ⟨ha, hb⟩]
      rw [hdb]
      go_wp2_with fail
      go_loopg [2, 22] (idom.length + 1) (fun k vb vi wr => ∃ (i : Nat) (b' : Int), vi = .int .i64 (i : Int) ∧ Hid (i + k = idom.length + 1) ∧ vb = .int .i64 b' ∧ Hid (domF idom a b = chainF idom a k b') ∧ wr = w.alloc (.cells #[.slice A idom.length cap] 22))
      case atStart => exact ⟨0, b, rfl, by simp [Hid], rfl, hfin, rfl⟩
      case round =>
        obtain ⟨i, b', rfl, HK, rfl, Hd, rfl⟩ := hrel
        clear hfin
        cases gk with
        | zero =>
          have hlt : ¬ i < idom.length + 1 := by have := HK.out; omega
          go_wp2
          go_ret
          refine ⟨by rw [Hd.out]; rfl, (Ext.refl _ _).alloc _⟩
        | succ k =>
          have hlt : i < idom.length + 1 := by have := HK.out; omega
          by_cases he : a = b'
          · have hr : Hid (domF idom a b = true) := by rw [Hid, Hd.out, chainF, if_pos he]
            have he' : (a == b') = true := by simpa using he
            clear Hd
            go_wp2
            go_ret
            exact ⟨by rw [hr.out]; rfl, (Ext.refl _ _).alloc _⟩
          · have he' : (a == b') = false := by simpa using he
            go_wp2_with fail
            refine (dom1_calls b' ((Blk.new w #[.slice A idom.length cap] 22).cell rfl)).mono ?_
            rintro e w1 ⟨rfl, rfl⟩
            by_cases hb' : 0 ≤ b' ∧ b' < idom.length
            · have hdb' : decide (0 ≤ b' ∧ b' < (idom.length : Int)) = true := by simpa using hb'
              obtain ⟨g, cap', hv, hS, hc, hf⟩ := h.cell b'.toNat (by omega)
              cases hv
              have hr : Hid (domF idom a b = chainF idom a k (idom.getD b'.toNat 0)) := by rw [Hid, Hd.out, chainF, if_neg he, if_pos hb']
              have hgd : idom.getD b'.toNat 0 = idom[b'.toNat]'(by omega) := by simp [List.getD, show b'.toNat < idom.length by omega]
              rw [hgd] at hr
              have hx : w.cell? ⟨g, b'.toNat, none⟩ = _ := hc
              have hgl : g < w.heap.size := h.lt g (by rw [hS]; simp)
              rw [hdb']
              clear Hd hgd hc
              go_wp2
              go_roundg k
              case measure => omega
              case rel => exact ⟨i + 1, _, by go_num, by have := HK.out; simp only [Hid]; omega, rfl, hr, rfl⟩
            · have hdb' : decide (0 ≤ b' ∧ b' < (idom.length : Int)) = false := by simpa using hb'
              have hr : Hid (domF idom a b = false) := by rw [Hid, Hd.out, chainF, if_neg he, if_neg hb']
              rw [hdb']
              clear Hd
              go_wp2
              go_ret
              exact ⟨by rw [hr.out]; rfl, (Ext.refl _ _).alloc _⟩
    · have hdb : decide (0 ≤ b ∧ b < (idom.length : Int)) = false := by simpa using hb
      have hfin : Hid (domF idom a b = false) := by rw [Hid, domF, if_neg (fun h => hb h.2)]
      rw [hdb]
      go_wp2
      go_ret
      exact ⟨by rw [hfin.out]; rfl, (Ext.refl _ _).alloc _⟩
  · have hda : decide (0 ≤ a ∧ a < (idom.length : Int)) = false := by simpa using ha
    have hfin : Hid (domF idom a b = false) := by rw [Hid, domF, if_neg (fun h => ha h.1)]
    rw [hda]
    go_wp2
    go_ret
    exact ⟨by rw [hfin.out]; rfl, (Ext.refl _ _).alloc _⟩
end Go.Proofs.Ytkmgbejhbkbaoaa

/- Plain: depth first. -/
namespace Go.Proofs.Ytkmgbejhbkbaoaa
set_option linter.unusedSimpArgs false
set_option linter.unusedVariables false

abbrev DS := List Bool × List Nat
/-- from block a on: what is there, and what was left, in order; k: a bound on the depth -/
def dfs (g : List (List Nat)) : Nat → DS → Nat → DS
  | 0, st, _ => st
  | k + 1, st, a =>
    let st' := (g.getD a []).foldl (fun st b => if st.1.getD b false then st else dfs g k st b) (st.1.set a true, st.2)
    (st'.1, st'.2 ++ [a])
def dfsRow (g : List (List Nat)) (k : Nat) (st : DS) (row : List Nat) : DS := row.foldl (fun st b => if st.1.getD b false then st else dfs g k st b) st
theorem dfs_succ (g : List (List Nat)) (k : Nat) (st : DS) (a : Nat) : dfs g (k + 1) st a = ((dfsRow g k (st.1.set a true, st.2) (g.getD a [])).1, (dfsRow g k (st.1.set a true, st.2) (g.getD a [])).2 ++ [a]) := rfl
theorem dfsRow_snoc (g : List (List Nat)) (k : Nat) (st : DS) (row : List Nat) (b : Nat) :
    dfsRow g k st (row ++ [b]) = if (dfsRow g k st row).1.getD b false then dfsRow g k st row else dfs g k (dfsRow g k st row) b := by
  simp [dfsRow, List.foldl_append]
/-- P2.2 -/
def orderF (g : List (List Nat)) : List Nat := if g.length = 0 then [] else (dfs g g.length (List.replicate g.length false, []) 0).2.reverse

theorem count_set_true {l : List Bool} {a : Nat} (ha : a < l.length) (h : l[a] = false) : (l.set a true).count false + 1 = l.count false ∧ (l.set a true).count true = l.count true + 1 := by
  induction l generalizing a with
  | nil => simp at ha
  | cons x l ih =>
    cases a with
    | zero => simp at h; subst h; simp
    | succ a =>
      simp at ha h
      obtain ⟨h1, h2⟩ := ih ha h
      simp only [List.set_cons_succ, List.count_cons]
      omega
/-- what a walk keeps -/
structure DKeep (st st' : DS) : Prop where
  len : st'.1.length = st.1.length
  up : ∀ i, st.1.getD i false = true → st'.1.getD i false = true
  cnt : st'.1.count false ≤ st.1.count false
  out : st'.2.length + st.1.count true = st.2.length + st'.1.count true
theorem DKeep.refl (st : DS) : DKeep st st := ⟨rfl, fun _ h => h, Nat.le_refl _, rfl⟩
theorem DKeep.trans {a b c : DS} (h : DKeep a b) (k : DKeep b c) : DKeep a c :=
  ⟨k.len.trans h.len, fun i hi => k.up i (h.up i hi), Nat.le_trans k.cnt h.cnt, by have := h.out; have := k.out; omega⟩
theorem dfs_keep (g : List (List Nat)) : ∀ (k : Nat) (st : DS) (a : Nat), a < st.1.length → st.1.getD a false = false → (∀ row ∈ g, ∀ b ∈ row, b < st.1.length) → DKeep st (dfs g k st a)
  | 0, st, a, _, _, _ => DKeep.refl st
  | k + 1, st, a, ha, hf, hg => by
    have hfa : st.1[a] = false := by simpa [List.getD, ha] using hf
    obtain ⟨c1, c2⟩ := count_set_true ha hfa
    have key : ∀ (row : List Nat) (s : DS), (∀ b ∈ row, b < s.1.length) → s.1.length = st.1.length → DKeep s (dfsRow g k s row) := by
      intro row
      induction row with
      | nil => intro s _ _; exact DKeep.refl s
      | cons b row ih =>
        intro s hb hl
        have h1 : DKeep s (if s.1.getD b false then s else dfs g k s b) := by
          split
          · exact DKeep.refl s
          · rename_i h
            exact dfs_keep g k s b (hb b (by simp)) (by simpa using h) (fun row hr x hx => by rw [hl]; exact hg row hr x hx)
        have h2 : dfsRow g k s (b :: row) = dfsRow g k (if s.1.getD b false then s else dfs g k s b) row := rfl
        rw [h2]
        exact h1.trans (ih _ (fun x hx => by rw [h1.len]; exact hb x (by simp [hx])) (h1.len.trans hl))
    have hrow : ∀ b ∈ g.getD a [], b < (st.1.set a true, st.2).1.length := by
      intro b hb
      rw [List.length_set]
      by_cases h : a < g.length
      · rw [List.getD_eq_getElem?_getD, List.getElem?_eq_getElem h] at hb
        exact hg _ (List.getElem_mem h) b hb
      · rw [List.getD_eq_getElem?_getD, List.getElem?_eq_none (by omega)] at hb
        simp at hb
    have h3 := key (g.getD a []) (st.1.set a true, st.2) hrow (by simp)
    rw [dfs_succ]
    refine ⟨by have := h3.len; simpa using this, fun i hi => ?_, ?_, ?_⟩
    · refine h3.up i ?_
      simp only [List.getD_eq_getElem?_getD, List.getElem?_set] at hi ⊢
      split
      · simp_all
      · exact hi
    · have := h3.cnt; simp only at this ⊢; omega
    · have := h3.out; simp only [List.length_append, List.length_singleton] at this ⊢; omega
theorem dfsRow_keep (g : List (List Nat)) (k : Nat) (row : List Nat) (s : DS) (hb : ∀ b ∈ row, b < s.1.length) (hg : ∀ row ∈ g, ∀ b ∈ row, b < s.1.length) : DKeep s (dfsRow g k s row) := by
  induction row generalizing s with
  | nil => exact DKeep.refl s
  | cons b row ih =>
    have h1 : DKeep s (if s.1.getD b false then s else dfs g k s b) := by
      split
      · exact DKeep.refl s
      · rename_i h
        exact dfs_keep g k s b (hb b (by simp)) (by simpa using h) hg
    have h2 : dfsRow g k s (b :: row) = dfsRow g k (if s.1.getD b false then s else dfs g k s b) row := rfl
    rw [h2]
    exact h1.trans (ih _ (fun x hx => by rw [h1.len]; exact hb x (by simp [hx])) (fun row hr x hx => by rw [h1.len]; exact hg row hr x hx))
end Go.Proofs.Ytkmgbejhbkbaoaa

/- A statement whose order is open: one order serves for all, if what only reads yields the same in each world that may come up, and what writes comes up one by one. -/
namespace Go.Proofs.Ytkmgbejhbkbaoaa
set_option linter.unusedSimpArgs false
set_option linter.unusedVariables false
open Go.RowKit

section
variable {P : Program} {ops : Array Oper} {C : World → Prop}

theorem put_lit (l : List Value) (ds : List Deferred) (d : Nat) (v : Value) : Act.put ⟨l.toArray, ds⟩ (some d) v = ⟨(l.set d v).toArray, ds⟩ := by simp [Act.put]
theorem put_none (a : Act) (v : Value) : Act.put a none v = a := rfl
/-- one operation, without a panic -/
def StepTo (P : Program) (o : Oper) (a : Act) (w : World) (K : Act → World → Prop) : Prop :=
  match (execOp a.eval o).run P w with
  | .ok (.value v) w' => K (a.put o.dst v) w'
  | .ok .skip w' => K (a.put o.dst undef) w'
  | .ok (.enter f args) w' => Calls P f args w' fun e w'' => ∃ v, e = .returned v ∧ K (a.put o.dst v) w''
  | _ => False
theorem StepTo.mono {o : Oper} {a : Act} {w : World} {K K' : Act → World → Prop} (h : ∀ a w, K a w → K' a w) (hh : StepTo P o a w K) : StepTo P o a w K' := by
  unfold StepTo at *
  split at hh
  · exact h _ _ hh
  · exact h _ _ hh
  · exact hh.mono fun e w'' ⟨v, he, hk⟩ => ⟨v, he, h _ _ hk⟩
  · exact hh.elim
theorem StepTo.wp {o : Oper} {a : Act} {w : World} {K : Act → World → Prop} {Q : Exit → Act → World → Prop} (hh : StepTo P o a w K) : o.wp P a w K Q := by
  unfold StepTo at hh
  unfold Oper.wp
  generalize (execOp a.eval o).run P w = r at *
  cases r with
  | ok x w' =>
    cases x <;> simp only [Oper.upon] at hh ⊢
    all_goals first
      | exact hh
      | exact Calls.mono hh (fun e w'' ⟨v, he, hk⟩ => by subst he; exact hk)
  | halt x w' => simp only [] at hh
theorem StepTo.wpIn {o : Oper} {a : Act} {w : World} {K : Act → World → Prop} {Q : Exit → Act → World → Prop} (l n : Nat) (hd : ∀ c, o.op ≠ .defer c) (hh : StepTo P o a w K) : o.wpIn (Fence.wide.inRound l) n P a w K Q := by
  unfold StepTo at hh
  unfold Oper.wpIn
  refine ⟨fun _ _ => trivial, ?_⟩
  rw [Oper.semAt_eq _ _ _ hd]
  generalize (execOp a.eval o).run P w = r at *
  cases r with
  | ok x w' =>
    cases x <;> simp only [Oper.uponIn] at hh ⊢
    all_goals first
      | exact hh
      | exact ⟨fun h => (by simp [Fence.wide, Fence.inRound] at h), (CallsIn.inRound l (callsIn_wide.2 hh)).mono (fun e w'' ⟨v, he, hk⟩ => by subst he; exact hk)⟩
  | halt x w' => simp only [] at hh

def sOp (P : Program) (ops : Array Oper) (i : Nat) (K : Act → World → Prop) (a : Act) (w : World) : Prop :=
  match ops[i]? with
  | none => K a w
  | some o => if Region.wanted o (yielded ops a.tmps) then StepTo P o a w K else K (a.put o.dst undef) w
theorem sOp_mono {i : Nat} {a : Act} {w : World} {K K' : Act → World → Prop} (h : ∀ a w, K a w → K' a w) (hh : sOp P ops i K a w) : sOp P ops i K' a w := by
  unfold sOp at *
  split
  · exact h _ _ (by simpa [*] using hh)
  · rename_i o ho
    simp only [ho] at hh
    split
    · rename_i hw; simp only [hw, if_true] at hh; exact hh.mono h
    · rename_i hw; simp only [hw] at hh; exact h _ _ hh

/-- in each world of the class the operation yields v, and turns nothing -/
def Quiet (P : Program) (ops : Array Oper) (C : World → Prop) (o : Oper) (v : Value) (a : Act) : Prop :=
  (Region.wanted o (yielded ops a.tmps) = true ∧ ∀ w, C w → (execOp a.eval o).run P w = .ok (.value v) w ∨ ((execOp a.eval o).run P w = .ok .skip w ∧ v = undef)) ∨
  (Region.wanted o (yielded ops a.tmps) = false ∧ v = undef)
theorem Quiet.sOp {i : Nat} {o : Oper} {v : Value} {a : Act} {w : World} (hi : ops[i]? = some o) (hy : Quiet P ops C o v a) (hC : C w) {K : Act → World → Prop} (h : K (a.put o.dst v) w) : sOp P ops i K a w := by
  unfold Go.Proofs.Ytkmgbejhbkbaoaa.sOp
  simp only [hi]
  rcases hy with ⟨hw, hv⟩ | ⟨hw, rfl⟩
  · simp only [hw, if_true]
    unfold StepTo
    rcases hv w hC with h1 | ⟨h1, rfl⟩
    · rw [h1]; exact h
    · rw [h1]; exact h
  · simp only [hw, Bool.false_eq_true, if_false]; exact h
theorem Quiet.of_same {o : Oper} {v : Value} {a a' : Act} (hy : Quiet P ops C o v a) (he : execOp a'.eval o = execOp a.eval o)
    (hw : Region.wanted o (yielded ops a'.tmps) = Region.wanted o (yielded ops a.tmps)) : Quiet P ops C o v a' := by
  unfold Quiet at *
  rw [he, hw]
  exact hy
theorem sOp_put {j : Nat} {oi oj : Oper} {v : Value} (hj : ops[j]? = some oj) (hap : oi.apart ops oj = true)
    (hsi : ∀ cs b, oi.op ≠ .select cs b) (hsj : ∀ cs b, oj.op ≠ .select cs b) {K : Act → World → Prop} {a : Act} {w : World}
    (hy : Quiet P ops C oi v a) (h : sOp P ops j K (a.put oi.dst v) w) :
    sOp P ops j (fun a' w' => Quiet P ops C oi v a' ∧ K (a'.put oi.dst v) w') a w := by
  obtain ⟨h1, h2, h3⟩ := Oper.apart_spec hap
  have keep : ∀ u, Quiet P ops C oi v (a.put oj.dst u) := fun u => hy.of_same (execOp_put oi hsi a oj.dst u h3) (wanted_put oi a oj.dst u h3)
  unfold Go.Proofs.Ytkmgbejhbkbaoaa.sOp at *
  simp only [hj] at *
  rw [wanted_put oj a oi.dst v h1] at h
  split
  · rename_i hw
    simp only [hw, if_true] at h
    unfold StepTo at *
    rw [execOp_put oj hsj a oi.dst v h1] at h
    generalize (execOp a.eval oj).run P w = r at *
    cases r with
    | ok x w' =>
      cases x <;> simp only [] at h ⊢
      case value u => exact ⟨keep u, by rw [← Act.put_comm a v u h2]; exact h⟩
      case skip => exact ⟨keep _, by rw [← Act.put_comm a v undef h2]; exact h⟩
      case enter f args => exact h.mono fun e w'' ⟨u, he, hk⟩ => ⟨u, he, keep u, by rw [← Act.put_comm a v u h2]; exact hk⟩
    | halt x w' => simp only [] at h
  · rename_i hw
    simp only [hw] at h
    exact ⟨keep _, by rw [← Act.put_comm a v undef h2]; exact h⟩

/-- it waits for all others -/
def finB (md : Region.Mode) (ops : Array Oper) (j : Nat) : Bool :=
  match ops[j]? with
  | none => false
  | some o => (List.range ops.size).all fun k => k == j || o.after.any fun e => Region.binds md e && e.on == k
theorem finB_not {md : Region.Mode} {ops : Array Oper} {i j : Nat} {listed : Array Bool} (hj : j ∈ Region.ready md ops listed) (hi : i ∈ Region.ready md ops listed) (hji : j ≠ i) : finB md ops j = false := by
  obtain ⟨hjun, oj, hoj, hall⟩ := mem_ready.1 hj
  obtain ⟨hiun, oi, hoi, _⟩ := mem_ready.1 hi
  cases h : finB md ops j with
  | false => rfl
  | true =>
    simp only [finB, hoj, List.all_eq_true, List.mem_range] at h
    have h1 := h i (Array.getElem?_eq_some_iff.1 hoi).1
    simp only [Bool.or_eq_true, beq_iff_eq, show i ≠ j from fun e => hji e.symm, false_or] at h1
    obtain ⟨e, he, hb⟩ := Array.any_eq_true'.1 h1
    simp only [Bool.and_eq_true, beq_iff_eq] at hb
    have h2 := hall e he hb.1
    rw [hb.2] at h2
    rcases Nat.lt_or_ge i listed.size with h' | h'
    · simp [h'] at hiun h2; rw [h2] at hiun; cases hiun
    · simp [Array.getElem?_eq_none h'] at h2

/-- whatever order is picked, behind each operation the world is of the class -/
def anyC (P : Program) (md : Region.Mode) (ops : Array Oper) (C : World → Prop) (Q : Act → World → Prop) : Nat → Array Bool → Act → World → Prop
  | 0, listed, a, w => Region.ready md ops listed = [] ∧ Q a w
  | fuel + 1, listed, a, w =>
    (Region.ready md ops listed = [] → Q a w) ∧
    ∀ i ∈ Region.ready md ops listed, sOp P ops i (fun a' w' => (finB md ops i = false → C w') ∧ anyC P md ops C Q fuel (listed.setIfInBounds i true) a' w') a w

theorem anyC_first {md : Region.Mode} {Q : Act → World → Prop} {i : Nat} {oi : Oper} {v : Value} (hi : ops[i]? = some oi) (hsel : ∀ (j : Nat) (o : Oper) cs b, ops[j]? = some o → o.op ≠ .select cs b) :
    ∀ (fuel : Nat) (listed : Array Bool) (a : Act) (w : World),
      (∀ j oj, ops[j]? = some oj → j ≠ i → listed.getD j true = false → (∀ e ∈ oj.after, Region.binds md e = true → e.on ≠ i) → oi.apart ops oj = true) →
      i ∈ Region.ready md ops listed → Quiet P ops C oi v a → C w →
      anyC P md ops C Q fuel (listed.setIfInBounds i true) (a.put oi.dst v) w → anyC P md ops C Q (fuel + 1) listed a w := by
  intro fuel
  induction fuel with
  | zero =>
    intro listed a w _ hr hy hC H
    refine ⟨fun h => (by rw [h] at hr; cases hr), fun j hj => ?_⟩
    by_cases hji : j = i
    · subst hji; exact hy.sOp hi hC ⟨fun _ => hC, H⟩
    · have := ready_mono hj hji
      rw [H.1] at this
      cases this
  | succ fuel ih =>
    intro listed a w hfree hr hy hC H
    refine ⟨fun h => (by rw [h] at hr; cases hr), fun j hj => ?_⟩
    by_cases hji : j = i
    · subst hji; exact hy.sOp hi hC ⟨fun _ => hC, H⟩
    · have h1 := H.2 j (ready_mono hj hji)
      obtain ⟨hjun, oj, hoj, hall⟩ := mem_ready.1 hj
      have hnot : ∀ e ∈ oj.after, Region.binds md e = true → e.on ≠ i := fun e he hb heq => by
        have h1 := hall e he hb
        have h0 := (mem_ready.1 hr).1
        rw [heq] at h1
        rcases Nat.lt_or_ge i listed.size with h' | h'
        · simp [h'] at h0 h1; rw [h0] at h1; cases h1
        · simp [Array.getElem?_eq_none h'] at h1
      have h2 := sOp_put hoj (hfree j oj hoj hji hjun hnot) (fun cs b => hsel i oi cs b hi) (fun cs b => hsel j oj cs b hoj) hy h1
      have hfree' : ∀ k ok, ops[k]? = some ok → k ≠ i → (listed.setIfInBounds j true).getD k true = false →
          (∀ e ∈ ok.after, Region.binds md e = true → e.on ≠ i) → oi.apart ops ok = true := fun k ok hk hki hun hno => by
        refine hfree k ok hk hki ?_ hno
        by_cases hjk : j = k
        · subst hjk; exact hjun
        · rw [getD_set_ne true hjk] at hun; exact hun
      have hfin := finB_not hj hr hji
      refine sOp_mono (fun a' w' h3 => ⟨h3.2.1, ih (listed.setIfInBounds j true) a' w' hfree' (ready_mono hr (Ne.symm hji)) h3.1 (h3.2.1 hfin) ?_⟩) h2
      rw [Array.setIfInBounds_comm _ _ hji]
      exact h3.2.2

theorem anyC_plain {md : Region.Mode} {Q : Act → World → Prop} {Q' : Exit → Act → World → Prop} (hQ : ∀ a w, Q a w → Q' .normal a w) : ∀ (fuel : Nat) (listed : Array Bool) (a : Act) (w : World),
    anyC P md ops C Q fuel listed a w → wpAny P md ops Q' fuel listed a w
  | 0, _, _, _, h => ⟨h.1, hQ _ _ h.2⟩
  | fuel + 1, listed, a, w, h => ⟨fun h0 => hQ _ _ (h.1 h0), fun i hi => by
      have h1 := sOp_mono (fun a' w' h3 => anyC_plain hQ fuel _ a' w' h3.2) (h.2 i hi)
      unfold sOp at h1
      unfold wpOp
      split
      · rename_i ho; simpa only [ho] using h1
      · rename_i o ho
        simp only [ho] at h1
        split
        · rename_i hw; simp only [hw, if_true] at h1; exact .inl h1.wp
        · rename_i hw; simp only [hw] at h1; exact h1⟩
theorem anyC_in {md : Region.Mode} {Q : Act → World → Prop} {Q' : Exit → Act → World → Prop} (l n : Nat) (hd : ∀ (j : Nat) (o : Oper) c, ops[j]? = some o → o.op ≠ .defer c) (hQ : ∀ a w, Q a w → Q' .normal a w) : ∀ (fuel : Nat) (listed : Array Bool) (a : Act) (w : World),
    anyC P md ops C Q fuel listed a w → wpAnyIn (Fence.wide.inRound l) n P md ops Q' fuel listed a w
  | 0, _, _, _, h => ⟨h.1, hQ _ _ h.2⟩
  | fuel + 1, listed, a, w, h => ⟨fun h0 => hQ _ _ (h.1 h0), fun i hi => by
      have h1 := sOp_mono (fun a' w' h3 => anyC_in l n hd hQ fuel _ a' w' h3.2) (h.2 i hi)
      unfold sOp at h1
      unfold wpOpIn
      split
      · rename_i ho; simpa only [ho] using h1
      · rename_i o ho
        simp only [ho] at h1
        split
        · rename_i hw; simp only [hw, if_true] at h1; exact h1.wpIn l n (fun c => hd i o c ho)
        · rename_i hw; simp only [hw] at h1; exact ⟨fun _ _ => trivial, h1⟩⟩

/-- one order: what only reads (true), what does something (false) -/
def lexW (P : Program) (ops : Array Oper) (C : World → Prop) (Q : Act → World → Prop) : List (Nat × Bool) → Act → World → Prop
  | [], a, w => Q a w
  | (i, true) :: r, a, w => ∃ o, ops[i]? = some o ∧ ∃ v, Quiet P ops C o v a ∧ lexW P ops C Q r (a.put o.dst v) w
  | (i, false) :: r, a, w => sOp P ops i (fun a' w' => (r ≠ [] → C w') ∧ lexW P ops C Q r a' w') a w
def lexOk (ops : Array Oper) : List (Nat × Bool) → Array Bool → Bool
  | [], listed => Region.ready .any ops listed == []
  | (i, true) :: r, listed => (Region.ready .any ops listed).contains i && Region.free .any ops listed i && lexOk ops r (listed.setIfInBounds i true)
  | (i, false) :: r, listed => Region.ready .any ops listed == [i] && (!r.isEmpty || finB .any ops i) && lexOk ops r (listed.setIfInBounds i true)
theorem anyC_lex {Q : Act → World → Prop} (hs : Region.noSelect ops = true) : ∀ (r : List (Nat × Bool)) (listed : Array Bool) (a : Act) (w : World), lexOk ops r listed = true → C w →
    lexW P ops C Q r a w → anyC P .any ops C Q r.length listed a w
  | [], _, _, _, hB, _, h => ⟨by simpa [lexOk] using hB, h⟩
  | (i, true) :: r, listed, a, w, hB, hC, h => by
    simp only [lexOk, Bool.and_eq_true] at hB
    obtain ⟨⟨hr, hf⟩, hB'⟩ := hB
    obtain ⟨o, ho, v, hq, h'⟩ := h
    exact anyC_first ho (Region.noSelect_spec hs) r.length listed a w (Region.free_spec ho hf) (by simpa using hr) hq hC (anyC_lex hs r _ _ _ hB' hC h')
  | (i, false) :: r, listed, a, w, hB, hC, h => by
    simp only [lexOk, Bool.and_eq_true, beq_iff_eq] at hB
    obtain ⟨⟨hr, hf⟩, hB'⟩ := hB
    refine ⟨fun h0 => (by rw [hr] at h0; cases h0), fun j hj => ?_⟩
    rw [hr, List.mem_singleton] at hj
    subst hj
    refine sOp_mono (fun a' w' h3 => ?_) h
    cases r with
    | nil =>
      simp at hf
      exact ⟨fun h4 => (by rw [hf] at h4; cases h4), by simpa [lexOk] using hB', h3.2⟩
    | cons x r => exact ⟨fun _ => h3.1 (by simp), anyC_lex hs _ _ _ _ hB' (h3.1 (by simp)) h3.2⟩
def lexAll (ops : Array Oper) (r : List (Nat × Bool)) : Bool :=
  Region.noSelect ops && r.length == ops.size && lexOk ops r (Array.replicate ops.size false) && ops.all fun o => match o.op with | .defer _ => false | _ => true

theorem lex_quiet {opl : List Oper} {Q : Act → World → Prop} {i : Nat} {r : List (Nat × Bool)} {a : Act} {w : World} {o : Oper} (v : Value) (ho' : opl[i]? = some o) (hg : Region.wanted o (yielded opl.toArray a.tmps) = true)
    (hq : ∀ w, C w → (execOp a.eval o).run P w = .ok (.value v) w) (hk : lexW P opl.toArray C Q r (a.put o.dst v) w) : lexW P opl.toArray C Q ((i, true) :: r) a w :=
  have ho : opl.toArray[i]? = some o := by simpa using ho'
  ⟨o, ho, v, .inl ⟨hg, fun w hw => .inl (hq w hw)⟩, hk⟩
theorem lex_skip {opl : List Oper} {Q : Act → World → Prop} {i : Nat} {r : List (Nat × Bool)} {a : Act} {w : World} {o : Oper} (ho' : opl[i]? = some o) (hg : Region.wanted o (yielded opl.toArray a.tmps) = false)
    (hk : lexW P opl.toArray C Q r (a.put o.dst undef) w) : lexW P opl.toArray C Q ((i, true) :: r) a w :=
  have ho : opl.toArray[i]? = some o := by simpa using ho'
  ⟨o, ho, undef, .inr ⟨hg, rfl⟩, hk⟩
theorem lex_eff {opl : List Oper} {Q : Act → World → Prop} {i : Nat} {r : List (Nat × Bool)} {a : Act} {w w' : World} {o : Oper} (v : Value) (ho' : opl[i]? = some o) (hg : Region.wanted o (yielded opl.toArray a.tmps) = true)
    (hq : (execOp a.eval o).run P w = .ok (.value v) w') (hC : r ≠ [] → C w') (hk : lexW P opl.toArray C Q r (a.put o.dst v) w') : lexW P opl.toArray C Q ((i, false) :: r) a w := by
  have ho : opl.toArray[i]? = some o := by simpa using ho'
  show sOp P opl.toArray i _ a w
  unfold sOp
  simp only [ho, hg, if_true]
  unfold StepTo
  rw [hq]
  exact ⟨hC, hk⟩
theorem lex_eff0 {opl : List Oper} {Q : Act → World → Prop} {i : Nat} {r : List (Nat × Bool)} {a : Act} {w w' : World} {o : Oper} (ho' : opl[i]? = some o) (hg : Region.wanted o (yielded opl.toArray a.tmps) = true)
    (hq : (execOp a.eval o).run P w = .ok .skip w') (hC : r ≠ [] → C w') (hk : lexW P opl.toArray C Q r (a.put o.dst undef) w') : lexW P opl.toArray C Q ((i, false) :: r) a w := by
  have ho : opl.toArray[i]? = some o := by simpa using ho'
  show sOp P opl.toArray i _ a w
  unfold sOp
  simp only [ho, hg, if_true]
  unfold StepTo
  rw [hq]
  exact ⟨hC, hk⟩
theorem lex_call {opl : List Oper} {Q : Act → World → Prop} {i : Nat} {r : List (Nat × Bool)} {a : Act} {w w' : World} {o : Oper} {f : FuncId} {args : Array Value} (ho' : opl[i]? = some o) (hg : Region.wanted o (yielded opl.toArray a.tmps) = true)
    (hq : (execOp a.eval o).run P w = .ok (.enter f args) w') (hc : Calls P f args w' fun e w'' => ∃ v, e = .returned v ∧ (r ≠ [] → C w'') ∧ lexW P opl.toArray C Q r (a.put o.dst v) w'') : lexW P opl.toArray C Q ((i, false) :: r) a w := by
  have ho : opl.toArray[i]? = some o := by simpa using ho'
  show sOp P opl.toArray i _ a w
  unfold sOp
  simp only [ho, hg, if_true]
  unfold StepTo
  rw [hq]
  exact hc
theorem lex_append {opl : List Oper} {Q : Act → World → Prop} {α : Type} {d : Kd α} {i : Nat} {r : List (Nat × Bool)} {a : Act} {w : World} {o : Oper} (ho' : opl[i]? = some o) (hg : Region.wanted o (yielded opl.toArray a.tmps) = true) (s x : Operand) (t : TypeId) {e : TypeId} {bytes : Nat}
    (hop : o.op = .call { callee := .builtin .append, args := #[s, x], argTypes := #[t, t] })
    {S : List Nat} {v xv : Value} {xs ys : List α} (he : EI P t e d.sz bytes) (hs : a.eval s = v) (h : SlR d e w S v xs) (hxv : a.eval x = xv) (news : List Value) (Sy : List (List Nat))
    (hy : Elems d w Sy news ys) (hl : news.length = ys.length * d.sz) (h1 : ∀ u ∈ news, u.oneCell' = true) (hx : Src w xv ys.length news) (hdis : ∀ k ∈ Sy.flatten, k ∉ S)
    (h63 : xs.length + ys.length ≤ maxLen) (hb : (xs.length + ys.length) * bytes ≤ 140737488355328)
    (hk : ∀ v' w' S', SlR d e w' S' v' (xs ++ ys) → Ext S w w' → (∀ k ∈ S', k ∈ S ∨ k = w.heap.size ∨ k ∈ Sy.flatten) → (S.Nodup → Sy.flatten.Nodup → S'.Nodup) → (r ≠ [] → C w') ∧ lexW P opl.toArray C Q r (a.put o.dst v') w') :
    lexW P opl.toArray C Q ((i, false) :: r) a w := by
  obtain ⟨v', w', S', hr, h2, h3, h4, h5⟩ := run_append_sl (ty := o.type) he h xv news Sy hy hl h1 hx hdis h63 hb
  have := hk v' w' S' h2 h3 h4 h5
  refine lex_eff v' ho' hg ?_ this.1 this.2
  unfold execOp
  simp only [hop, resolve, invoke, builtin, Sem.run_bind, Sem.run_pure, Result.andThen_ok, List.map_toArray, List.map_cons, List.map_nil, hs, hxv, hr]

/-- the region, in whatever order -/
theorem wp_region_lex {id : Nat} {Q : Exit → Act → World → Prop} {a : Act} {w : World} (C : World → Prop) (r : List (Nat × Bool)) (hm : P.follows .mixedOrders = true) (hB : lexAll ops r = true) (hC : C w.drew)
    (h : lexW P ops C (Q .normal) r a w.drew) : (Code.region id ops true).wp P Q a w := by
  simp only [lexAll, Bool.and_eq_true, beq_iff_eq] at hB
  refine wp_region_any hm ?_
  have := anyC_lex hB.1.1.1 r _ a w.drew hB.1.2 hC h
  rw [hB.1.1.2] at this
  exact anyC_plain (fun _ _ h => h) _ _ _ _ this
theorem wpIn_region_lex {id : Nat} {Q : Exit → Act → World → Prop} {a : Act} {w : World} {l n : Nat} (C : World → Prop) (r : List (Nat × Bool)) (hm : P.follows .mixedOrders = true) (hB : lexAll ops r = true) (hC : C w.drew)
    (h : lexW P ops C (Q .normal) r a w.drew) : (Code.region id ops true).wpIn (Fence.wide.inRound l) n P Q a w := by
  simp only [lexAll, Bool.and_eq_true, beq_iff_eq] at hB
  refine wpIn_region_any hm ?_
  have := anyC_lex hB.1.1.1 r _ a w.drew hB.1.2 hC h
  rw [hB.1.1.2] at this
  refine anyC_in l n (fun j o c ho heq => ?_) (fun _ _ h => h) _ _ _ _ this
  have := Array.all_eq_true_iff_forall_mem.1 hB.2 o (Array.mem_of_getElem? ho)
  simp [heq] at this
end
end Go.Proofs.Ytkmgbejhbkbaoaa

/- A range over a function, where the body writes into what it owns: the blocks that it owns are told at each round. -/
namespace Go.Proofs.Ytkmgbejhbkbaoaa
set_option linter.unusedSimpArgs false
set_option linter.unusedVariables false
open Go.RowKit

theorem Ext.putObj {M : List Nat} {a b : World} (h : Ext M a b) {l : Nat} (hl : l ∈ M ∨ a.heap.size ≤ l) (o : Obj) : Ext M a (b.putObj l o) :=
  ⟨h.os, h.tape, h.output, by have := h.size; simp [World.putObj]; omega, fun k hk hn =>
    (World.putObj_heap_other (by rintro rfl; rcases hl with h1 | h1; exact hn h1; omega)).trans (h.block k hk hn)⟩

/-- behind a round or a call: the footprint has grown by new blocks alone -/
def FpStep (S : List Nat) (W W' : World) (S' : List Nat) : Prop := Ext S W W' ∧ ∀ k ∈ S', k ∈ S ∨ W.heap.size ≤ k
theorem FpStep.trans {S S1 S2 : List Nat} {A B C : World} (h : FpStep S A B S1) (k : FpStep S1 B C S2) : FpStep S A C S2 :=
  ⟨h.1.trans k.1 h.2, fun x hx => by
    rcases k.2 x hx with h1 | h1
    · exact h.2 x h1
    · exact .inr (Nat.le_trans h.1.size h1)⟩
theorem FpStep.refl (S : List Nat) (W : World) : FpStep S W W S := ⟨Ext.refl _ _, fun _ h => .inl h⟩

/-- an iterator's contract: it hands on xs one by one; between two rounds the caller owns the blocks S, of which the iterator reads none -/
def IterFp {α : Type} (n : Nat) (P : Program) (gf : Nat) (lb : Array Value) (encs : α → Array Value) (xs : List α) (Sg : List Nat) (w : World) : Prop :=
  ∀ (l : Nat) (T Tx : List α → List Nat → World → Prop) (So : List Nat) (W : World), Ext [] w W →
    (∀ pre S A B, T pre S A → Ext [] A B → T pre S B) →
    (∀ pre x S W1, T pre S W1 → pre ++ [x] <+: xs → (∀ k ∈ S, k < W1.heap.size) → YieldAt Fence.wide (n - 1) P l (encs x) W1 fun e W' =>
      ∃ S', FpStep S W1 W' S' ∧ (∀ k ∈ S', k < W'.heap.size) ∧ ((e = .returned (.bool true) ∧ T (pre ++ [x]) S' W') ∨ (e = .returned (.bool false) ∧ Tx (pre ++ [x]) S' W'))) →
    T [] So W → (∀ k ∈ So, k ∉ Sg ∧ k < W.heap.size) →
    CallsIn Fence.wide n P gf (#[.func (.yield l) #[] #[]] ++ lb) W fun e W' => (∃ v, e = .returned v) ∧ ∃ S', FpStep So W W' S' ∧ (T xs S' W' ∨ ∃ pre, pre <+: xs ∧ Tx pre S' W')

/-- how the body of a round may be left -/
def fpPost {α : Type} (T : List α → List Nat → World → Prop) (Tx : Code → List α → List Nat → World → Prop) (xs : List α) (S : List Nat) (W : World) : Exit → Act → World → Prop
  | .normal, _, W' => ∃ S', FpStep S W W' S' ∧ (∀ k ∈ S', k < W'.heap.size) ∧ T xs S' W'
  | .ret, _, W' => ∃ S', FpStep S W W' S' ∧ (∀ k ∈ S', k < W'.heap.size) ∧ Tx .ret xs S' W'
  | .exit id, _, W' => ∃ S', FpStep S W W' S' ∧ (∀ k ∈ S', k < W'.heap.size) ∧ Tx (.exit id) xs S' W'
  | .goto t, _, W' => ∃ S', FpStep S W W' S' ∧ (∀ k ∈ S', k < W'.heap.size) ∧ Tx (.goto t) xs S' W'
  | .panic _, _, _ => False
  | .outgrown, _, _ => False

theorem wpIn_range_fp {α : Type} {n : Nat} {P : Program} {g : Operand} {ps : Array Tmp} {assign body : Code} {Q : Exit → Act → World → Prop} {a : Act} {w : World}
    {gf : Nat} {lb : Array Value} (hg : a.eval g = .func (.func gf) #[] lb) (eg : ∀ args w, (callFunc gf args).run P w = .ok (.enter gf args) w)
    {encs : α → Array Value} {xs : List α} {Sg : List Nat} {w0 : World} (hseq : IterFp (n - 1) P gf lb encs xs Sg w0) (hb0 : Ext [] w0 w) (hps : ∀ x, (encs x).size = ps.size)
    (T : List α → List Nat → World → Prop) (Tx : Code → List α → List Nat → World → Prop) (So : List Nat)
    (hT : ∀ pre S M A B, T pre S A → Ext M A B → (∀ k ∈ M, k ∉ S ∧ w.heap.size ≤ k) → T pre S B)
    (hTx : ∀ c pre S M A B, Tx c pre S A → Ext M A B → (∀ k ∈ M, k ∉ S ∧ w.heap.size ≤ k) → Tx c pre S B)
    (h0 : T [] So w) (hSo : ∀ k ∈ So, k ∉ Sg ∧ k < w.heap.size) (hSg : ∀ k ∈ Sg, k < w.heap.size) (a₁ : α → Act)
    (hassign : ∀ (l : Nat) (x : α) (W : World) (K : Act → World → Prop), K (a₁ x) W →
      assign.wpIn (Fence.wide.inRound l) (n - 1 - 1) P (Exit.then K (fun _ _ _ => False)) { tmps := (ps.zip (encs x)).foldl (fun t (p, v) => t.setIfInBounds p v) a.tmps, defers := [] } W)
    (hbody : ∀ (l : Nat) (pre : List α) (x : α) (S : List Nat) (W : World), T pre S W → pre ++ [x] <+: xs → (∀ k ∈ S, k < W.heap.size) → w.heap.size < W.heap.size →
      body.wpIn (Fence.wide.inRound l) (n - 1 - 1) P (fpPost T Tx (pre ++ [x]) S W) (a₁ x) W)
    (hdone : ∀ (D : Nat) (S : List Nat) (W : World), w.heap.size ≤ D → D ∉ S → T xs S W → FpStep So w W S → W.heap[D]? = some (.deferred (some [])) →
      Q .normal { a with defers := { target := .collected D, args := #[] } :: a.defers } W)
    (hstop : ∀ (D : Nat) (c : Code) (pre : List α) (S : List Nat) (W : World), w.heap.size ≤ D → D ∉ S → pre <+: xs → Tx c pre S W → FpStep So w W S → W.heap[D]? = some (.deferred (some [])) →
      c.wpIn Fence.wide n P Q { a with defers := { target := .collected D, args := #[] } :: a.defers } W) :
    (Code.rangeFunc g ps assign body).wpIn Fence.wide n P Q a w := by
  refine wpIn_rangeFunc ?_
  intro fn hfn
  obtain ⟨rec, hrec⟩ : ∃ rec : LoopState → Option Code → Loop, rec = fun st pe => { state := st, pending := pe, fn, tmps := a.tmps, params := ps, assign, body, defers := w.heap.size } := ⟨_, rfl⟩
  obtain ⟨W1, hW1⟩ : ∃ W1, (w.alloc (.deferred (some []))).alloc (.loop (rec .ready none)) = W1 := ⟨_, rfl⟩
  have hL1 : W1.heap[w.heap.size + 1]? = some (.loop (rec .ready none)) := by
    rw [← hW1]; have := World.alloc_heap_new (w.alloc (.deferred (some []))) (.loop (rec .ready none)); rwa [World.size_alloc] at this
  have hK1 : W1.heap[w.heap.size]? = some (.deferred (some [])) := by
    rw [← hW1]; exact (Below.heap_alloc _ _ _ (by simp)).trans (World.alloc_heap_new w _)
  have hx1 : Ext [] w W1 := by rw [← hW1]; exact ((Ext.refl _ _).alloc _).alloc _
  have hsz1 : W1.heap.size = w.heap.size + 2 := by rw [← hW1]; simp
  refine ⟨w.heap.size + 1, [{ target := .collected w.heap.size, args := #[] }], W1, { target := .fn (.func gf) lb, args := #[.func (.yield (w.heap.size + 1)) #[] #[]] }, W1, gf,
    #[.func (.yield (w.heap.size + 1)) #[] #[]] ++ lb, W1, ?_, ?_, ?_, ?_, fun h => (by simp [Fence.wide] at h), ?_⟩
  · rw [← hW1, hrec]; exact run_enterLoop_outer _ _ _ _ _
  · simp only [resolve, hg]
    simp [go_sem]
  · intro f' _; trivial
  · simp [invoke, go_sem, eg]
  · let T' : List α → List Nat → World → Prop := fun pre S W => ∃ S0, S = (w.heap.size + 1) :: S0 ∧ (∀ k ∈ S0, k ≠ w.heap.size ∧ k ≠ w.heap.size + 1) ∧ T pre S0 W ∧ FpStep So w W S0 ∧
      W.heap[w.heap.size + 1]? = some (.loop (rec .ready none)) ∧ W.heap[w.heap.size]? = some (.deferred (some []))
    let Tx' : List α → List Nat → World → Prop := fun pre S W => ∃ S0 c, S = (w.heap.size + 1) :: S0 ∧ (∀ k ∈ S0, k ≠ w.heap.size ∧ k ≠ w.heap.size + 1) ∧ Tx c pre S0 W ∧ FpStep So w W S0 ∧
      W.heap[w.heap.size + 1]? = some (.loop (rec .done (some c))) ∧ W.heap[w.heap.size]? = some (.deferred (some []))
    refine (hseq (w.heap.size + 1) T' Tx' ((w.heap.size + 1) :: So) W1 (hb0.trans hx1 (by simp)) ?_ ?_ ?_ ?_).mono ?_
    · rintro pre S A B ⟨S0, hS, hk, ht, hfs, hl, hd⟩ hx
      have l1 := (Array.getElem?_eq_some_iff.1 hl).1
      have l2 := (Array.getElem?_eq_some_iff.1 hd).1
      exact ⟨S0, hS, hk, hT _ _ _ _ _ ht hx (by simp), ⟨hfs.1.nil hx, hfs.2⟩, (hx.block _ l1 (by simp)).trans hl, (hx.block _ l2 (by simp)).trans hd⟩
    · -- one round
      rintro pre x S W ⟨S0, rfl, hne, ht, hfs, hl, hk⟩ hpre hlt
      have hlt1 : w.heap.size + 1 < W.heap.size := (Array.getElem?_eq_some_iff.1 hl).1
      have hnl : w.heap.size + 1 ∉ S0 := fun h => (hne _ h).2 rfl
      have hnd : w.heap.size ∉ S0 := fun h => (hne _ h).1 rfl
      have hy := run_yield (P := P) (args := encs x) hl (by rw [hrec]; exact hps x)
      rw [hrec] at hy
      refine ⟨fn, _, assign, body, hy, roundIn_of_wpIn hfn (hassign _ x W _ ⟨_, run_beginRound hl (by rw [hrec]), ?_⟩)⟩
      obtain ⟨WB, hWB⟩ : ∃ WB, W.putObj (w.heap.size + 1) (.loop { rec .ready none with state := .busy }) = WB := ⟨_, rfl⟩
      rw [hWB]
      have hxB : Ext [w.heap.size + 1] W WB := by rw [← hWB]; exact (Ext.refl _ _).putObj (.inl (by simp)) _
      have hszB : WB.heap.size = W.heap.size := by rw [← hWB]; simp [World.putObj]
      have hl2 : WB.heap[w.heap.size + 1]? = some (.loop { rec .ready none with state := .busy }) := by rw [← hWB]; exact World.putObj_heap_same hlt1
      have hk2 : WB.heap[w.heap.size]? = some (.deferred (some [])) := by rw [← hWB]; exact (World.putObj_heap_other (by omega)).trans hk
      have htB : T pre S0 WB := hT _ _ _ _ _ ht hxB (by simpa using hnl)
      refine wpIn_mono (hbody _ pre x S0 WB htB hpre (fun k hk => by have := hlt k (by simp [hk]); omega) (by omega)) ?_
      have fin : ∀ (jump : Option Code) (W3 : World) (S3 : List Nat), FpStep S0 WB W3 S3 → (∀ k ∈ S3, k < W3.heap.size) →
          (Instr.endRound (w.heap.size + 1) jump).run P W3 = .ok (.bool jump.isNone) (W3.putObj (w.heap.size + 1) (.loop (rec (if jump.isNone then .ready else .done) jump))) ∧
          (W3.putObj (w.heap.size + 1) (.loop (rec (if jump.isNone then .ready else .done) jump))).heap[w.heap.size + 1]? = some (.loop (rec (if jump.isNone then .ready else .done) jump)) ∧
          (W3.putObj (w.heap.size + 1) (.loop (rec (if jump.isNone then .ready else .done) jump))).heap[w.heap.size]? = some (.deferred (some [])) ∧
          Ext [w.heap.size + 1] W3 (W3.putObj (w.heap.size + 1) (.loop (rec (if jump.isNone then .ready else .done) jump))) ∧ (∀ k ∈ S3, k ≠ w.heap.size ∧ k ≠ w.heap.size + 1) ∧
          FpStep ((w.heap.size + 1) :: S0) W (W3.putObj (w.heap.size + 1) (.loop (rec (if jump.isNone then .ready else .done) jump))) ((w.heap.size + 1) :: S3) ∧
          FpStep So w (W3.putObj (w.heap.size + 1) (.loop (rec (if jump.isNone then .ready else .done) jump))) S3 ∧
          (∀ k ∈ (w.heap.size + 1) :: S3, k < (W3.putObj (w.heap.size + 1) (.loop (rec (if jump.isNone then .ready else .done) jump))).heap.size) := fun jump W3 S3 hfp hS3 => by
        have hl3 := (hfp.1.block _ (by omega) hnl).trans hl2
        have hk3 := (hfp.1.block _ (by omega) hnd).trans hk2
        have e1 := run_endRound (P := P) jump hl3
        rw [hrec] at e1
        have hP : Ext [w.heap.size + 1] W3 (W3.putObj (w.heap.size + 1) (.loop (rec (if jump.isNone then .ready else .done) jump))) := (Ext.refl _ _).putObj (.inl (by simp)) _
        have hn3 : ∀ k ∈ S3, k ≠ w.heap.size ∧ k ≠ w.heap.size + 1 := fun k hk => by
          rcases hfp.2 k hk with h1 | h1
          · exact hne k h1
          · omega
        have hs3 : W3.heap.size = (W3.putObj (w.heap.size + 1) (.loop (rec (if jump.isNone then .ready else .done) jump))).heap.size := by simp [World.putObj]
        have hss := hfp.1.size
        refine ⟨by rw [hrec]; exact e1, World.putObj_heap_same (Array.getElem?_eq_some_iff.1 hl3).1, (World.putObj_heap_other (by omega)).trans hk3, hP, hn3, ⟨?_, ?_⟩, ⟨?_, ?_⟩, ?_⟩
        · refine ((hxB.mono (by simp)).trans hfp.1 fun k hk => .inl (by simp [hk])).trans hP fun k hk => .inl (by simp at hk; simp [hk])
        · intro k hk
          rcases List.mem_cons.1 hk with rfl | hk
          · exact .inl (by simp)
          · rcases hfp.2 k hk with h1 | h1
            · exact .inl (by simp [h1])
            · exact .inr (by omega)
        · exact ((hfs.1.trans hxB fun k hk => .inr (by simp at hk; omega)).trans hfp.1 hfs.2).trans hP fun k hk => .inr (by simp at hk; omega)
        · intro k hk
          rcases hfp.2 k hk with h1 | h1
          · exact hfs.2 k h1
          · have := hfs.1.size; exact .inr (by omega)
        · intro k hk
          rw [← hs3]
          rcases List.mem_cons.1 hk with rfl | hk
          · omega
          · exact hS3 k hk
      rintro e a3 W3 hp
      cases e with
      | normal =>
        obtain ⟨S3, hfp, hS3, ht3⟩ := hp
        obtain ⟨hr, hl4, hk4, hP, hn3, hst, hso3, hlt3⟩ := fin none W3 S3 hfp hS3
        exact ⟨_, _, hr, _, hst, hlt3, .inl ⟨rfl, S3, rfl, hn3, hT _ _ _ _ _ ht3 hP (by simpa using fun h => (hn3 _ h).2 rfl), hso3, hl4, hk4⟩⟩
      | ret =>
        obtain ⟨S3, hfp, hS3, ht3⟩ := hp
        obtain ⟨hr, hl4, hk4, hP, hn3, hst, hso3, hlt3⟩ := fin (some .ret) W3 S3 hfp hS3
        exact ⟨_, _, hr, _, hst, hlt3, .inr ⟨rfl, S3, .ret, rfl, hn3, hTx _ _ _ _ _ _ ht3 hP (by simpa using fun h => (hn3 _ h).2 rfl), hso3, hl4, hk4⟩⟩
      | exit id =>
        obtain ⟨S3, hfp, hS3, ht3⟩ := hp
        obtain ⟨hr, hl4, hk4, hP, hn3, hst, hso3, hlt3⟩ := fin (some (.exit id)) W3 S3 hfp hS3
        exact ⟨_, _, hr, _, hst, hlt3, .inr ⟨rfl, S3, .exit id, rfl, hn3, hTx _ _ _ _ _ _ ht3 hP (by simpa using fun h => (hn3 _ h).2 rfl), hso3, hl4, hk4⟩⟩
      | goto t =>
        obtain ⟨S3, hfp, hS3, ht3⟩ := hp
        obtain ⟨hr, hl4, hk4, hP, hn3, hst, hso3, hlt3⟩ := fin (some (.goto t)) W3 S3 hfp hS3
        exact ⟨_, _, hr, _, hst, hlt3, .inr ⟨rfl, S3, .goto t, rfl, hn3, hTx _ _ _ _ _ _ ht3 hP (by simpa using fun h => (hn3 _ h).2 rfl), hso3, hl4, hk4⟩⟩
      | panic ch => exact hp.elim
      | outgrown => exact hp.elim
    · exact ⟨So, rfl, fun k hk => by have := (hSo k hk).2; omega, hT _ _ _ _ _ h0 hx1 (by simp), ⟨hx1.mono (by simp), fun _ h => .inl h⟩, hL1, hK1⟩
    · intro k hk
      rcases List.mem_cons.1 hk with rfl | hk
      · exact ⟨fun h => by have := hSg _ h; omega, by omega⟩
      · exact ⟨(hSo k hk).1, by have := (hSo k hk).2; omega⟩
    · -- behind the iterator
      rintro e W2 ⟨⟨v, rfl⟩, S', hfp, (⟨S0, rfl, hne, ht, hfs, hl, hk⟩ | ⟨pre, hpre, S0, c, rfl, hne, ht, hfs, hl, hk⟩)⟩
      all_goals
        have hM : ∀ k ∈ [w.heap.size + 1], k ∉ S0 ∧ w.heap.size ≤ k := by
          intro k hk; simp at hk; subst hk; exact ⟨fun h => (hne _ h).2 rfl, by omega⟩
      · refine ⟨none, _, by have := run_endLoop (P := P) hl (by rw [hrec]; simp); rw [hrec] at this; exact this, ?_⟩
        have hxE : Ext [w.heap.size + 1] W2 (W2.putObj (w.heap.size + 1) (.loop { state := .exhausted, pending := none, fn, tmps := a.tmps, params := ps, assign, body, defers := w.heap.size })) := (Ext.refl _ _).putObj (.inl (by simp)) _
        exact hdone _ S0 _ (Nat.le_refl _) (fun h => (hne _ h).1 rfl) (hT _ _ _ _ _ ht hxE hM) ⟨hfs.1.trans hxE fun k hk => .inr (hM k hk).2, hfs.2⟩ ((World.putObj_heap_other (by omega)).trans hk)
      · refine ⟨some c, _, by have := run_endLoop (P := P) hl (by rw [hrec]; simp); rw [hrec] at this; exact this, ?_⟩
        have hxE : Ext [w.heap.size + 1] W2 (W2.putObj (w.heap.size + 1) (.loop { state := .exhausted, pending := some c, fn, tmps := a.tmps, params := ps, assign, body, defers := w.heap.size })) := (Ext.refl _ _).putObj (.inl (by simp)) _
        exact hstop _ c pre S0 _ (Nat.le_refl _) (fun h => (hne _ h).1 rfl) hpre (hTx _ _ _ _ _ _ ht hxE hM) ⟨hfs.1.trans hxE fun k hk => .inr (hM k hk).2, hfs.2⟩ ((World.putObj_heap_other (by omega)).trans hk)

theorem wpListIn_append_sl {α : Type} {d : Kd α} {F : Fence} {n : Nat} {P : Program} {w : World} {ops : Array Oper} {rest : List Oper} {o : Oper} {a : Act} {Q : Exit → Act → World → Prop} {e : TypeId} {bytes : Nat} (hgd : o.guard = none) (s x : Operand) (t : TypeId)
    (ho : o.op = .call { callee := .builtin .append, args := #[s, x], argTypes := #[t, t] })
    {S : List Nat} {v xv : Value} {xs ys : List α} (he : EI P t e d.sz bytes) (hs : a.eval s = v) (h : SlR d e w S v xs) (hxv : a.eval x = xv) (news : List Value) (Sy : List (List Nat))
    (hy : Elems d w Sy news ys) (hl : news.length = ys.length * d.sz) (h1 : ∀ u ∈ news, u.oneCell' = true) (hx : Src w xv ys.length news) (hdis : ∀ k ∈ Sy.flatten, k ∉ S)
    (h63 : xs.length + ys.length ≤ maxLen) (hb : (xs.length + ys.length) * bytes ≤ 140737488355328)
    (hk : ∀ v' w' S', SlR d e w' S' v' (xs ++ ys) → Ext S w w' → (∀ k ∈ S', k ∈ S ∨ k = w.heap.size ∨ k ∈ Sy.flatten) → (S.Nodup → Sy.flatten.Nodup → S'.Nodup) → wpListIn F n P ops Q rest (a.put o.dst v') w') : wpListIn F n P ops Q (o :: rest) a w := by
  refine wpListIn_plain hgd fun _ hK => ?_
  obtain ⟨v', w', S', hr, h2, h3, h4, h5⟩ := run_append_sl (ty := o.type) he h xv news Sy hy hl h1 hx hdis h63 hb
  unfold Oper.wpIn
  refine ⟨?_, ?_⟩
  · simp [Oper.about, ho, resolve, Target.leads, Sem.run_pure]
  · rw [Oper.semAt_plain F _ _ (by rw [ho]; intro c hc'; cases hc')]
    unfold execOp
    simp only [ho, resolve, invoke, builtin, Sem.run_bind, Sem.run_pure, Result.andThen_ok, List.map_toArray, List.map_cons, List.map_nil, hs, hxv, hr]
    exact hK _ _ (hk v' w' S' h2 h3 h4 h5)
end Go.Proofs.Ytkmgbejhbkbaoaa

/- The program's graph: Order. -/
namespace Go.Proofs.Ytkmgbejhbkbaoaa
set_option linter.unusedSimpArgs false
set_option linter.unusedVariables false
open Go.RowKit

/-- what lies in memory while blocks are gone over: from block m on: rows, what is there, the row of what was left, the function itself -/
structure DSt (w : World) (m : Nat) (Sr So : List Nat) (A : Option Addr) (c : Nat) (g : List (List Nat)) (st : DS) (vo : Value) : Prop where
  rb : Blk w m 33 #[.slice A g.length c]
  tb : Blk w (m + 2) 63 #[.slice (some ⟨m + 1, 0, none⟩) g.length g.length]
  ob : Blk w (m + 3) 22 #[vo]
  fb : Blk w (m + 4) 67 #[.func (.func 64) #[] #[.pointer (some ⟨m + 2, 0, none⟩), .pointer (some ⟨m, 0, none⟩), .pointer (some ⟨m + 4, 0, none⟩), .pointer (some ⟨m + 3, 0, none⟩)]]
  out : SlR kNat 3 w So vo st.2
  th : SlR kBool 4 w [m + 1] (.slice (some ⟨m + 1, 0, none⟩) g.length g.length) st.1
  rows : SlR kRow 22 w Sr (.slice A g.length c) g
  hr : ∀ k ∈ Sr, k < m
  ho : ∀ k ∈ So, m + 4 < k
  nd : So.Nodup
  len : st.1.length = g.length
  cnt : st.2.length ≤ st.1.count true
theorem DSt.lt {w : World} {m : Nat} {Sr So : List Nat} {A : Option Addr} {c : Nat} {g : List (List Nat)} {st : DS} {vo : Value} (h : DSt w m Sr So A c g st vo) : m + 4 < w.heap.size := h.fb.lt
theorem DSt.small {w : World} {m : Nat} {Sr So : List Nat} {A : Option Addr} {c : Nat} {g : List (List Nat)} {st : DS} {vo : Value} (h : DSt w m Sr So A c g st vo) : st.2.length ≤ g.length := by
  have := h.cnt; have := List.count_le_length (a := true) (l := st.1); have := h.len; omega

theorem Try.info4 : (Try.prog.info? 4).map (fun i => (i.zero, i.size, i.bytes)) = some (some (.bool false), 1, 1) := by kernel_rfl

set_option maxRecDepth 20000 in
set_option maxHeartbeats 800000 in
theorem over_calls {g : List (List Nat)} (hg : Good g) (hn : g.length ≤ 1073741823) {m : Nat} {Sr : List Nat} {A : Option Addr} {c : Nat} : ∀ (k : Nat) (a : Nat) (st : DS) (So : List Nat) (vo : Value) (w : World),
    DSt w m Sr So A c g st vo → a < g.length → st.1.getD a false = false → st.1.count false ≤ k →
    Calls Try.prog 64 #[.int .i64 (a : Int), .pointer (some ⟨m + 2, 0, none⟩), .pointer (some ⟨m, 0, none⟩), .pointer (some ⟨m + 4, 0, none⟩), .pointer (some ⟨m + 3, 0, none⟩)] w
      fun e w' => ∃ So' vo', e = .returned (.tuple #[]) ∧ DSt w' m Sr So' A c g (dfs g k st a) vo' ∧ FpStep ((m + 1) :: (m + 3) :: So) w w' ((m + 1) :: (m + 3) :: So') := by
  intro k
  induction k with
  | zero =>
    intro a st So vo w h ha hf hc
    have hl := h.len
    have h1 : st.1[a]'(by omega) = false := by simpa [List.getD, show a < st.1.length by omega] using hf
    have h2 : 0 < st.1.count false := List.count_pos_iff.2 (h1 ▸ List.getElem_mem (by omega))
    omega
  | succ k ih =>
    intro a st So vo w h ha hf hc
    have hl := h.len
    have hal : a < st.1.length := by omega
    have hfa : st.1[a] = false := by simpa [List.getD, hal] using hf
    obtain ⟨c1, c2⟩ := count_set_true hal hfa
    have hrows : ∀ row ∈ g, ∀ b ∈ row, b < g.length := fun row hr b hb => (hg row hr).2 b hb
    have d1 := h.tb.cell (i := 0) rfl
    have d2 := h.rb.cell (i := 0) rfl
    obtain ⟨_, _, hv, _, d3, f3⟩ := h.th.cell a hal
    rw [hl] at hv
    cases hv
    have hlt := h.lt
    have hth := h.th.set a hal true
    -- the world behind the first store
    obtain ⟨w1, hw1⟩ : ∃ w1, w1 = w.setCell ⟨m + 1, a, none⟩ (.bool true) := ⟨_, rfl⟩
    have hx1 : Ext [m + 1] w w1 := by rw [hw1]; exact (Ext.refl _ _).setCell (.inl (by simp)) _
    have hfp0 : FpStep ((m + 1) :: (m + 3) :: So) w w1 ((m + 1) :: (m + 3) :: So) := ⟨hx1.mono (by simp), fun _ h => .inl h⟩
    have h1 : DSt w1 m Sr So A c g (st.1.set a true, st.2) vo := by
      refine ⟨h.rb.ext hx1 (by simp), h.tb.ext hx1 (by simp), h.ob.ext hx1 (by simp), h.fb.ext hx1 (by simp), h.out.ext hx1 (fun k hk => by have := h.ho k hk; simp; omega), by rw [hw1]; exact hth,
        h.rows.ext hx1 (fun k hk => by have := h.hr k hk; simp; omega), h.hr, h.ho, h.nd, by rw [List.length_set]; exact hl, by have := h.cnt; simp only; omega⟩
    obtain ⟨gr, k1, Ar, cr, Si, hv, hgr, e1, hrow0, hsub⟩ := row_get h.rows a ha
    cases hv
    have hgrm := h.hr gr hgr
    have hrow := hrow0.ext hx1 (fun k hk => by have := h.hr k (hsub k hk); simp; omega)
    have hgd := hg g[a] (List.getElem_mem ha)
    have hrl : g[a].length ≤ 1073741824 := by
      have : (keptF (g[a].map Int.ofNat) g.length).length ≤ (List.range g.length).length := List.length_filter_le _ _
      rw [kept_same hgd.1 hgd.2, List.length_range] at this; omega
    have hds : Hid (dfs g (k + 1) st a = ((dfsRow g k (st.1.set a true, st.2) g[a]).1, (dfsRow g k (st.1.set a true, st.2) g[a]).2 ++ [a])) := by
      rw [Hid, dfs_succ]; simp [List.getD, ha]
    have hrlt : Hid (∀ b ∈ g[a], b < g.length) := hgd.2
    have hSim : Hid (∀ k ∈ Si, k < m) := fun k hk => h.hr k (hsub k hk)
    generalize g[a] = row at *
    have hcnt1 : Hid ((st.1.set a true).count false ≤ k) := by have := c1; simp only [Hid]; omega
    have hct1 : Hid (st.2.length + 1 ≤ (st.1.set a true).count true) := by have := h.cnt; simp only [Hid]; omega
    have Hih := Lib.hid ih
    have Hl := Lib.hid hl
    have Hrows := Lib.hid hrows
    clear ih hl c1 c2 hf hc hfa hrow0 hth hrows hgd
    go_enter Try.func64, Try.ntmps64
    go_wp2
    rw [← hw1]
    have Hw1 := Lib.hid hw1
    clear hw1 d1 d2 d3 f3 e1
    go_loopg [16] row.length (fun q vi wr => ∃ (i : Nat) (Sn : List Nat) (vn : Value), vi = .int .i64 (i : Int) ∧ i ≤ row.length ∧ Hid (i + q = row.length) ∧ DSt wr m Sr Sn (some ⟨gr, 0, none⟩) c g (dfsRow g k (st.1.set a true, st.2) (row.take i)) vn ∧
      FpStep ((m + 1) :: (m + 3) :: So) w1 wr ((m + 1) :: (m + 3) :: Sn) ∧ SlR kNat 3 wr Si (.slice Ar row.length cr) row)
    case atStart => exact ⟨0, So, vo, rfl, by omega, by simp [Hid], by simpa [dfsRow] using h1, FpStep.refl _ _, hrow⟩
    case round =>
      obtain ⟨i, Sn, vn, rfl, hi, HK, hd, hfp, hr⟩ := hrel
      by_cases hlt2 : i < row.length
      · obtain ⟨gb, capb, hv, hSi, hcj, hfj⟩ := hr.cell i hlt2
        cases hv
        have hsn := dfsRow_snoc g k (st.1.set a true, st.2) (row.take i) row[i]
        rw [← List.take_succ_eq_append_getElem hlt2] at hsn
        have Hsn := Lib.hid hsn
        clear hsn
        have hxlt : row[i] < g.length := hrlt.out _ (List.getElem_mem hlt2)
        generalize row[i] = x at *
        have hxl : x < (dfsRow g k (st.1.set a true, st.2) (row.take i)).1.length := by rw [hd.len]; exact hxlt
        have hcnt : Hid ((dfsRow g k (st.1.set a true, st.2) (row.take i)).1.count false ≤ k) := by
          have := dfsRow_keep g k (row.take i) (st.1.set a true, st.2) (fun b hb => by rw [List.length_set]; rw [Hl.out]; exact hrlt.out b (List.mem_of_mem_take hb)) (fun r hr b hb => by rw [List.length_set, Hl.out]; exact Hrows.out r hr b hb)
          exact Nat.le_trans this.cnt hcnt1.out
        generalize hst : dfsRow g k (st.1.set a true, st.2) (row.take i) = sn at *
        have Hst := Lib.hid hst
        clear hst
        obtain ⟨_, _, hv, _, d3, f3⟩ := hd.th.cell x hxl
        rw [hd.len] at hv
        cases hv
        have d1 := hd.tb.cell (i := 0) rfl
        have d4 := hd.fb.cell (i := 0) rfl
        have hdlt := hd.lt
        cases hbx : sn.1[x] with
        | true =>
          have Hb : Hid (dfsRow g k (st.1.set a true, st.2) (row.take (i + 1)) = sn) := by
            rw [Hid, Hsn.out, if_pos (by simpa [List.getD, hxl] using hbx)]
          rw [hbx] at d3
          clear hbx
          go_wp2
          go_roundg (gk - 1)
          case measure => have := HK.out; omega
          case rel => exact ⟨i + 1, Sn, vn, by go_num, by omega, by have := HK.out; simp only [Hid]; omega, by rw [Hb.out]; exact hd, hfp, hr⟩
        | false =>
          have Hb : Hid (dfsRow g k (st.1.set a true, st.2) (row.take (i + 1)) = dfs g k sn x) := by
            rw [Hid, Hsn.out, if_neg (by simpa [List.getD, hxl] using hbx)]
          have hbf : sn.1.getD x false = false := by simpa [List.getD, hxl] using hbx
          rw [hbx] at d3
          have Hbf := Lib.hid hbf
          clear hbx hbf
          go_wp2_with fail
          refine (Hih.out x sn Sn vn wr hd hxlt Hbf.out hcnt.out).mono ?_
          rintro e w2 ⟨S2, vo2, rfl, hd2, hfp2⟩
          go_wp2
          go_roundg (gk - 1)
          case measure => have := HK.out; omega
          case rel =>
            refine ⟨i + 1, S2, vo2, by go_num, by omega, by have := HK.out; simp only [Hid]; omega, by rw [Hb.out]; exact hd2, hfp.trans hfp2, hr.ext hfp2.1 fun k hk h => ?_⟩
            have := hSim.out k hk
            simp at h
            rcases h with h | h | h
            · omega
            · omega
            · have := hd.ho k h; omega
      · have hie : i = row.length := by omega
        subst hie
        rw [List.take_length] at hd
        have hcs : Hid ((dfsRow g k (st.1.set a true, st.2) row).2.length + 1 ≤ (dfsRow g k (st.1.set a true, st.2) row).1.count true) := by
          have := (dfsRow_keep g k row (st.1.set a true, st.2) (fun b hb => by rw [List.length_set]; rw [Hl.out]; exact hrlt.out b hb) (fun r hr b hb => by rw [List.length_set, Hl.out]; exact Hrows.out r hr b hb)).out
          have h2 := hct1.out
          simp only [Hid] at *
          omega
        generalize hst : dfsRow g k (st.1.set a true, st.2) row = sn at *
        have Hst := Lib.hid hst
        clear hst
        have d4 := hd.ob.cell (i := 0) rfl
        have f4 := hd.ob.frozen 0
        have hdlt := hd.lt
        obtain ⟨An, cn, rfl, _⟩ := hd.out.shape
        have hsm : sn.2.length ≤ 1073741824 := by have := hd.small; omega
        go_wp2_with (at_builtin; refine wpList_append_sl (d := kNat) (ys := [a]) rfl (.tmp 29) (.tmp 31) 22 rfl ei_int rfl (hd.out.ext0 ((Ext.refl _ _).alloc _)) rfl [.int .i64 (a : Int)] [[]] elems_one rfl (one_one rfl) (Src.one rfl) (by simp) (le_maxLen hsm) (le_bytes hsm (by decide)) ?_; intro v' w' S' hs' hx' hf' hn'; obtain ⟨A', c', rfl, _⟩ := hs'.shape; simp only [List.length_append, List.length_cons, List.length_nil, Nat.zero_add] at hs'; have hxx : Ext Sn wr w' := (((Ext.refl [] wr).alloc _).mono (by simp)).same hx'; have b4' := hd.ob.ext hxx (fun hk => by have := hd.ho _ hk; omega); have d5 := b4'.cell (i := 0) rfl; have f5 := b4'.frozen 0)
        go_end0
        have hSn : ∀ k ∈ S', k ∈ Sn ∨ wr.heap.size ≤ k := fun k hk => by
          rcases hf' k hk with h5 | h5 | h5
          · exact .inl h5
          · simp at h5; exact .inr (by omega)
          · simp at h5
        have hSm : ∀ k ∈ S', m + 4 < k := fun k hk => by
          rcases hSn k hk with h5 | h5
          · exact hd.ho k h5
          · omega
        have hxs : Ext ((m + 3) :: Sn) wr (w'.setCell ⟨m + 3, 0, none⟩ (.slice A' (sn.2.length + 1) c')) := (hxx.mono fun k hk => .inl (List.mem_cons_of_mem _ hk)).setCell (.inl (by simp)) _
        have hdis : ∀ j, j ≤ m + 4 → j ≠ m + 3 → j ∉ (m + 3) :: Sn := fun j h1 h2 h3 => by
          rcases List.mem_cons.1 h3 with h4 | h4
          · exact h2 h4
          · have := hd.ho j h4; omega
        refine ⟨S', .slice A' (sn.2.length + 1) c', rfl, ?_, hfp0.trans (hfp.trans ⟨hxs.mono fun k hk => .inl (List.mem_cons_of_mem _ hk), fun k hk => ?_⟩)⟩
        · rw [hds.out]
          exact ⟨hd.rb.ext hxs (hdis _ (by omega) (by omega)), hd.tb.ext hxs (hdis _ (by omega) (by omega)), b4'.set 0 _, hd.fb.ext hxs (hdis _ (by omega) (by omega)),
            hs'.move fun k hk => Below.heap_setCell w' _ _ k (fun h => by have := hSm k hk; simp at h; omega),
            hd.th.ext hxs (fun k hk => by simp at hk; subst hk; exact hdis _ (by omega) (by omega)),
            hd.rows.ext hxs (fun k hk => hdis _ (by have := hd.hr k hk; omega) (by have := hd.hr k hk; omega)), hd.hr, hSm, hn' hd.nd (by simp), hd.len, by simp only [List.length_append, List.length_singleton]; exact hcs.out⟩
        · simp only [List.mem_cons] at hk ⊢
          rcases hk with h5 | h5 | h5
          · exact .inl (.inl h5)
          · exact .inl (.inr (.inl h5))
          · rcases hSn k h5 with h6 | h6
            · exact .inl (.inr (.inr h6))
            · exact .inr h6

set_option maxRecDepth 20000 in
set_option maxHeartbeats 800000 in
theorem order_calls {w : World} {S : List Nat} {v : Value} {g : List (List Nat)} (h : SlR kRow 22 w S v g) (hg : Good g) (hn : g.length ≤ 1073741823) :
    Calls Try.prog 35 #[v] w fun e w' => ∃ v' S', e = .returned v' ∧ SlR kNat 3 w' S' v' (orderF g) ∧ New w w' S' := by
  obtain ⟨A, cap, rfl, hcap⟩ := h.shape
  by_cases h0 : g.length = 0
  · have hb : ((g.length : Int) == 0) = true := by simp [h0]
    have ho : Hid (orderF g = []) := by rw [Hid, orderF, if_pos h0]
    clear h0
    go_enter Try.func35, Try.ntmps35
    go_wp2
    go_ret
    exact ⟨_, [], rfl, by rw [ho.out]; exact SlR.nil _ _ _, New.refl _⟩
  · have hb : ((g.length : Int) == 0) = false := beq_eq_false_iff_ne.2 (by omega)
    have ho : Hid (orderF g = (dfs g g.length (List.replicate g.length false, []) 0).2.reverse) := by rw [Hid, orderF, if_neg h0]
    have hpos : 0 < g.length := by omega
    have hmk := run_make_eq Try.underlying63 Try.info4 rfl g.length g.length (by simp) (by omega) (by decide)
    clear h0
    go_enter Try.func35, Try.ntmps35
    go_wp2_with fail
    refine (clean_calls h hg (by omega)).mono ?_
    rintro e w1 ⟨v1, S1, rfl, hr1, hnew1⟩
    obtain ⟨A1, c1, rfl, _⟩ := hr1.shape
    clear hb
    obtain ⟨m, hm⟩ : ∃ m, w1.heap.size = m := ⟨_, rfl⟩
    have hwm : Hid (w.heap.size ≤ m) := by have := hnew1.ext.size; simp only [Hid]; omega
    go_wp2_with fail
    obtain ⟨W, hW⟩ : ∃ W, ((((w1.alloc (.cells #[.slice A1 g.length c1] 33)).alloc (.cells (madeCells #[.bool false] g.length) 4)).alloc
      (.cells #[.slice (some ⟨m + 1, 0, none⟩) g.length g.length] 63)).alloc (.cells #[.slice none 0 0] 22)).alloc (.cells #[.func (.func 64) #[] #[.pointer (some ⟨m + 1 + 1, 0, none⟩), .pointer (some ⟨m, 0, none⟩), .pointer (some ⟨m + 1 + 1 + 1 + 1, 0, none⟩), .pointer (some ⟨m + 1 + 1 + 1, 0, none⟩)]] 67) = W := ⟨_, rfl⟩
    rw [hW]
    obtain ⟨St, ht1, ht2, ht3⟩ := slr_made (d := kBool) (e := 4) (w := w1.alloc (.cells #[.slice A1 g.length c1] 33)) (zc := #[.bool false]) (x := false) g.length g.length (by simp [kBool, kSc]) (by omega) rfl (by decide) (fun w => ⟨rfl, rfl⟩)
    simp only [World.size_alloc, hm] at ht1 ht2
    have hSt : St = [m + 1] := by
      obtain ⟨g', _, _, hv, _, _, _, _, _, hS, _⟩ := slr_own ht1 (by intro h; have := congrArg List.length h; rw [List.length_replicate, List.length_nil] at this; omega)
      rw [hS] at ht2 ⊢
      rw [ht2 g' (by simp)]
    subst hSt
    have hxW : Ext [] w1 W := by rw [← hW]; exact (((((Ext.refl _ _).alloc _).alloc _).alloc _).alloc _).alloc _
    have hd : DSt W m S1 [] A1 c1 g (List.replicate g.length false, []) (.slice none 0 0) := by
      refine ⟨?_, ?_, ?_, ?_, SlR.nil _ _ _, ?_, hr1.ext0 hxW, fun k hk => by rw [← hm]; exact hr1.lt k hk, by simp, by simp, by simp, by simp⟩
      · rw [← hW, ← hm]; exact ((((Blk.new _ _ _).alloc _).alloc _).alloc _).alloc _
      · have := ((Blk.new ((w1.alloc (.cells #[.slice A1 g.length c1] 33)).alloc (.cells (madeCells #[.bool false] g.length) 4)) #[.slice (some ⟨m + 1, 0, none⟩) g.length g.length] 63).alloc (.cells #[.slice none 0 0] 22)).alloc (.cells #[.func (.func 64) #[] #[.pointer (some ⟨m + 1 + 1, 0, none⟩), .pointer (some ⟨m, 0, none⟩), .pointer (some ⟨m + 1 + 1 + 1 + 1, 0, none⟩), .pointer (some ⟨m + 1 + 1 + 1, 0, none⟩)]] 67)
        rw [hW] at this
        simpa [hm] using this
      · have := (Blk.new (((w1.alloc (.cells #[.slice A1 g.length c1] 33)).alloc (.cells (madeCells #[.bool false] g.length) 4)).alloc (.cells #[.slice (some ⟨m + 1, 0, none⟩) g.length g.length] 63)) #[.slice none 0 0] 22).alloc (.cells #[.func (.func 64) #[] #[.pointer (some ⟨m + 1 + 1, 0, none⟩), .pointer (some ⟨m, 0, none⟩), .pointer (some ⟨m + 1 + 1 + 1 + 1, 0, none⟩), .pointer (some ⟨m + 1 + 1 + 1, 0, none⟩)]] 67)
        rw [hW] at this
        simpa [hm] using this
      · have := Blk.new ((((w1.alloc (.cells #[.slice A1 g.length c1] 33)).alloc (.cells (madeCells #[.bool false] g.length) 4)).alloc (.cells #[.slice (some ⟨m + 1, 0, none⟩) g.length g.length] 63)).alloc (.cells #[.slice none 0 0] 22)) #[.func (.func 64) #[] #[.pointer (some ⟨m + 1 + 1, 0, none⟩), .pointer (some ⟨m, 0, none⟩), .pointer (some ⟨m + 1 + 1 + 1 + 1, 0, none⟩), .pointer (some ⟨m + 1 + 1 + 1, 0, none⟩)]] 67
        rw [hW] at this
        simpa [hm] using this
      · rw [← hW]; exact ht1.ext0 ((((Ext.refl _ _).alloc _).alloc _).alloc _)
    refine (over_calls hg hn g.length 0 (List.replicate g.length false, []) [] (.slice none 0 0) W hd hpos (by simp [List.getD, List.getElem?_replicate, hpos]) (by simp)).mono ?_
    rintro e w3 ⟨So, vo, rfl, hd3, hfp⟩
    generalize hst : dfs g g.length (List.replicate g.length false, []) 0 = st at *
    have Hst := Lib.hid hst
    clear hst hW hm
    have d1 := hd3.ob.cell (i := 0) rfl
    obtain ⟨Ao, co, rfl, _⟩ := hd3.out.shape
    have hsm := hd3.small
    go_wp2_with fail
    refine (reverse_calls (slr_nat_int.1 hd3.out) (by simp; omega)).mono ?_
    rintro e w4 ⟨rfl, hr4, hx4⟩
    have hb4 := hd3.ob.ext hx4 (fun hk => by have := hd3.ho _ hk; omega)
    have d2 := hb4.cell (i := 0) rfl
    go_wp2
    go_ret
    refine ⟨_, So, rfl, ?_, ?_⟩
    · rw [ho.out]
      refine slr_nat_int.2 ?_
      rw [List.map_reverse]
      exact hr4
    · have hwm := hwm.out
      refine ⟨((hnew1.ext.nil hxW).trans hfp.1 fun k hk => ?_).trans hx4 fun k hk => .inr (by have := hd3.ho k hk; omega), fun k hk => by have := hd3.ho k hk; omega, hd3.nd⟩
      simp at hk
      rcases hk with h | h
      · exact .inr (by omega)
      · exact .inr (by omega)
end Go.Proofs.Ytkmgbejhbkbaoaa

/- Plain: what depth first leaves: who is reached, each once, each behind one from which it comes. -/
namespace Go.Proofs.Ytkmgbejhbkbaoaa
set_option linter.unusedSimpArgs false
set_option linter.unusedVariables false

/-- an edge -/
def Ed (g : List (List Nat)) (x y : Nat) : Prop := y ∈ g.getD x []
/-- what is reached from a -/
inductive Rch (g : List (List Nat)) (a : Nat) : Nat → Prop
  | refl : Rch g a a
  | step {x y : Nat} : Rch g a x → Ed g x y → Rch g a y
theorem Rch.trans {g : List (List Nat)} {a b c : Nat} (h : Rch g a b) (k : Rch g b c) : Rch g a c := by
  induction k with
  | refl => exact h
  | step _ e ih => exact ih.step e

/-- what a walk from a, or along a row, adds -/
structure Seg (g : List (List Nat)) (st st' : DS) (seg : List Nat) : Prop where
  out : st'.2 = st.2 ++ seg
  there : ∀ x, st'.1.getD x false = true ↔ st.1.getD x false = true ∨ x ∈ seg
  new : ∀ x ∈ seg, st.1.getD x false = false
  nodup : seg.Nodup
  closed : ∀ x ∈ seg, ∀ y, Ed g x y → st'.1.getD y false = true
theorem Seg.refl (g : List (List Nat)) (st : DS) : Seg g st st [] := ⟨by simp, by simp, by simp, by simp, by simp⟩
theorem Seg.trans {g : List (List Nat)} {a b c : DS} {s t : List Nat} (h : Seg g a b s) (k : Seg g b c t) : Seg g a c (s ++ t) := by
  refine ⟨by rw [k.out, h.out, List.append_assoc], fun x => ?_, fun x hx => ?_, ?_, fun x hx y hy => ?_⟩
  · rw [k.there, h.there, List.mem_append, or_assoc]
  · rcases List.mem_append.1 hx with hx | hx
    · exact h.new x hx
    · have h1 := k.new x hx
      cases h2 : a.1.getD x false with
      | false => rfl
      | true => rw [(h.there x).2 (.inl h2)] at h1; cases h1
  · refine List.nodup_append.2 ⟨h.nodup, k.nodup, ?_⟩
    rintro x hx y hy rfl
    have h1 := k.new x hy
    rw [(h.there x).2 (.inr hx)] at h1
    cases h1
  · rcases List.mem_append.1 hx with hx | hx
    · exact (k.there y).2 (.inl (h.closed x hx y hy))
    · exact k.closed x hx y hy

/-- each but those in R has one, later on in the row, from which an edge comes -/
def Par (g : List (List Nat)) (R : Nat → Prop) (seg : List Nat) : Prop := ∀ pre b post, seg = pre ++ b :: post → R b ∨ ∃ p ∈ post, Ed g p b
theorem Par.append {g : List (List Nat)} {R : Nat → Prop} {s t : List Nat} (h : Par g R s) (k : Par g R t) : Par g R (s ++ t) := by
  intro pre b post he
  rcases List.append_eq_append_iff.1 he with ⟨u, rfl, hu⟩ | ⟨u, hs, hu⟩
  · exact k u b post hu
  · cases u with
    | nil => simp at hu; exact k [] b post (by simpa using hu.symm)
    | cons c u =>
      simp at hu
      obtain ⟨rfl, rfl⟩ := hu
      rcases h pre b u hs with h1 | ⟨p, hp, he⟩
      · exact .inl h1
      · exact .inr ⟨p, by simp [hp], he⟩

theorem getD_set {l : List Bool} {a x : Nat} (ha : a < l.length) : (l.set a true).getD x false = true ↔ l.getD x false = true ∨ x = a := by
  simp only [List.getD_eq_getElem?_getD, List.getElem?_set]
  by_cases h : a = x
  · subst h; simp [ha]
  · simp [h, show ¬ x = a from fun e => h e.symm]

theorem dfs_seg (g : List (List Nat)) : ∀ (k : Nat) (st : DS) (a : Nat), a < st.1.length → st.1.getD a false = false → st.1.count false ≤ k → (∀ row ∈ g, ∀ b ∈ row, b < st.1.length) →
    ∃ seg, Seg g st (dfs g k st a) (seg ++ [a]) ∧ Par g (fun b => b = a) (seg ++ [a]) ∧ ∀ x ∈ seg ++ [a], Rch g a x
  | 0, st, a, ha, hf, hc, _ => by
    have h1 : st.1[a] = false := by simpa [List.getD, ha] using hf
    have h2 : 0 < st.1.count false := List.count_pos_iff.2 (h1 ▸ List.getElem_mem ha)
    omega
  | k + 1, st, a, ha, hf, hc, hg => by
    have hfa : st.1[a] = false := by simpa [List.getD, ha] using hf
    obtain ⟨c1, c2⟩ := count_set_true ha hfa
    have key : ∀ (row : List Nat) (s : DS), (∀ b ∈ row, b < s.1.length ∧ Ed g a b) → s.1.length = st.1.length → s.1.count false ≤ k →
        ∃ seg, Seg g s (dfsRow g k s row) seg ∧ Par g (fun b => b ∈ row) seg ∧ (∀ x ∈ seg, Rch g a x) ∧ ∀ b ∈ row, (dfsRow g k s row).1.getD b false = true := by
      intro row
      induction row with
      | nil => intro s _ _ _; exact ⟨[], Seg.refl g s, fun pre b post h => by simp at h, by simp, by simp⟩
      | cons b row ih =>
        intro s hb hl hck
        have h2 : dfsRow g k s (b :: row) = dfsRow g k (if s.1.getD b false then s else dfs g k s b) row := rfl
        rw [h2]
        by_cases hbt : s.1.getD b false = true
        · rw [if_pos hbt]
          obtain ⟨seg, h3, h4, h5, h6⟩ := ih s (fun x hx => hb x (by simp [hx])) hl hck
          refine ⟨seg, h3, fun pre c post he => ?_, h5, fun x hx => ?_⟩
          · rcases h4 pre c post he with h7 | h7
            · exact .inl (by simp [h7])
            · exact .inr h7
          · rcases List.mem_cons.1 hx with rfl | hx
            · exact (h3.there x).2 (.inl hbt)
            · exact h6 x hx
        · rw [if_neg hbt]
          have hbf : s.1.getD b false = false := by simpa using hbt
          have hgs : ∀ row ∈ g, ∀ b ∈ row, b < s.1.length := fun row hr x hx => by rw [hl]; exact hg row hr x hx
          obtain ⟨seg1, g1, g2, g3⟩ := dfs_seg g k s b (hb b (by simp)).1 hbf hck hgs
          have hkp := dfs_keep g k s b (hb b (by simp)).1 hbf hgs
          obtain ⟨seg2, h3, h4, h5, h6⟩ := ih (dfs g k s b) (fun x hx => ⟨by rw [hkp.len]; exact (hb x (by simp [hx])).1, (hb x (by simp [hx])).2⟩) (hkp.len.trans hl) (Nat.le_trans hkp.cnt hck)
          refine ⟨(seg1 ++ [b]) ++ seg2, g1.trans h3, Par.append (fun pre c post he => ?_) (fun pre c post he => ?_), fun x hx => ?_, fun x hx => ?_⟩
          · rcases g2 pre c post he with h7 | h7
            · exact .inl (by simp [h7])
            · exact .inr h7
          · rcases h4 pre c post he with h7 | h7
            · exact .inl (by simp [h7])
            · exact .inr h7
          · rcases List.mem_append.1 hx with hx | hx
            · exact (Rch.refl.step (hb b (by simp)).2).trans (g3 x hx)
            · exact h5 x hx
          · rcases List.mem_cons.1 hx with rfl | hx
            · exact (h3.there x).2 (.inl ((g1.there x).2 (.inr (by simp))))
            · exact h6 x hx
    have hrow : ∀ b ∈ g.getD a [], b < (st.1.set a true, st.2).1.length ∧ Ed g a b := by
      intro b hb
      refine ⟨?_, hb⟩
      rw [List.length_set]
      by_cases h : a < g.length
      · rw [List.getD_eq_getElem?_getD, List.getElem?_eq_getElem h] at hb
        exact hg _ (List.getElem_mem h) b hb
      · rw [List.getD_eq_getElem?_getD, List.getElem?_eq_none (by omega)] at hb
        simp at hb
    obtain ⟨seg, h3, h4, h5, h6⟩ := key (g.getD a []) (st.1.set a true, st.2) hrow (by simp) (by simp only; omega)
    rw [dfs_succ]
    have hna : a ∉ seg := fun h => by
      have := h3.new a h
      rw [(getD_set ha).2 (.inr rfl)] at this
      cases this
    refine ⟨seg, ⟨by simp only [h3.out, List.append_assoc], fun x => ?_, fun x hx => ?_, ?_, fun x hx y hy => ?_⟩, fun pre b post he => ?_, fun x hx => ?_⟩
    · simp only [h3.there, getD_set ha, List.mem_append, List.mem_singleton]
      constructor
      · rintro ((h | h) | h)
        · exact .inl h
        · exact .inr (.inr h)
        · exact .inr (.inl h)
      · rintro (h | h | h)
        · exact .inl (.inl h)
        · exact .inr h
        · exact .inl (.inr h)
    · rcases List.mem_append.1 hx with hx | hx
      · have := h3.new x hx
        cases h : st.1.getD x false with
        | false => rfl
        | true => rw [(getD_set ha).2 (.inl h)] at this; cases this
      · simp at hx; subst hx; exact hf
    · refine List.nodup_append.2 ⟨h3.nodup, by simp, ?_⟩
      rintro x hx y hy rfl
      simp at hy; subst hy; exact hna hx
    · rcases List.mem_append.1 hx with hx | hx
      · exact h3.closed x hx y hy
      · simp at hx; subst hx; exact h6 y hy
    · rcases List.append_eq_append_iff.1 he with ⟨u, hu1, hu2⟩ | ⟨u, hs, hu⟩
      · cases u with
        | nil => simp at hu2; exact .inl hu2.1.symm
        | cons c u => simp at hu2
      · cases u with
        | nil => simp at hu; exact .inl hu.1
        | cons c u =>
          simp at hu
          obtain ⟨rfl, rfl⟩ := hu
          rcases h4 pre b u hs with h7 | ⟨p, hp, hpe⟩
          · exact .inr ⟨a, by simp, h7⟩
          · exact .inr ⟨p, by simp [hp], hpe⟩
    · rcases List.mem_append.1 hx with hx | hx
      · exact h5 x hx
      · simp at hx; subst hx; exact .refl

/-- what Order leaves -/
structure Ord (g : List (List Nat)) (o : List Nat) : Prop where
  nodup : o.Nodup
  mem : ∀ x, x ∈ o ↔ Rch g 0 x
  first : ∃ r, o = 0 :: r
  par : ∀ pre b post, o = pre ++ b :: post → b = 0 ∨ ∃ p ∈ pre, Ed g p b
theorem orderF_ord {g : List (List Nat)} (h0 : 0 < g.length) (hg : ∀ row ∈ g, ∀ b ∈ row, b < g.length) : Ord g (orderF g) := by
  obtain ⟨seg, h1, h2, h3⟩ := dfs_seg g g.length (List.replicate g.length false, []) 0 (by simpa using h0) (by simp [List.getD, List.getElem?_replicate, h0]) (by simp) (by simpa using hg)
  have ho : orderF g = 0 :: seg.reverse := by
    rw [orderF, if_neg (by omega), h1.out]
    simp
  have hm : ∀ x, x ∈ orderF g ↔ x ∈ seg ++ [0] := fun x => by rw [ho]; simp [or_comm]
  have hthere : ∀ x, (dfs g g.length (List.replicate g.length false, []) 0).1.getD x false = true ↔ x ∈ seg ++ [0] := fun x => by
    rw [h1.there]
    constructor
    · rintro (h | h)
      · simp only [List.getD_eq_getElem?_getD, List.getElem?_replicate] at h
        split at h <;> simp at h
      · exact h
    · exact .inr
  refine ⟨?_, fun x => ?_, ⟨_, ho⟩, fun pre b post he => ?_⟩
  · have := h1.nodup
    rw [ho]
    have h5 : (0 :: seg.reverse) = (seg ++ [0]).reverse := by simp
    rw [h5]
    exact ((List.reverse_perm (seg ++ [0])).nodup_iff).2 this
  · rw [hm]
    constructor
    · exact h3 x
    · intro h
      induction h with
      | refl => simp
      | step _ e ih => exact (hthere _).1 (h1.closed _ ih _ e)
  · have he2 : seg ++ [0] = post.reverse ++ b :: pre.reverse := by
      have := congrArg List.reverse he
      rw [ho] at this
      simpa using this
    rcases h2 post.reverse b pre.reverse he2 with h | ⟨p, hp, hpe⟩
    · exact .inl h
    · exact .inr ⟨p, by simpa using hp, hpe⟩
end Go.Proofs.Ytkmgbejhbkbaoaa

/- Plain: dominators by going up in a tree that is mended (blocks by number, their predecessors). -/
namespace Go.Proofs.Ytkmgbejhbkbaoaa
set_option linter.unusedSimpArgs false
set_option linter.unusedVariables false

/-- n blocks, whose predecessors P tells, by numbers num; each but 0 has a predecessor, par, of a lesser number -/
structure Net (n : Nat) (P : Nat → List Nat) (num par : Nat → Nat) : Prop where
  pos : 0 < n
  inj : ∀ x y, x < n → y < n → num x = num y → x = y
  zero : num 0 = 0
  plt : ∀ b, b < n → ∀ p ∈ P b, p < n
  par : ∀ b, b < n → b ≠ 0 → par b ∈ P b ∧ num (par b) < num b

/-- y stands on the way up from x (x itself does) -/
inductive Anc (D : Nat → Option Nat) (y : Nat) : Nat → Prop
  | refl : Anc D y y
  | up {x z : Nat} : D x = some z → Anc D y z → Anc D y x
/-- likewise by par -/
inductive PAnc (par : Nat → Nat) (y : Nat) : Nat → Prop
  | refl : PAnc par y y
  | up {x : Nat} : x ≠ 0 → PAnc par y (par x) → PAnc par y x
/-- x is come to from 0 without y -/
inductive Rw (P : Nat → List Nat) (n y : Nat) : Nat → Prop
  | zero : y ≠ 0 → Rw P n y 0
  | step {x z : Nat} : Rw P n y x → z < n → x ∈ P z → z ≠ y → Rw P n y z

theorem Anc.trans {D : Nat → Option Nat} {a b c : Nat} (h : Anc D a b) (k : Anc D b c) : Anc D a c := by
  induction k with
  | refl => exact h
  | up e _ ih => exact .up e ih
theorem PAnc.trans {par : Nat → Nat} {a b c : Nat} (h : PAnc par a b) (k : PAnc par b c) : PAnc par a c := by
  induction k with
  | refl => exact h
  | up e _ ih => exact .up e ih
theorem Anc.cases' {D : Nat → Option Nat} {y x : Nat} (h : Anc D y x) : y = x ∨ ∃ z, D x = some z ∧ Anc D y z := by
  cases h with
  | refl => exact .inl rfl
  | up e k => exact .inr ⟨_, e, k⟩
/-- of two on one way up one is on the way up from the other -/
theorem Anc.line {D : Nat → Option Nat} {a b x : Nat} (h : Anc D a x) (k : Anc D b x) : Anc D a b ∨ Anc D b a := by
  induction h with
  | refl => exact .inr k
  | up e h ih =>
    rcases k.cases' with rfl | ⟨z, hz, k⟩
    · exact .inl (.up e h)
    · rw [e] at hz; injection hz with hz; subst hz; exact ih k

/-- a tree: numbers fall on the way up; who is on it is by par, too; who must be passed is on it -/
structure Tr (n : Nat) (P : Nat → List Nat) (num par : Nat → Nat) (D : Nat → Option Nat) : Prop where
  zero : D 0 = none
  lt : ∀ x z, D x = some z → x < n ∧ z < n ∧ num z < num x
  up : ∀ x z, D x = some z → z = 0 ∨ D z ≠ none
  pa : ∀ x z, D x = some z → PAnc par z x
  dom : ∀ x, x = 0 ∨ D x ≠ none → ∀ y, ¬ Rw P n y x → Anc D y x

section
variable {n : Nat} {P : Nat → List Nat} {num par : Nat → Nat} {D : Nat → Option Nat}
theorem Tr.num_le (h : Tr n P num par D) {y x : Nat} (k : Anc D y x) : num y ≤ num x := by
  induction k with
  | refl => exact Nat.le_refl _
  | up e _ ih => have := (h.lt _ _ e).2.2; omega
theorem Tr.num_lt (h : Tr n P num par D) {y x : Nat} (k : Anc D y x) (hne : y ≠ x) : num y < num x := by
  rcases k.cases' with e | ⟨z, e, k⟩
  · exact absurd e hne
  · have := (h.lt _ _ e).2.2; have := h.num_le k; omega
theorem Tr.panc (h : Tr n P num par D) {y x : Nat} (k : Anc D y x) : PAnc par y x := by
  induction k with
  | refl => exact .refl
  | up e _ ih => exact ih.trans (h.pa _ _ e)
theorem Tr.lt_n (h : Tr n P num par D) {y x : Nat} (k : Anc D y x) (hx : x < n) : y < n := by
  induction k with
  | refl => exact hx
  | up e _ ih => exact ih (h.lt _ _ e).2.1
theorem Tr.zero_only (h : Tr n P num par D) {y : Nat} (k : Anc D y 0) : y = 0 := by
  rcases k.cases' with e | ⟨z, e, _⟩
  · exact e
  · rw [h.zero] at e; cases e
theorem Tr.known (h : Tr n P num par D) {y x : Nat} (k : Anc D y x) (hx : x = 0 ∨ D x ≠ none) : y = 0 ∨ D y ≠ none := by
  induction k with
  | refl => exact hx
  | up e _ ih => exact ih (h.up _ _ e)

/-- from b down to x by par, without y, if y's number is less than b's -/
theorem Net.down (hn : Net n P num par) {y b x : Nat} (hx : x < n) (k : PAnc par b x) (hy : num y < num b) (h : Rw P n y b) : Rw P n y x := by
  induction k with
  | refl => exact h
  | @up x h0 k ih =>
    obtain ⟨h1, h2⟩ := hn.par x hx h0
    have hp := hn.plt x hx _ h1
    refine Rw.step (ih hp) hx h1 ?_
    rintro rfl
    have : ∀ {u v : Nat}, PAnc par u v → v < n → num u ≤ num v := by
      intro u v k hv
      induction k with
      | refl => exact Nat.le_refl _
      | @up v h0 k ih =>
        obtain ⟨h1, h2⟩ := hn.par v hv h0
        have := ih (hn.plt v hv _ h1); omega
    have := this k hp
    omega

/-- the nearest one on both ways up -/
def comN (D : Nat → Option Nat) (num : Nat → Nat) : Nat → Nat → Nat → Option Nat
  | 0, _, _ => none
  | k + 1, a, b =>
    if num b < num a then (match D a with | some z => comN D num k z b | none => none)
    else if num a < num b then (match D b with | some z => comN D num k a z | none => none)
    else some a
theorem comN_spec (hn : Net n P num par) (h : Tr n P num par D) : ∀ (k a b : Nat), a < n → b < n → (a = 0 ∨ D a ≠ none) → (b = 0 ∨ D b ≠ none) → num a + num b < k →
    ∃ c, comN D num k a b = some c ∧ Anc D c a ∧ Anc D c b ∧ ∀ y, Anc D y a → Anc D y b → Anc D y c := by
  intro k
  induction k with
  | zero => intro a b _ _ _ _ h; omega
  | succ k ih =>
    intro a b ha hb ka kb hk
    unfold comN
    by_cases h1 : num b < num a
    · rw [if_pos h1]
      have h0 : a ≠ 0 := by rintro rfl; rw [hn.zero] at h1; omega
      cases e : D a with
      | none => rcases ka with ka | ka; exact absurd ka h0; exact absurd e ka
      | some z =>
        obtain ⟨_, z1, z2⟩ := h.lt a z e
        obtain ⟨c, c1, c2, c3, c4⟩ := ih z b z1 hb (h.up a z e) kb (by omega)
        refine ⟨c, c1, .up e c2, c3, fun y y1 y2 => c4 y ?_ y2⟩
        rcases y1.cases' with rfl | ⟨z', e', y1⟩
        · have := h.num_le y2; omega
        · rw [e] at e'; injection e' with e'; subst e'; exact y1
    · rw [if_neg h1]
      by_cases h2 : num a < num b
      · rw [if_pos h2]
        have h0 : b ≠ 0 := by rintro rfl; rw [hn.zero] at h2; omega
        cases e : D b with
        | none => rcases kb with kb | kb; exact absurd kb h0; exact absurd e kb
        | some z =>
          obtain ⟨_, z1, z2⟩ := h.lt b z e
          obtain ⟨c, c1, c2, c3, c4⟩ := ih a z ha z1 ka (h.up b z e) (by omega)
          refine ⟨c, c1, c2, .up e c3, fun y y1 y2 => c4 y y1 ?_⟩
          rcases y2.cases' with rfl | ⟨z', e', y2⟩
          · have := h.num_le y1; omega
          · rw [e] at e'; injection e' with e'; subst e'; exact y2
      · rw [if_neg h2]
        have : a = b := hn.inj a b ha hb (by omega)
        subst this
        exact ⟨a, rfl, .refl, .refl, fun y h _ => h⟩

/-- of the predecessors that are known the nearest one above all -/
def bestN (D : Nat → Option Nat) (num : Nat → Nat) (k : Nat) : List Nat → Option Nat → Option (Option Nat)
  | [], best => some best
  | a :: l, best =>
    if a ≠ 0 ∧ D a = none then bestN D num k l best
    else match best with
      | none => bestN D num k l (some a)
      | some b => (comN D num k b a).bind fun c => bestN D num k l (some c)
theorem bestN_spec (hn : Net n P num par) (h : Tr n P num par D) (k : Nat) (hk : ∀ a b, a < n → b < n → num a + num b < k) :
    ∀ (l : List Nat) (best : Option Nat), (∀ a ∈ l, a < n) → (∀ b, best = some b → b < n ∧ (b = 0 ∨ D b ≠ none)) →
    ∃ r, bestN D num k l best = some r ∧ (best ≠ none ∨ (∃ a ∈ l, a = 0 ∨ D a ≠ none) → ∃ c, r = some c) ∧
      ∀ c, r = some c → c < n ∧ (c = 0 ∨ D c ≠ none) ∧ (∀ b, best = some b → Anc D c b) ∧ (∀ a ∈ l, (a = 0 ∨ D a ≠ none) → Anc D c a) ∧
        ∀ y, (∀ b, best = some b → Anc D y b) → (∀ a ∈ l, (a = 0 ∨ D a ≠ none) → Anc D y a) → Anc D y c := by
  intro l
  induction l with
  | nil =>
    intro best _ hb
    refine ⟨best, rfl, ?_, ?_⟩
    · rintro (h | ⟨a, ha, _⟩)
      · cases best with
        | none => exact absurd rfl h
        | some c => exact ⟨c, rfl⟩
      · cases ha
    · rintro c rfl
      exact ⟨(hb c rfl).1, (hb c rfl).2, fun b e => (by injection e with e; subst e; exact .refl), fun a ha => (by cases ha), fun y h1 _ => h1 c rfl⟩
  | cons a l ih =>
    intro best hl hb
    have hla : ∀ x ∈ l, x < n := fun x hx => hl x (by simp [hx])
    unfold bestN
    by_cases h1 : a ≠ 0 ∧ D a = none
    · rw [if_pos h1]
      obtain ⟨r, r1, r2, r3⟩ := ih best hla hb
      refine ⟨r, r1, ?_, fun c hc => ?_⟩
      · rintro (h | ⟨x, hx, hk⟩)
        · exact r2 (.inl h)
        · rcases List.mem_cons.1 hx with rfl | hx
          · rcases hk with hk | hk
            · exact absurd hk h1.1
            · exact absurd h1.2 hk
          · exact r2 (.inr ⟨x, hx, hk⟩)
      · obtain ⟨q1, q2, q3, q4, q5⟩ := r3 c hc
        refine ⟨q1, q2, q3, fun x hx hk => ?_, fun y y1 y2 => q5 y y1 fun x hx => y2 x (by simp [hx])⟩
        rcases List.mem_cons.1 hx with rfl | hx
        · rcases hk with hk | hk
          · exact absurd hk h1.1
          · exact absurd h1.2 hk
        · exact q4 x hx hk
    · rw [if_neg h1]
      have hka : a = 0 ∨ D a ≠ none := by
        by_cases h0 : a = 0
        · exact .inl h0
        · exact .inr fun e => h1 ⟨h0, e⟩
      have han : a < n := hl a (by simp)
      cases best with
      | none =>
        simp only
        obtain ⟨r, r1, r2, r3⟩ := ih (some a) hla (fun b e => by injection e with e; subst e; exact ⟨han, hka⟩)
        refine ⟨r, r1, fun _ => r2 (.inl (by simp)), fun c hc => ?_⟩
        obtain ⟨q1, q2, q3, q4, q5⟩ := r3 c hc
        refine ⟨q1, q2, fun b e => (by cases e), fun x hx hk => ?_, fun y _ y2 => q5 y (fun b e => by injection e with e; subst e; exact y2 a (by simp) hka) fun x hx => y2 x (by simp [hx])⟩
        rcases List.mem_cons.1 hx with rfl | hx
        · exact q3 x rfl
        · exact q4 x hx hk
      | some b =>
        simp only
        obtain ⟨hbn, hbk⟩ := hb b rfl
        obtain ⟨c, c1, c2, c3, c4⟩ := comN_spec hn h k b a hbn han hbk hka (hk b a hbn han)
        rw [c1, Option.bind_some]
        obtain ⟨r, r1, r2, r3⟩ := ih (some c) hla (fun x e => by injection e with e; subst e; exact ⟨h.lt_n c2 hbn, h.known c2 hbk⟩)
        refine ⟨r, r1, fun _ => r2 (.inl (by simp)), fun d hd => ?_⟩
        obtain ⟨q1, q2, q3, q4, q5⟩ := r3 d hd
        refine ⟨q1, q2, fun x e => (by injection e with e; subst e; exact (q3 c rfl).trans c2), fun x hx hk => ?_,
          fun y y1 y2 => q5 y (fun x e => by injection e with e; subst e; exact c4 y (y1 b rfl) (y2 a (by simp) hka)) fun x hx => y2 x (by simp [hx])⟩
        rcases List.mem_cons.1 hx with rfl | hx
        · exact (q3 c rfl).trans c3
        · exact q4 x hx hk

/-! ### one block mended -/
def upd (D : Nat → Option Nat) (b c : Nat) : Nat → Option Nat := fun x => if x = b then some c else D x
/-- what bestN gives of b's predecessors -/
structure Best (n : Nat) (P : Nat → List Nat) (D : Nat → Option Nat) (b c : Nat) : Prop where
  lt : c < n
  known : c = 0 ∨ D c ≠ none
  below : ∀ p ∈ P b, (p = 0 ∨ D p ≠ none) → Anc D c p
  near : ∀ y, (∀ p ∈ P b, (p = 0 ∨ D p ≠ none) → Anc D y p) → Anc D y c

/-- the way up from what b does not stand above of is as it was -/
theorem anc_upd_of_not {b c y x : Nat} (hb : ¬ Anc D b x) : Anc (upd D b c) y x ↔ Anc D y x := by
  constructor
  · intro h
    induction h with
    | refl => exact .refl
    | @up x z e _ ih =>
      have hx : x ≠ b := fun e1 => hb (e1 ▸ .refl)
      rw [upd, if_neg hx] at e
      exact .up e (ih fun k => hb (.up e k))
  · intro h
    induction h with
    | refl => exact .refl
    | @up x z e _ ih =>
      have hx : x ≠ b := fun e1 => hb (e1 ▸ .refl)
      exact .up (by rw [upd, if_neg hx]; exact e) (ih fun k => hb (.up e k))
/-- b stands above the same as before -/
theorem anc_upd_b {b c x : Nat} (h : Tr n P num par D) (hc : num c < num b) : Anc (upd D b c) b x ↔ Anc D b x := by
  have hbc : ¬ Anc D b c := fun k => by have := h.num_le k; omega
  constructor
  · intro k
    generalize hy : b = y at k
    induction k with
    | refl => exact hy ▸ .refl
    | @up x z e k ih =>
      subst hy
      by_cases hx : x = b
      · subst hx; exact .refl
      · rw [upd, if_neg hx] at e; exact .up e ih
  · intro k
    generalize hy : b = y at k
    induction k with
    | refl => exact .refl
    | @up x z e k ih =>
      subst hy
      by_cases hx : x = b
      · subst hx; exact .refl
      · exact .up (by rw [upd, if_neg hx]; exact e) ih
theorem anc_upd_of {b c y x : Nat} (h : Tr n P num par D) (hc : num c < num b) (hb : Anc D b x) : Anc (upd D b c) y x ↔ (Anc D y x ∧ Anc D b y) ∨ Anc D y c := by
  have hbc : ¬ Anc D b c := fun k => by have := h.num_le k; omega
  constructor
  · intro k
    induction k with
    | refl => exact .inl ⟨.refl, hb⟩
    | @up x z e k ih =>
      by_cases hx : x = b
      · subst hx
        rw [upd, if_pos rfl] at e
        injection e with e
        subst e
        exact .inr ((anc_upd_of_not hbc).1 k)
      · rw [upd, if_neg hx] at e
        rcases hb.cases' with e1 | ⟨z', e', hb'⟩
        · exact absurd e1.symm hx
        · rw [e] at e'; injection e' with e'; subst e'
          rcases ih hb' with ⟨h1, h2⟩ | h1
          · exact .inl ⟨.up e h1, h2⟩
          · exact .inr h1
  · rintro (⟨h1, h2⟩ | h1)
    · induction h1 with
      | refl => exact .refl
      | @up x z e k ih =>
        by_cases hx : x = b
        · subst hx
          have h3 := h.num_le h2
          have h4 := h.num_le k
          have h5 := (h.lt _ _ e).2.2
          omega
        · refine .up (by rw [upd, if_neg hx]; exact e) (ih ?_)
          rcases hb.cases' with e1 | ⟨z', e', hb'⟩
          · exact absurd e1.symm hx
          · rw [e] at e'; injection e' with e'; subst e'; exact hb'
    · have : Anc (upd D b c) b x := (anc_upd_b h hc).2 hb
      exact ((anc_upd_of_not hbc).2 h1 |> fun k => Anc.up (by rw [upd, if_pos rfl]) k).trans this

/-- mended, it is a tree all the same -/
theorem Tr.upd (hn : Net n P num par) (h : Tr n P num par D) {b c : Nat} (hb : b < n) (h0 : b ≠ 0) (hB : Best n P D b c) (hp : par b = 0 ∨ D (par b) ≠ none) :
    num c < num b ∧ Tr n P num par (upd D b c) := by
  obtain ⟨p1, p2⟩ := hn.par b hb h0
  have hcp := hB.below _ p1 hp
  have hc : num c < num b := by have := h.num_le hcp; omega
  have hkn : ∀ x, x = 0 ∨ Go.Proofs.Ytkmgbejhbkbaoaa.upd D b c x ≠ none ↔ (x = 0 ∨ D x ≠ none) ∨ x = b := by
    intro x
    unfold Go.Proofs.Ytkmgbejhbkbaoaa.upd
    by_cases hx : x = b
    · simp [hx]
    · simp [hx]
  refine ⟨hc, ⟨by simp [Go.Proofs.Ytkmgbejhbkbaoaa.upd, h0.symm, h.zero], ?_, ?_, ?_, ?_⟩⟩
  · intro x z e
    unfold Go.Proofs.Ytkmgbejhbkbaoaa.upd at e
    split at e
    · rename_i hx; subst hx; injection e with e; subst e; exact ⟨hb, hB.lt, hc⟩
    · exact h.lt x z e
  · intro x z e
    have h2 : z = 0 ∨ D z ≠ none := by
      unfold Go.Proofs.Ytkmgbejhbkbaoaa.upd at e
      split at e
      · injection e with e; subst e; exact hB.known
      · exact h.up x z e
    exact (hkn z).2 (.inl h2)
  · intro x z e
    unfold Go.Proofs.Ytkmgbejhbkbaoaa.upd at e
    split at e
    · rename_i hx; subst hx; injection e with e; subst e
      exact .up h0 (h.panc hcp)
    · exact h.pa x z e
  · intro x hx y hy
    have hdomb : ∀ y, y ≠ b → ¬ Rw P n y b → Anc D y c := fun y hyb hyr => hB.near y fun p hp hk => h.dom p hk y fun hr => hyr (.step hr hb hp (fun e => hyb e.symm))
    by_cases hbx : Anc D b x
    · rw [anc_upd_of h hc hbx]
      by_cases hyb : y = b
      · subst hyb; exact .inl ⟨hbx, .refl⟩
      by_cases hxb : x = b
      · subst hxb; exact .inr (hdomb y hyb hy)
      · have hxk : x = 0 ∨ D x ≠ none := by
          rcases (hkn x).1 hx with h1 | h1
          · exact h1
          · exact absurd h1 hxb
        have hyx := h.dom x hxk y hy
        rcases hyx.line hbx with h1 | h1
        · refine .inr (hdomb y hyb fun hr => hy ?_)
          have hxn : x < n := by
            rcases hxk with h2 | h2
            · subst h2; exact hn.pos
            · cases e : D x with
              | none => exact absurd e h2
              | some z => exact (h.lt x z e).1
          exact hn.down hxn (h.panc hbx) (h.num_lt h1 hyb) hr
        · exact .inl ⟨hyx, h1⟩
    · rw [anc_upd_of_not hbx]
      have hxk : x = 0 ∨ D x ≠ none := by
        rcases (hkn x).1 hx with h1 | h1
        · exact h1
        · exact absurd (h1 ▸ Anc.refl) hbx
      exact h.dom x hxk y hy
/-- what has a lesser number than b has the same way up -/
theorem anc_upd_low {b c y x : Nat} (h : Tr n P num par D) (hx : num x < num b) : Anc (Go.Proofs.Ytkmgbejhbkbaoaa.upd D b c) y x ↔ Anc D y x :=
  anc_upd_of_not fun k => by have := h.num_le k; omega
/-- of those with a greater number than b it is told the same -/
theorem anc_upd_high {b c y x : Nat} (h : Tr n P num par D) (hc : num c < num b) (hy : num b < num y) : Anc (Go.Proofs.Ytkmgbejhbkbaoaa.upd D b c) y x ↔ Anc D y x := by
  by_cases hb : Anc D b x
  · rw [anc_upd_of h hc hb]
    constructor
    · rintro (h1 | h1)
      · exact h1.1
      · have := h.num_le h1; omega
    · intro h1
      rcases h1.line hb with h2 | h2
      · have := h.num_le h2; omega
      · exact .inl ⟨h1, h2⟩
  · exact anc_upd_of_not hb
end
end Go.Proofs.Ytkmgbejhbkbaoaa

/- Plain: passes over a tree until none changes it. -/
namespace Go.Proofs.Ytkmgbejhbkbaoaa
set_option linter.unusedSimpArgs false
set_option linter.unusedVariables false

section
variable {n : Nat} {P : Nat → List Nat} {num par : Nat → Nat} {D : Nat → Option Nat}

theorem Best.of (hn : Net n P num par) (h : Tr n P num par D) {k : Nat} (hk : ∀ a b, a < n → b < n → num a + num b < k) {b c : Nat} (hb : b < n) (he : bestN D num k (P b) none = some (some c)) : Best n P D b c := by
  obtain ⟨r, r1, _, r3⟩ := bestN_spec hn h k hk (P b) none (hn.plt b hb) (fun _ e => (by cases e))
  rw [he] at r1; injection r1 with r1; subst r1
  obtain ⟨q1, q2, _, q4, q5⟩ := r3 c rfl
  exact ⟨q1, q2, q4, fun y hy => q5 y (fun _ e => (by cases e)) hy⟩
theorem best_some (hn : Net n P num par) (h : Tr n P num par D) {k : Nat} (hk : ∀ a b, a < n → b < n → num a + num b < k) {b : Nat} (hb : b < n) (h0 : b ≠ 0) (hp : par b = 0 ∨ D (par b) ≠ none) :
    ∃ c, bestN D num k (P b) none = some (some c) := by
  obtain ⟨r, r1, r2, _⟩ := bestN_spec hn h k hk (P b) none (hn.plt b hb) (fun _ e => (by cases e))
  obtain ⟨c, rfl⟩ := r2 (.inr ⟨par b, (hn.par b hb h0).1, hp⟩)
  exact ⟨c, r1⟩
theorem bestN_append (D : Nat → Option Nat) (num : Nat → Nat) (k : Nat) (l m : List Nat) : ∀ best, bestN D num k (l ++ m) best = (bestN D num k l best).bind (bestN D num k m) := by
  induction l with
  | nil => intro best; rfl
  | cons a l ih =>
    intro best
    simp only [List.cons_append, bestN]
    split
    · exact ih best
    · cases best with
      | none => exact ih _
      | some b =>
        simp only [Option.bind_assoc]
        congr 1
        funext c
        exact ih _

/-- one block of a pass; whether it changed -/
def stepC (P : Nat → List Nat) (num : Nat → Nat) (k : Nat) (st : (Nat → Option Nat) × Bool) (b : Nat) : (Nat → Option Nat) × Bool :=
  match bestN st.1 num k (P b) none with
  | some (some c) => if st.1 b = some c then st else (upd st.1 b c, true)
  | _ => st
def passC (P : Nat → List Nat) (num : Nat → Nat) (k : Nat) (D : Nat → Option Nat) (l : List Nat) : (Nat → Option Nat) × Bool := l.foldl (stepC P num k) (D, false)
theorem passC_snoc (P : Nat → List Nat) (num : Nat → Nat) (k : Nat) (D : Nat → Option Nat) (l : List Nat) (b : Nat) : passC P num k D (l ++ [b]) = stepC P num k (passC P num k D l) b := by
  simp [passC, List.foldl_append]
theorem stepC_eq {k : Nat} {st : (Nat → Option Nat) × Bool} {b c : Nat} (h : bestN st.1 num k (P b) none = some (some c)) : (stepC P num k st b).1 = upd st.1 b c ∧
    ((stepC P num k st b).2 = true ↔ st.2 = true ∨ st.1 b ≠ some c) := by
  simp only [stepC, h]
  split
  · rename_i h1
    refine ⟨?_, by simp [h1]⟩
    funext x
    unfold upd
    split
    · rename_i hx; rw [hx, h1]
    · rfl
  · rename_i h1
    simp [h1]

/-- order: 0 and l; the numbers are places -/
structure Line (n : Nat) (num : Nat → Nat) (l : List Nat) : Prop where
  lt : ∀ b ∈ l, b < n ∧ b ≠ 0
  all : ∀ x, x < n → x ≠ 0 → x ∈ l
  place : ∀ j (h : j < l.length), num l[j] = j + 1

/-! ### the first pass -/
structure One (n : Nat) (P : Nat → List Nat) (num par : Nat → Nat) (i : Nat) (D : Nat → Option Nat) : Prop where
  tr : Tr n P num par D
  known : ∀ x, x < n → x ≠ 0 → (D x ≠ none ↔ num x < i)
  post : ∀ x, x < n → x ≠ 0 → num x < i → ∀ y, (∀ p ∈ P x, num p < num x → Anc D y p) → Anc D y x
  low : ∀ x, x < n → x ≠ 0 → num x < i → ∀ y, y ≠ x → Anc D y x → Anc D y (par x)
theorem anc_upd_self {b c y : Nat} (h : Tr n P num par D) (hc : num c < num b) : Anc (upd D b c) y b ↔ y = b ∨ Anc D y c := by
  have hbc : ¬ Anc D b c := fun k => by have := h.num_le k; omega
  constructor
  · intro k
    rcases k.cases' with e | ⟨z, e, k⟩
    · exact .inl e
    · rw [upd, if_pos rfl] at e; injection e with e; subst e
      exact .inr ((anc_upd_of_not hbc).1 k)
  · rintro (rfl | k)
    · exact .refl
    · exact .up (by rw [upd, if_pos rfl]) ((anc_upd_of_not hbc).2 k)
theorem One.step (hn : Net n P num par) {i k : Nat} (hk : ∀ a b, a < n → b < n → num a + num b < k) (h : One n P num par i D) {b : Nat} (hb : b < n) (h0 : b ≠ 0) (hi : num b = i) :
    ∃ c, bestN D num k (P b) none = some (some c) ∧ One n P num par (i + 1) (upd D b c) := by
  obtain ⟨p1, p2⟩ := hn.par b hb h0
  have hp : par b = 0 ∨ D (par b) ≠ none := by
    by_cases e : par b = 0
    · exact .inl e
    · exact .inr ((h.known _ (hn.plt b hb _ p1) e).2 (by omega))
  obtain ⟨c, hc⟩ := best_some hn h.tr hk hb h0 hp
  have hB := Best.of hn h.tr hk hb hc
  obtain ⟨t1, t2⟩ := h.tr.upd hn hb h0 hB hp
  have hpk : ∀ p ∈ P b, num p < i → (p = 0 ∨ D p ≠ none) := fun p hp hpi => by
    by_cases e : p = 0
    · exact .inl e
    · exact .inr ((h.known _ (hn.plt b hb _ hp) e).2 hpi)
  have hkp : ∀ p ∈ P b, (p = 0 ∨ D p ≠ none) → num p < i := fun p hp hk => by
    rcases hk with rfl | hk
    · rw [hn.zero]; rcases Nat.eq_zero_or_pos i with e | e
      · exact absurd (hn.inj b 0 hb hn.pos (by rw [hn.zero]; omega)) h0
      · exact e
    · by_cases e : p = 0
      · subst e; exact absurd h.tr.zero hk
      · exact (h.known _ (hn.plt b hb _ hp) e).1 hk
  refine ⟨c, hc, t2, ?_, ?_, ?_⟩
  · intro x hx hx0
    unfold upd
    by_cases e : x = b
    · subst e; simp; omega
    · rw [if_neg e, h.known x hx hx0]
      have : num x ≠ i := fun e2 => e (hn.inj x b hx hb (by omega))
      omega
  · intro x hx hx0 hxi y hy
    by_cases e : x = b
    · subst e
      rw [anc_upd_self h.tr t1]
      refine .inr (hB.near y fun p hp hk => ?_)
      have hpi := hkp p hp hk
      exact (anc_upd_low h.tr (by omega)).1 (hy p hp (by omega))
    · have : num x ≠ i := fun e2 => e (hn.inj x b hx hb (by omega))
      rw [anc_upd_low h.tr (by omega)]
      exact h.post x hx hx0 (by omega) y fun p hp hpx => (anc_upd_low h.tr (by omega)).1 (hy p hp hpx)
  · intro x hx hx0 hxi y hy hyx
    by_cases e : x = b
    · subst e
      rw [anc_upd_low h.tr (by omega)]
      rcases (anc_upd_self h.tr t1).1 hyx with e | hyc
      · exact absurd e hy
      · exact hyc.trans (hB.below _ p1 hp)
    · have hne : num x ≠ i := fun e2 => e (hn.inj x b hx hb (by omega))
      have := (hn.par x hx hx0).2
      rw [anc_upd_low h.tr (by omega)] at hyx ⊢
      exact h.low x hx hx0 (by omega) y hy hyx
theorem One.zero (hn : Net n P num par) : One n P num par 1 (fun _ => none) := by
  have hz : ∀ x, x < n → x ≠ 0 → ¬ num x < 1 := fun x hx h0 h => h0 (hn.inj x 0 hx hn.pos (by rw [hn.zero]; omega))
  refine ⟨⟨rfl, fun _ _ e => (by cases e), fun _ _ e => (by cases e), fun _ _ e => (by cases e), ?_⟩, ?_, ?_, ?_⟩
  · intro x hx y hy
    rcases hx with rfl | hx
    · by_cases e : y = 0
      · subst e; exact .refl
      · exact absurd (.zero e) hy
    · exact absurd rfl hx
  · intro x hx h0
    have := hz x hx h0
    simp; omega
  · intro x hx h0 h; exact absurd h (hz x hx h0)
  · intro x hx h0 h; exact absurd h (hz x hx h0)

/-! ### those behind it -/
structure Mid (n : Nat) (P : Nat → List Nat) (num par : Nat → Nat) (i : Nat) (D : Nat → Option Nat) : Prop where
  tr : Tr n P num par D
  known : ∀ x, x < n → x ≠ 0 → D x ≠ none
  post : ∀ x, x < n → x ≠ 0 → ∀ y, (∀ p ∈ P x, Anc D y p) → Anc D y x
  low : ∀ x, x < n → x ≠ 0 → num x < i → ∀ y, y ≠ x → Anc D y x → Anc D y (par x)
  high : ∀ x, x < n → x ≠ 0 → i ≤ num x → ∀ y, i ≤ num y → y ≠ x → Anc D y x → Anc D y (par x)
theorem Mid.first {i : Nat} (h : Mid n P num par i D) (hi : ∀ x, x < n → num x < i) : Mid n P num par 1 D :=
  ⟨h.tr, h.known, h.post, fun x hx h0 _ => h.low x hx h0 (hi x hx), fun x hx h0 _ y _ => h.low x hx h0 (hi x hx) y⟩
theorem One.mid {i : Nat} (h : One n P num par i D) (hi : ∀ x, x < n → num x < i) : Mid n P num par 1 D :=
  ⟨h.tr, fun x hx h0 => (h.known x hx h0).2 (hi x hx), fun x hx h0 y hy => h.post x hx h0 (hi x hx) y fun p hp _ => hy p hp,
    fun x hx h0 _ => h.low x hx h0 (hi x hx), fun x hx h0 _ y _ => h.low x hx h0 (hi x hx) y⟩
theorem Mid.below {i : Nat} (h : Mid n P num par i D) {b c : Nat} (hb : b < n) (h0 : b ≠ 0) (hB : Best n P D b c) (hn : Net n P num par) : Anc D c b :=
  h.post b hb h0 c fun p hp => hB.below p hp (by
    by_cases e : p = 0
    · exact .inl e
    · exact .inr (h.known p (hn.plt b hb p hp) e))
theorem anc_upd_sub {b c y x : Nat} (h : Tr n P num par D) (hc : num c < num b) (hcb : Anc D c b) (k : Anc (upd D b c) y x) : Anc D y x := by
  by_cases hb : Anc D b x
  · rcases (anc_upd_of h hc hb).1 k with h1 | h1
    · exact h1.1
    · exact h1.trans (hcb.trans hb)
  · exact (anc_upd_of_not hb).1 k
theorem Mid.step (hn : Net n P num par) {i k : Nat} (hk : ∀ a b, a < n → b < n → num a + num b < k) (h : Mid n P num par i D) {b : Nat} (hb : b < n) (h0 : b ≠ 0) (hi : num b = i) :
    ∃ c z, bestN D num k (P b) none = some (some c) ∧ Mid n P num par (i + 1) (upd D b c) ∧ D b = some z ∧ num c ≤ num z ∧ (num c = num z → c = z) := by
  obtain ⟨p1, p2⟩ := hn.par b hb h0
  have hall : ∀ p ∈ P b, p = 0 ∨ D p ≠ none := fun p hp => by
    by_cases e : p = 0
    · exact .inl e
    · exact .inr (h.known p (hn.plt b hb p hp) e)
  have hp := hall _ p1
  obtain ⟨c, hc⟩ := best_some hn h.tr hk hb h0 hp
  have hB := Best.of hn h.tr hk hb hc
  obtain ⟨t1, t2⟩ := h.tr.upd hn hb h0 hB hp
  have hcb := h.below hb h0 hB hn
  obtain ⟨z, hz⟩ : ∃ z, D b = some z := by
    cases e : D b with
    | none => exact absurd e (h.known b hb h0)
    | some z => exact ⟨z, rfl⟩
  have hcz : Anc D c z := by
    rcases hcb.cases' with e | ⟨z', e, k⟩
    · subst e; omega
    · rw [hz] at e; injection e with e; subst e; exact k
  have hsub := fun {y x : Nat} (k : Anc (upd D b c) y x) => anc_upd_sub h.tr t1 hcb k
  refine ⟨c, z, hc, ⟨t2, ?_, ?_, ?_, ?_⟩, hz, h.tr.num_le hcz, fun e => hn.inj c z hB.lt (h.tr.lt b z hz).2.1 e⟩
  · intro x hx hx0
    unfold upd
    split
    · simp
    · exact h.known x hx hx0
  · intro x hx hx0 y hy
    by_cases e : x = b
    · subst e
      exact (anc_upd_self h.tr t1).2 (.inr (hB.near y fun p hp _ => hsub (hy p hp)))
    · have hyx : Anc D y x := h.post x hx hx0 y fun p hp => hsub (hy p hp)
      by_cases hbx : Anc D b x
      · rw [anc_upd_of h.tr t1 hbx]
        rcases hyx.line hbx with h1 | h1
        · by_cases hyb : y = b
          · subst hyb; exact .inl ⟨hyx, .refl⟩
          · refine .inr ?_
            have hbp : Anc D b (par x) := by
              have := h.tr.num_lt hbx (fun e2 => e e2.symm)
              exact h.high x hx hx0 (by omega) b (by omega) (fun e2 => e e2.symm) hbx
            have hpx := (hn.par x hx hx0).1
            rcases (anc_upd_of h.tr t1 hbp).1 (hy _ hpx) with h2 | h2
            · have h3 := h.tr.num_le h2.2
              have h4 := h.tr.num_lt h1 hyb
              omega
            · exact h2
        · exact .inl ⟨hyx, h1⟩
      · exact (anc_upd_of_not hbx).2 hyx
  · intro x hx hx0 hxi y hy hyx
    by_cases e : x = b
    · subst e
      rw [anc_upd_low h.tr (by omega)]
      rcases (anc_upd_self h.tr t1).1 hyx with e | hyc
      · exact absurd e hy
      · exact hyc.trans (hB.below _ p1 hp)
    · have hne : num x ≠ i := fun e2 => e (hn.inj x b hx hb (by omega))
      have := (hn.par x hx hx0).2
      rw [anc_upd_low h.tr (by omega)] at hyx ⊢
      exact h.low x hx hx0 (by omega) y hy hyx
  · intro x hx hx0 hxi y hyi hy hyx
    rw [anc_upd_high h.tr t1 (by omega)] at hyx ⊢
    exact h.high x hx hx0 (by omega) y (by omega) hy hyx

/-- what falls -/
def mu (num : Nat → Nat) (D : Nat → Option Nat) (l : List Nat) : Nat := (l.map fun x => match D x with | some z => num z | none => 0).sum
theorem mu_same {c b : Nat} {l : List Nat} (h : b ∉ l) : mu num (upd D b c) l = mu num D l := by
  unfold mu
  congr 1
  refine List.map_congr_left fun x hx => ?_
  have : x ≠ b := fun e => h (e ▸ hx)
  simp [upd, this]
theorem mu_upd {c z b : Nat} {l : List Nat} (hnd : l.Nodup) (hb : b ∈ l) (hz : D b = some z) : mu num (upd D b c) l + num z = mu num D l + num c := by
  induction l with
  | nil => cases hb
  | cons a l ih =>
    obtain ⟨h1, h2⟩ := List.nodup_cons.1 hnd
    by_cases e : a = b
    · subst e
      have := mu_same (num := num) (D := D) (c := c) h1
      simp only [mu, List.map_cons, List.sum_cons] at this ⊢
      rw [this]
      simp [upd, hz]
      omega
    · have hb2 : b ∈ l := by
        rcases List.mem_cons.1 hb with h3 | h3
        · exact absurd h3.symm e
        · exact h3
      have := ih h2 hb2
      simp only [mu, List.map_cons, List.sum_cons] at this ⊢
      have h5 : upd D b c a = D a := by simp [upd, e]
      rw [h5]
      omega
theorem mu_le (h : Tr n P num par D) (hlt : ∀ x, x < n → num x ≤ n) (l : List Nat) : mu num D l ≤ l.length * n := by
  induction l with
  | nil => simp [mu]
  | cons a l ih =>
    simp only [mu, List.map_cons, List.sum_cons, List.length_cons, Nat.add_mul, Nat.one_mul] at ih ⊢
    have : (match D a with | some z => num z | none => 0) ≤ n := by
      cases e : D a with
      | none => simp
      | some z => exact hlt z (h.lt a z e).2.1
    omega

/-- nothing changes any more -/
def Fix (n : Nat) (P : Nat → List Nat) (num : Nat → Nat) (k : Nat) (D : Nat → Option Nat) : Prop := ∀ b, b < n → b ≠ 0 → ∃ c, bestN D num k (P b) none = some (some c) ∧ D b = some c
theorem pass_mid (hn : Net n P num par) {k : Nat} (hk : ∀ a b, a < n → b < n → num a + num b < k) {l : List Nat} (hl : Line n num l) (hnd : l.Nodup) (h : Mid n P num par 1 D) : ∀ j, j ≤ l.length →
    Mid n P num par (j + 1) (passC P num k D (l.take j)).1 ∧ mu num (passC P num k D (l.take j)).1 l ≤ mu num D l ∧
      ((passC P num k D (l.take j)).2 = true → mu num (passC P num k D (l.take j)).1 l < mu num D l) ∧
      ((passC P num k D (l.take j)).2 = false → (passC P num k D (l.take j)).1 = D ∧ ∀ i (hi : i < j) (hil : i < l.length), ∃ c, bestN D num k (P l[i]) none = some (some c) ∧ D l[i] = some c)
  | 0, _ => ⟨by simpa [passC] using h, by simp [passC], by simp [passC], fun _ => ⟨by simp [passC], fun i hi => by omega⟩⟩
  | j + 1, hj => by
    obtain ⟨h1, h2, h3, h4⟩ := pass_mid hn hk hl hnd h j (by omega)
    have hlt : j < l.length := by omega
    obtain ⟨b1, b2⟩ := hl.lt _ (List.getElem_mem hlt)
    rw [List.take_succ_eq_append_getElem hlt, passC_snoc]
    obtain ⟨c, z, c1, c2, c3, c4, c5⟩ := h1.step hn hk b1 b2 (hl.place j hlt)
    generalize hst : passC P num k D (l.take j) = st at *
    obtain ⟨e1, e2⟩ := stepC_eq (P := P) (num := num) (k := k) (st := st) c1
    have hmu := mu_upd (num := num) (c := c) hnd (List.getElem_mem hlt) c3
    rw [e1]
    refine ⟨c2, by omega, fun hch => ?_, fun hch => ?_⟩
    · rcases e2.1 hch with h5 | h5
      · have := h3 h5; omega
      · have : num c ≠ num z := fun e => h5 (by rw [c3, c5 e])
        omega
    · have h6 : ¬ (st.2 = true ∨ st.1 l[j] ≠ some c) := fun h7 => by rw [e2.2 h7] at hch; cases hch
      have h7 : st.2 = false := by
        cases e : st.2 with
        | false => rfl
        | true => exact absurd (.inl e) h6
      have h8 : st.1 l[j] = some c := Classical.byContradiction fun e => h6 (.inr e)
      obtain ⟨h9, h10⟩ := h4 h7
      refine ⟨?_, fun i hi hil => ?_⟩
      · funext x
        unfold upd
        split
        · rename_i hx; rw [hx, ← h9, h8]
        · rw [h9]
      · by_cases e : i = j
        · subst e; rw [← h9]; exact ⟨c, c1, h8⟩
        · exact h10 i (by omega) hil
theorem pass_one (hn : Net n P num par) {k : Nat} (hk : ∀ a b, a < n → b < n → num a + num b < k) {l : List Nat} (hl : Line n num l) : ∀ j, j ≤ l.length → One n P num par (j + 1) (passC P num k (fun _ => none) (l.take j)).1
  | 0, _ => by simpa [passC] using One.zero hn
  | j + 1, hj => by
    have h1 := pass_one hn hk hl j (by omega)
    have hlt : j < l.length := by omega
    obtain ⟨b1, b2⟩ := hl.lt _ (List.getElem_mem hlt)
    rw [List.take_succ_eq_append_getElem hlt, passC_snoc]
    obtain ⟨c, c1, c2⟩ := h1.step hn hk b1 b2 (hl.place j hlt)
    rw [(stepC_eq c1).1]
    exact c2
theorem Line.num_lt {l : List Nat} (hl : Line n num l) (hn : Net n P num par) : ∀ x, x < n → num x < l.length + 1 := by
  intro x hx
  by_cases h0 : x = 0
  · subst h0; rw [hn.zero]; omega
  · obtain ⟨j, hj, rfl⟩ := List.mem_iff_getElem.1 (hl.all x hx h0)
    rw [hl.place j hj]; omega
/-- who stands on the way up is who must be passed -/
theorem Fix.dom (hn : Net n P num par) {k : Nat} (hk : ∀ a b, a < n → b < n → num a + num b < k) (h : Mid n P num par 1 D) (hf : Fix n P num k D) {y x : Nat} (hx : x < n) : Anc D y x ↔ ¬ Rw P n y x := by
  constructor
  · intro ha hr
    induction hr with
    | zero h0 => exact h0 (h.tr.zero_only ha)
    | @step x z hr hz hxz hne ih =>
      have hxn := hn.plt z hz x hxz
      by_cases z0 : z = 0
      · subst z0; exact hne (h.tr.zero_only ha).symm
      · obtain ⟨c, c1, c2⟩ := hf z hz z0
        have hB := Best.of hn h.tr hk hz c1
        rcases ha.cases' with e | ⟨z', e, ha⟩
        · exact hne e.symm
        · rw [c2] at e; injection e with e; subst e
          refine ih hxn (ha.trans (hB.below x hxz ?_))
          by_cases e : x = 0
          · exact .inl e
          · exact .inr (h.known x hxn e)
  · refine h.tr.dom x ?_ y
    by_cases e : x = 0
    · exact .inl e
    · exact .inr (h.known x hx e)
end
end Go.Proofs.Ytkmgbejhbkbaoaa

/- The program's graph: its edges, one by one. -/
namespace Go.Proofs.Ytkmgbejhbkbaoaa
set_option linter.unusedSimpArgs false
set_option linter.unusedVariables false
open Go.RowKit Go.Shelf
attribute [local go_sem] Oper.semAt_some

/-- the edges, in order: those of the first k rows -/
def edgesTo (g : List (List Nat)) (k : Nat) : List (Nat × Nat) := (g.take k).zipIdx.flatMap fun p => p.1.map fun b => (p.2, b)
def edgesF (g : List (List Nat)) : List (Nat × Nat) := edgesTo g g.length
theorem edgesTo_succ (g : List (List Nat)) {k : Nat} (hk : k < g.length) : edgesTo g (k + 1) = edgesTo g k ++ g[k].map fun b => (k, b) := by
  unfold edgesTo
  rw [List.take_succ_eq_append_getElem hk, List.zipIdx_append, List.flatMap_append]
  simp [Nat.min_eq_left (Nat.le_of_lt hk)]
theorem edgesTo_prefix (g : List (List Nat)) {k : Nat} (hk : k ≤ g.length) : edgesTo g k <+: edgesF g := by
  have key : ∀ d, k + d ≤ g.length → edgesTo g k <+: edgesTo g (k + d) := by
    intro d
    induction d with
    | zero => intro _; exact List.prefix_refl _
    | succ d ih =>
      intro hd
      rw [← Nat.add_assoc, edgesTo_succ g (by omega)]
      exact (ih (by omega)).trans (List.prefix_append _ _)
  have := key (g.length - k) (by omega)
  rwa [show k + (g.length - k) = g.length from by omega] at this
def encE (x : Nat × Nat) : Array Value := #[.int .i64 (x.1 : Int), .int .i64 (x.2 : Int)]

set_option maxRecDepth 20000 in
set_option maxHeartbeats 800000 in
theorem edges1_iter {w : World} {S : List Nat} {v : Value} {g : List (List Nat)} (h : SlR kRow 22 w S v g) (hg : Good g) (hn : g.length ≤ 1073741824) {B : Nat} (hB : w.cell? ⟨B, 0, none⟩ = some v) :
    IterFp 4 Try.prog 75 #[.pointer (some ⟨B, 0, none⟩)] encE (edgesF g) (B :: S) w := by
  intro l T Tx So W hx hT hY h0 hSo
  obtain ⟨A, cap, rfl, hcap⟩ := h.shape
  have hB1 := hx.cell hB (by simp)
  have h1 := h.ext0 hx
  refine callsIn_of_wp Try.func75 rfl trivial ?_ rfl
  simp only [Try.ntmps75, List.size_toArray, List.length_cons, List.length_nil, Nat.reduceAdd, Nat.reduceSub, Array.replicate_succ, Array.replicate_zero, List.push_toArray, List.append_toArray, List.nil_append, List.cons_append]
  gi_wp2_with fail
  refine ⟨trivial, (callsIn_wide.2 (clean_calls h1 hg hn)).mono ?_⟩
  rintro e w1 ⟨v1, S1, rfl, hr1, hnew1⟩
  obtain ⟨A1, c1, rfl, _⟩ := hr1.shape
  have h01 := hT _ _ _ _ h0 hnew1.ext
  have hdis0 : ∀ k ∈ S1, k ∉ So := fun k hk hk2 => by have := hnew1.fresh k hk; have := (hSo k hk2).2; omega
  have hfp0 : FpStep So W w1 So := ⟨hnew1.ext.mono (by simp), fun _ h => .inl h⟩
  have hlt0 : ∀ k ∈ So, k < w1.heap.size := fun k hk => by have := (hSo k hk).2; have := hnew1.ext.size; omega
  clear hB1
  gi_wp2
  gi_loopw [10] (fun vi wr => ∃ (i : Nat) (Sn : List Nat), vi = .int .i64 (i : Int) ∧ i ≤ g.length ∧ T (edgesTo g i) Sn wr ∧ FpStep So W wr Sn ∧
    SlR kRow 22 wr S1 (.slice A1 g.length c1) g ∧ Hid (∀ k ∈ S1, k ∉ Sn) ∧ Hid (∀ k ∈ Sn, k < wr.heap.size)) (fun vi _ => g.length - (intOf vi).toNat)
  case atStart => exact ⟨0, So, rfl, by omega, h01, hfp0, hr1, hdis0, hlt0⟩
  case round =>
    obtain ⟨i, Sn, rfl, hi, hTi, hfp, hrr, hdis, hltn⟩ := hrel
    by_cases hlt : i < g.length
    · obtain ⟨b, cap', A, c, Si, hv, hb, hc, hr, hsub⟩ := row_get hrr i hlt
      cases hv
      have hpre := Lib.hid (edgesTo_prefix g (k := i + 1) hlt)
      have hsucc := Lib.hid (edgesTo_succ g hlt)
      have hgd := hg g[i] (List.getElem_mem hlt)
      have hxl : g[i].length ≤ 1073741824 := by
        have : (keptF (g[i].map Int.ofNat) g.length).length ≤ (List.range g.length).length := List.length_filter_le _ _
        rw [kept_same hgd.1 hgd.2, List.length_range] at this; omega
      generalize g[i] = row at *
      gi_wp2
      gi_loopw [17] (fun vj wr => ∃ (j : Nat) (Sn : List Nat), vj = .int .i64 (j : Int) ∧ j ≤ row.length ∧ T (edgesTo g i ++ (row.take j).map fun b => (i, b)) Sn wr ∧ FpStep So W wr Sn ∧
        SlR kRow 22 wr S1 (.slice (some ⟨b, 0, none⟩) g.length c1) g ∧ SlR kNat 3 wr Si (.slice A row.length c) row ∧ Hid (∀ k ∈ S1, k ∉ Sn) ∧ Hid (∀ k ∈ Sn, k < wr.heap.size)) (fun vj _ => row.length - (intOf vj).toNat)
      case atStart => exact ⟨0, Sn, rfl, by omega, by simpa using hTi, hfp, hrr, hr, hdis, hltn⟩
      case round =>
        clear hTi hfp hrr hr hdis hltn hc
        obtain ⟨j, Sn, rfl, hj, hTj, hfp, hrr, hr, hdis, hltn⟩ := hrel
        by_cases hjl : j < row.length
        · obtain ⟨gb, capb, hv, hSi, hcj, hfj⟩ := hr.cell j hjl
          cases hv
          have hsn : row.take (j + 1) = row.take j ++ [row[j]] := List.take_succ_eq_append_getElem hjl
          have hpx : (edgesTo g i ++ (row.take j).map fun b => (i, b)) ++ [(i, row[j])] <+: edgesF g := by
            refine List.IsPrefix.trans ?_ hpre.out
            rw [hsucc.out, List.append_assoc]
            refine List.prefix_append_right_inj _ |>.2 ?_
            have : (row.take j).map (fun b => (i, b)) ++ [(i, row[j])] = (row.take (j + 1)).map fun b => (i, b) := by rw [hsn, List.map_append]; rfl
            rw [this]
            exact (List.take_prefix _ _).map _
          obtain ⟨fn, tmps, assign, body, hy, hR⟩ := hY _ (i, row[j]) Sn wr hTj hpx hltn.out
          simp only [encE] at hy
          have Hsn := Lib.hid hsn
          clear hsn
          generalize hx : row[j] = x at *
          have Hx := Lib.hid hx
          clear hx
          gi_wp2
          refine hR.mono ?_
          rintro e W3 ⟨S3, hfp3, hlt3, ⟨rfl, hT3⟩ | ⟨rfl, hT3⟩⟩
          · have hrr3 := hrr.ext hfp3.1 hdis.out
            have hr3 := hr.ext hfp3.1 fun k hk => hdis.out k (hsub k hk)
            have hdis3 : Hid (∀ k ∈ S1, k ∉ S3) := fun k hk hk3 => by
              rcases hfp3.2 k hk3 with h4 | h4
              · exact hdis.out k hk h4
              · have := hrr.lt k hk; omega
            have hT3' : T (edgesTo g i ++ (row.take (j + 1)).map fun b => (i, b)) S3 W3 := by
              rw [Hsn.out, List.map_append, ← List.append_assoc]
              exact hT3
            have hfp3' := hfp.trans hfp3
            clear hT3 hTj hcj
            gi_wp2
            go_roundw
            case rel => exact ⟨j + 1, S3, by go_num, by omega, hT3', hfp3', hrr3, hr3, hdis3, hlt3⟩
            case measure => simp [intOf]; omega
          · gi_wp2
            refine bodyPost_ret (results_none rfl _ _ _) rfl ?_
            exact ⟨⟨_, rfl⟩, S3, hfp.trans hfp3, .inr ⟨_, hpx, hT3⟩⟩
        · have hje : j = row.length := by omega
          subst hje
          have hTi : T (edgesTo g (i + 1)) Sn wr := by
            rw [hsucc.out]
            rwa [List.take_length] at hTj
          clear hTj
          gi_wp2
          go_roundw
          case rel => exact ⟨i + 1, Sn, by go_num, by omega, hTi, hfp, hrr, hdis, hltn⟩
          case measure => simp [intOf]; omega
    · have hie : i = g.length := by omega
      subst hie
      gi_wp2
      go_end0
      exact ⟨⟨_, rfl⟩, Sn, hfp, .inl hTi⟩

set_option maxRecDepth 20000 in
theorem edges_calls {w : World} (v : Value) (A : Option Addr) (n c : Nat) (hv : v = .slice A n c) :
    Calls Try.prog 53 #[v] w fun e w' => e = .returned (.func (.func 75) #[] #[.pointer (some ⟨w.heap.size, 0, none⟩)]) ∧ w' = w.alloc (.cells #[v] 33) := by
  subst hv
  go_enter Try.func53, Try.ntmps53
  go_wp2
  go_ret
  exact ⟨rfl, rfl⟩
end Go.Proofs.Ytkmgbejhbkbaoaa

/- The program's graph: Preds. -/
namespace Go.Proofs.Ytkmgbejhbkbaoaa
set_option linter.unusedSimpArgs false
set_option linter.unusedVariables false
open Go.RowKit Go.Shelf
attribute [local go_sem] Oper.semAt_some

/-- rows of those from which an edge comes -/
def predsOf (n : Nat) (es : List (Nat × Nat)) : List (List Nat) := (List.range n).map fun b => (es.filter fun e => e.2 == b).map (·.1)
def predsF (g : List (List Nat)) : List (List Nat) := predsOf g.length (edgesF g)
theorem predsOf_snoc {n : Nat} {es : List (Nat × Nat)} {x : Nat × Nat} (hx : x.2 < n) :
    predsOf n (es ++ [x]) = (predsOf n es).set x.2 ((predsOf n es)[x.2]'(by simp [predsOf]; exact hx) ++ [x.1]) := by
  refine List.ext_getElem (by simp [predsOf]) fun i h1 h2 => ?_
  have hi : i < n := by simpa [predsOf] using h1
  rw [List.getElem_set]
  by_cases h : x.2 = i
  · subst h
    simp [predsOf, List.filter_append]
  · rw [if_neg h]
    simp [predsOf, List.filter_append, h]
theorem edges_lt {g : List (List Nat)} (hg : Good g) : ∀ x ∈ edgesF g, x.1 < g.length ∧ x.2 < g.length := by
  intro x hx
  simp only [edgesF, edgesTo, List.take_length, List.mem_flatMap, List.mem_map] at hx
  obtain ⟨p, hp, b, hb, rfl⟩ := hx
  obtain ⟨h1, h2, h3⟩ := List.mem_zipIdx hp
  exact ⟨by omega, (hg p.1 (by rw [h3]; exact List.getElem_mem _)).2 b hb⟩

theorem edgesTo_len {g : List (List Nat)} (hg : Good g) : ∀ k, k ≤ g.length → (edgesTo g k).length ≤ k * g.length
  | 0, _ => by simp [edgesTo]
  | k + 1, hk => by
    have h1 := edgesTo_len hg k (by omega)
    have hgd := hg g[k] (List.getElem_mem (by omega))
    have h2 : (keptF (g[k].map Int.ofNat) g.length).length ≤ (List.range g.length).length := List.length_filter_le _ _
    rw [kept_same hgd.1 hgd.2, List.length_range] at h2
    rw [edgesTo_succ g (by omega), List.length_append, List.length_map, Nat.add_mul, Nat.one_mul]
    omega
theorem edgesF_len {g : List (List Nat)} (hg : Good g) (hn : g.length ≤ 32768) : (edgesF g).length ≤ 1073741824 :=
  Nat.le_trans (edgesTo_len hg g.length (Nat.le_refl _)) (Nat.mul_le_mul hn hn)

set_option maxRecDepth 20000 in
set_option maxHeartbeats 800000 in
theorem preds_calls {w : World} {S : List Nat} {v : Value} {g : List (List Nat)} (h : SlR kRow 22 w S v g) (hg : Good g) (hn : g.length ≤ 32768) :
    Calls Try.prog 36 #[v] w fun e w' => ∃ v' S', e = .returned v' ∧ SlR kRow 22 w' S' v' (predsF g) ∧ New w w' S' := by
  obtain ⟨A, cap, rfl, hcap⟩ := h.shape
  have hmk := run_make_eq Try.underlying33 Try.info22 rfl g.length g.length (by simp) (by omega) (by decide)
  refine (callsIn_wide (n := 5)).1 ?_
  refine callsIn_of_wp_marks Try.func36 rfl trivial ?_ rfl
  simp only [Try.ntmps36, List.size_toArray, List.length_cons, List.length_nil, Nat.reduceAdd, Nat.reduceSub, Array.replicate_succ, Array.replicate_zero, List.push_toArray, List.append_toArray, List.nil_append, List.cons_append]
  gi_wp2_with fail
  refine ⟨trivial, (callsIn_wide.2 (edges_calls _ _ _ _ rfl)).mono ?_⟩
  rintro e w1 ⟨rfl, rfl⟩
  clear hmk
  obtain ⟨So0, hs0, hf0, hn0⟩ := slr_made (d := kRow) (e := 22) (w := w) (zc := #[.slice none 0 0]) (x := []) g.length g.length (by simp [kRow, kSl]) (by omega) rfl (by decide) (fun w => ⟨_, rfl, SlR.nil _ _ _⟩)
  obtain ⟨W0, hW0⟩ : ∃ W0, ((w.alloc (.cells (madeCells #[.slice none 0 0] g.length) 22)).alloc (.cells #[.slice (some ⟨w.heap.size, 0, none⟩) g.length g.length] 33)).alloc (.cells #[.slice A g.length cap] 33) = W0 := ⟨_, rfl⟩
  have hx0 : Ext [] w W0 := by rw [← hW0]; exact (((Ext.refl _ _).alloc _).alloc _).alloc _
  have hsz0 : W0.heap.size = w.heap.size + 3 := by rw [← hW0]; simp
  have hbox : W0.cell? ⟨w.heap.size + 1, 0, none⟩ = some (.slice (some ⟨w.heap.size, 0, none⟩) g.length g.length) := by
    rw [← hW0]
    have := ((Blk.new (w.alloc (.cells (madeCells #[.slice none 0 0] g.length) 22)) #[.slice (some ⟨w.heap.size, 0, none⟩) g.length g.length] 33).alloc (.cells #[.slice A g.length cap] 33)).cell (i := 0) rfl
    simpa using this
  have hgc : W0.cell? ⟨w.heap.size + 2, 0, none⟩ = some (.slice A g.length cap) := by
    rw [← hW0]
    have := (Blk.new ((w.alloc (.cells (madeCells #[.slice none 0 0] g.length) 22)).alloc (.cells #[.slice (some ⟨w.heap.size, 0, none⟩) g.length g.length] 33)) #[.slice A g.length cap] 33).cell (i := 0) rfl
    simpa using this
  have hs00 : SlR kRow 22 W0 So0 (.slice (some ⟨w.heap.size, 0, none⟩) g.length g.length) (List.replicate g.length []) := by
    rw [← hW0]; exact hs0.ext0 (((Ext.refl _ _).alloc _).alloc _)
  have hit := edges1_iter (h.ext0 hx0) hg (by omega) hgc
  simp only [World.size_alloc]
  rw [hW0]
  have HW0 := Lib.hid hW0
  clear hW0
  gi_wp2
  refine wpIn_range_fp (xs := edgesF g) (Sg := (w.heap.size + 2) :: S) rfl (enters_of Try.func75 (by kernel_rfl) rfl) hit (Ext.refl _ _) (fun _ => rfl)
    (fun pre S W => SlR kRow 22 W S (.slice (some ⟨w.heap.size, 0, none⟩) g.length g.length) (predsOf g.length pre) ∧ S.Nodup ∧ w.heap.size + 1 ∉ S ∧
      W.cell? ⟨w.heap.size + 1, 0, none⟩ = some (.slice (some ⟨w.heap.size, 0, none⟩) g.length g.length))
    (fun _ _ _ _ => False) So0 ?hT (fun _ _ _ _ _ _ h _ _ => h) ?h0 ?hSo ?hSg
    (fun x => { tmps := #[.slice A g.length cap, undef, .slice none 0 0, .pointer (some ⟨w.heap.size + 1, 0, none⟩), .int .i64 (x.1 : Int), .int .i64 (x.2 : Int), .slice A g.length cap, .int .i64 (g.length : Int), .slice (some ⟨w.heap.size, 0, none⟩) g.length g.length, .slice A g.length cap, .func (.func 75) #[] #[.pointer (some ⟨w.heap.size + 1 + 1, 0, none⟩)], .int .i64 (x.1 : Int), .int .i64 (x.2 : Int), undef, undef, undef, undef, undef, undef, undef, undef, undef, undef, undef], defers := [] }) ?assign ?body ?done ?stop
  case hT =>
    rintro pre S M A B ⟨t1, t2, t3, t4⟩ hx hM
    exact ⟨t1.ext hx fun k hk hm => (hM k hm).1 hk, t2, t3, hx.cell t4 fun hm => by have := (hM _ hm).2; simp at this; omega⟩
  case h0 => 
    refine ⟨?_, hn0, fun hk => ?_, hbox⟩
    · have : predsOf g.length [] = List.replicate g.length [] := by simp [predsOf, List.map_const']
      rw [this]; exact hs00
    · have := hf0 _ hk; omega
  case hSo =>
    intro k hk
    have h1 := hf0 k hk
    refine ⟨fun hm => ?_, by omega⟩
    rcases List.mem_cons.1 hm with h2 | h2
    · omega
    · have := h.lt k h2; omega
  case hSg =>
    intro k hk
    rcases List.mem_cons.1 hk with h2 | h2
    · omega
    · have := h.lt k h2; omega
  case assign =>
    intro l x W K hK
    simp only [encE]
    gi_wp2
    exact hK
  case body =>
    rintro l pre ⟨a, b⟩ S1 W ⟨t1, t2, t3, t4⟩ hpre hlt hlt2
    have hab := edges_lt hg (a, b) (hpre.subset (by simp))
    simp only at hab
    have hpl : pre.length ≤ 1073741824 := Nat.le_trans ((List.prefix_append pre [(a, b)]).trans hpre).length_le (edgesF_len hg hn)
    obtain ⟨gb, cap', Si, cs, hv, hat⟩ := t1.at b (by simp [predsOf]; exact hab.2)
    have hl : (predsOf g.length pre).length = g.length := by simp [predsOf]
    rw [hl] at hv
    cases hv
    obtain ⟨vv, rfl, hrow⟩ := hat.rep
    have hb1 : (predsOf g.length pre)[b]'(by rw [hl]; exact hab.2) = (pre.filter fun e => e.2 == b).map (·.1) := by simp [predsOf]
    have hrl : ((pre.filter fun e => e.2 == b).map (·.1)).length ≤ pre.length := by rw [List.length_map]; exact List.length_filter_le _ _
    rw [hb1] at hrow
    obtain ⟨Ar, cr, rfl, _⟩ := hrow.shape
    have c1 := hat.cell 0 rfl
    have f1 := hat.frozen b
    simp only [kRow, kSl, Nat.mul_one, Nat.add_zero] at c1
    gi_wp2
    refine wpIn_region_lex (fun W' => W'.cell? ⟨w.heap.size + 1, 0, none⟩ = some (.slice (some ⟨w.heap.size, 0, none⟩) g.length g.length) ∧
        W'.cell? ⟨w.heap.size, b, none⟩ = some (.slice Ar ((pre.filter fun e => e.2 == b).map (·.1)).length cr) ∧ W'.frozen? ⟨w.heap.size, b, none⟩ = false)
      [(0, true), (1, true), (2, true), (3, true), (4, true), (5, true), (6, true), (7, false), (8, false), (9, true), (10, false)] (by kernel_rfl) (by kernel_rfl) ⟨t4, c1, f1⟩ ?_
    refine lex_quiet (.slice (some ⟨w.heap.size, 0, none⟩) g.length g.length) rfl rfl (fun W' hC => by simp [go_sem, hC.1]) ?_
    simp only [put_lit, put_none, List.set_cons_succ, List.set_cons_zero]
    refine lex_quiet (.int .i64 (b : Int)) rfl rfl (fun W' hC => by simp [go_sem]) ?_
    simp only [put_lit, put_none, List.set_cons_succ, List.set_cons_zero]
    refine lex_quiet (.slice (some ⟨w.heap.size, 0, none⟩) g.length g.length) rfl rfl (fun W' hC => by simp [go_sem, hC.1]) ?_
    simp only [put_lit, put_none, List.set_cons_succ, List.set_cons_zero]
    refine lex_quiet (.int .i64 (b : Int)) rfl rfl (fun W' hC => by simp [go_sem]) ?_
    simp only [put_lit, put_none, List.set_cons_succ, List.set_cons_zero]
    refine lex_quiet (.pointer (some ⟨w.heap.size, b, none⟩)) rfl rfl (fun W' hC => by simp [go_sem, hab.2]) ?_
    simp only [put_lit, put_none, List.set_cons_succ, List.set_cons_zero]
    refine lex_quiet (.slice Ar ((pre.filter fun e => e.2 == b).map (·.1)).length cr) rfl rfl (fun W' hC => by simp [go_sem, hC.2.1]) ?_
    simp only [put_lit, put_none, List.set_cons_succ, List.set_cons_zero]
    refine lex_quiet (.int .i64 (a : Int)) rfl rfl (fun W' hC => by simp [go_sem]) ?_
    simp only [put_lit, put_none, List.set_cons_succ, List.set_cons_zero]
    have hsz := hat.lt
    have hszb : w.heap.size + 1 < W.heap.size := by omega
    refine lex_eff (w' := W.drew.alloc (.cells #[.int .i64 (a : Int)] 3)) (.slice (some ⟨W.heap.size, 0, none⟩) 1 1) rfl rfl (by simp [go_sem]) (fun _ => ⟨?_, ?_, ?_⟩) ?_
    · exact ((Ext.refl [] W).drew.alloc _).cell t4 (by simp)
    · exact ((Ext.refl [] W).drew.alloc _).cell c1 (by simp)
    · exact (hat.ext0 ((Ext.refl [] W).drew.alloc _)).frozen b
    simp only [put_lit, put_none, List.set_cons_succ, List.set_cons_zero]
    have hxa : Ext [] W (W.drew.alloc (.cells #[.int .i64 (a : Int)] 3)) := (Ext.refl [] W).drew.alloc _
    have hsrc : Src (W.drew.alloc (.cells #[.int .i64 (a : Int)] 3)) (.slice (some ⟨W.heap.size, 0, none⟩) 1 1) 1 [.int .i64 (a : Int)] := Src.one (w := W.drew) rfl
    have hel : Elems kNat (W.drew.alloc (.cells #[.int .i64 (a : Int)] 3)) [[]] [.int .i64 (a : Int)] [a] := elems_one
    have happ := hrow.ext0 hxa
    generalize hLL : (pre.filter fun e => e.2 == b).map (·.1) = L at *
    refine lex_append (d := kNat) (ys := [a]) (v := .slice Ar L.length cr) (xv := .slice (some ⟨W.heap.size, 0, none⟩) 1 1) rfl rfl (.tmp 18) (.tmp 20) 22 rfl ei_int rfl happ rfl [.int .i64 (a : Int)] [[]] hel rfl (one_one rfl) hsrc (by simp) (le_maxLen (by omega)) (le_bytes (by omega) (by decide)) ?_
    intro v' w' S' hs' hx' hf' hn'
    have hne : w.heap.size ∉ Si := hat.notin
    have hxx : Ext Si W w' := (hxa.mono (by simp)).same hx'
    have hm := hat.mem
    obtain ⟨A', c', rfl, _⟩ := hs'.shape
    refine ⟨fun _ => ⟨?_, ?_, ?_⟩, ?_⟩
    · exact hxx.cell t4 fun h => t3 (hm.2 _ h)
    · exact hxx.cell c1 hne
    · rw [hxx.frozen (p := ⟨w.heap.size, b, none⟩) hsz hne]; exact f1
    simp only [put_lit, put_none, List.set_cons_succ, List.set_cons_zero]
    have e1 := hxx.cell c1 hne
    refine lex_quiet (.pointer (some ⟨w.heap.size, b, none⟩)) rfl rfl (fun W' hC => by simp [go_sem, hab.2]) ?_
    simp only [put_lit, put_none, List.set_cons_succ, List.set_cons_zero]
    have e2 : w'.frozen? ⟨w.heap.size, b, none⟩ = false := by rw [hxx.frozen (p := ⟨w.heap.size, b, none⟩) hsz hne]; exact f1
    refine lex_eff0 (w' := w'.setCell ⟨w.heap.size, b, none⟩ (.slice A' (L ++ [a]).length c')) rfl rfl (by simp [go_sem, e1, e2]) (by simp) ?_
    simp only [put_lit, put_none, List.set_cons_succ, List.set_cons_zero]
    have hS'1 : ∀ k ∈ S', k ∈ Si ∨ W.heap.size ≤ k := fun k hk => by
      rcases hf' k hk with h3 | h3 | h3
      · exact .inl h3
      · simp at h3; exact .inr (by omega)
      · simp at h3
    have hgS' : w.heap.size ∉ S' := fun h3 => by
      rcases hS'1 _ h3 with h4 | h4
      · exact hne h4
      · omega
    obtain ⟨S2, p1, p2, p3, p4⟩ := hat.put t2 (w1 := w') hxx 0 (by decide) (.slice A' (L ++ [a]).length c') (x' := L ++ [a]) (Sx := S')
      ⟨_, rfl, hs'.move fun k hk => Below.heap_setCell w' _ _ k (fun h4 => hgS' (Eq.subst (motive := fun z => z ∈ S') (show k = w.heap.size from h4) hk))⟩ hS'1
    simp only [kRow, kSl, Nat.mul_one, Nat.add_zero] at p1 p4
    refine ⟨S2, ⟨p4, p2⟩, fun k hk => p1.lt k hk, ?_, ?_, ?_, ?_⟩
    · rw [hl] at p1
      have hset := predsOf_snoc (n := g.length) (es := pre) (x := (a, b)) hab.2
      rw [hset]
      simp only [hb1]
      exact p1
    · exact p3 (hn' (hat.nodup t2) (by simp))
    · intro hk
      rcases p2 _ hk with h4 | h4
      · exact t3 h4
      · omega
    · exact p4.cell t4 t3
  case done =>
    rintro D S1 W hD hDS ⟨t1, t2, t3, t4⟩ hfp hdef
    gi_wp2
    have hxD : Ext [D] W (W.putObj D (.deferred none)) := (Ext.refl _ _).putObj (.inl (by simp)) _
    refine ⟨by simp, .inl ⟨_, _, rfl, run_takeDeferred hdef, ?_⟩⟩
    refine ⟨_, results_tmp rfl _ _ _, .slice (some ⟨w.heap.size, 0, none⟩) g.length g.length, S1, rfl, t1.ext hxD (fun k hk => by simp; rintro rfl; exact hDS hk), ⟨(hx0.trans hfp.1 fun k hk => .inr (by have := hf0 k hk; omega)).trans hxD fun k hk => .inr (by simp at hk; omega), fun k hk => ?_, t2⟩⟩
    rcases hfp.2 k hk with h1 | h1
    · have := hf0 k h1; omega
    · omega
  case stop =>
    rintro D c pre S1 W _ _ _ h
    exact h.elim
end Go.Proofs.Ytkmgbejhbkbaoaa

/- Plain: the program's way to dominators: its lists, and what they are. -/
namespace Go.Proofs.Ytkmgbejhbkbaoaa
set_option linter.unusedSimpArgs false
set_option linter.unusedVariables false

/-- x is come to from 0 without y -/
inductive Rwo (g : List (List Nat)) (y : Nat) : Nat → Prop
  | zero : y ≠ 0 → Rwo g y 0
  | step {x z : Nat} : Rwo g y x → Ed g x z → z ≠ y → Rwo g y z

def prd (g : List (List Nat)) (x : Nat) : List Nat := (predsF g).getD x []
theorem mem_edgesF {g : List (List Nat)} {a b : Nat} : (a, b) ∈ edgesF g ↔ Ed g a b := by
  simp only [edgesF, edgesTo, List.take_length, List.mem_flatMap, List.mem_map, Ed]
  constructor
  · rintro ⟨p, hp, x, hx, he⟩
    obtain ⟨h1, h2, h3⟩ := List.mem_zipIdx hp
    simp only [Prod.mk.injEq] at he
    obtain ⟨rfl, rfl⟩ := he
    rw [h3] at hx
    simp only [Nat.sub_zero] at hx
    rw [List.getD_eq_getElem?_getD, List.getElem?_eq_getElem (by omega)]
    exact hx
  · intro h
    by_cases ha : a < g.length
    · rw [List.getD_eq_getElem?_getD, List.getElem?_eq_getElem ha] at h
      exact ⟨(g[a], a), by rw [List.mem_zipIdx_iff_getElem?]; simp [ha], b, h, rfl⟩
    · rw [List.getD_eq_getElem?_getD, List.getElem?_eq_none (by omega)] at h
      simp at h
theorem mem_prd {g : List (List Nat)} {x p : Nat} (hx : x < g.length) : p ∈ prd g x ↔ Ed g p x := by
  rw [← mem_edgesF, prd, predsF, predsOf, List.getD_eq_getElem?_getD, List.getElem?_map, List.getElem?_range hx]
  simp only [Option.map_some, Option.getD_some, List.mem_map, List.mem_filter, beq_iff_eq]
  constructor
  · rintro ⟨⟨a, b⟩, ⟨h1, h2⟩, rfl⟩
    simp only at h2
    subst h2; exact h1
  · intro h; exact ⟨(p, x), ⟨h, rfl⟩, rfl⟩
theorem Ed.lt {g : List (List Nat)} (hg : Good g) {a b : Nat} (h : Ed g a b) : a < g.length ∧ b < g.length := edges_lt hg (a, b) (mem_edgesF.2 h)
theorem Rch.lt {g : List (List Nat)} (hg : Good g) (h0 : 0 < g.length) {x : Nat} (h : Rch g 0 x) : x < g.length := by
  cases h with
  | refl => exact h0
  | step _ e => exact (Ed.lt hg e).2

def numF (g : List (List Nat)) (x : Nat) : Nat := (orderF g).idxOf x
open Classical in
noncomputable def parF (g : List (List Nat)) (x : Nat) : Nat := if h : ∃ p, p ∈ prd g x ∧ numF g p < numF g x then h.choose else 0
/-- all blocks are reached -/
def AllR (g : List (List Nat)) : Prop := 0 < g.length ∧ ∀ x, x < g.length → Rch g 0 x

theorem idxOf_append_cons {l m : List Nat} {x : Nat} (h : x ∉ l) : (l ++ x :: m).idxOf x = l.length := by
  rw [List.idxOf_append, if_neg h]; simp
section
variable {g : List (List Nat)}
theorem net_of (hg : Good g) (ha : AllR g) : Net g.length (prd g) (numF g) (parF g) := by
  have ho := orderF_ord ha.1 (fun row hr b hb => (hg row hr).2 b hb)
  have hmem : ∀ x, x < g.length → x ∈ orderF g := fun x hx => (ho.mem x).2 (ha.2 x hx)
  refine ⟨ha.1, fun x y hx hy he => ?_, ?_, fun b hb p hp => ?_, fun b hb h0 => ?_⟩
  · have h1 := List.idxOf_lt_length_iff.2 (hmem x hx)
    have h2 := List.idxOf_lt_length_iff.2 (hmem y hy)
    have h3 : (orderF g)[(orderF g).idxOf x] = x := List.getElem_idxOf h1
    have h4 : (orderF g)[(orderF g).idxOf y] = y := List.getElem_idxOf h2
    unfold numF at he
    rw [← h3, ← h4]
    simp only [he]
  · obtain ⟨r, hr⟩ := ho.first
    rw [numF, hr]; simp
  · exact (Ed.lt hg ((mem_prd hb).1 hp)).1
  · have hex : ∃ p, p ∈ prd g b ∧ numF g p < numF g b := by
      obtain ⟨pre, post, he⟩ := List.append_of_mem (hmem b hb)
      have hnd := ho.nodup
      rw [he] at hnd
      obtain ⟨n1, n2, n3⟩ := List.nodup_append.1 hnd
      have hbp : b ∉ pre := fun h => n3 b h b (by simp) rfl
      rcases ho.par pre b post he with h1 | ⟨p, hp, hpe⟩
      · exact absurd h1 h0
      · refine ⟨p, (mem_prd hb).2 hpe, ?_⟩
        unfold numF
        rw [he, idxOf_append_cons hbp, List.idxOf_append, if_pos hp]
        exact List.idxOf_lt_length_iff.2 hp
    unfold parF
    rw [dif_pos hex]
    exact hex.choose_spec
theorem line_of (hg : Good g) (ha : AllR g) : Line g.length (numF g) (orderF g).tail := by
  have ho := orderF_ord ha.1 (fun row hr b hb => (hg row hr).2 b hb)
  obtain ⟨r, hr⟩ := ho.first
  have hnd := ho.nodup
  rw [hr] at hnd
  obtain ⟨n1, n2⟩ := List.nodup_cons.1 hnd
  refine ⟨fun b hb => ?_, fun x hx h0 => ?_, fun j hj => ?_⟩
  · have hb' : b ∈ r := by simpa [hr] using hb
    have : b ∈ orderF g := by rw [hr]; simp [hb']
    exact ⟨Rch.lt hg ha.1 ((ho.mem b).1 this), fun e => n1 (e ▸ hb')⟩
  · have : x ∈ orderF g := (ho.mem x).2 (ha.2 x hx)
    rw [hr] at this ⊢
    rcases List.mem_cons.1 this with h | h
    · exact absurd h h0
    · exact h
  · have key : ∀ o, o = 0 :: r → ∀ (hj : j < o.tail.length), o.idxOf o.tail[j] = j + 1 := by
      rintro o rfl hj
      simp only [List.tail_cons] at hj ⊢
      have h1 : (0 == r[j]) = false := beq_eq_false_iff_ne.2 fun e => n1 (e ▸ List.getElem_mem hj)
      rw [List.idxOf_cons, List.Nodup.idxOf_getElem n2, h1]
      rfl
    exact key _ hr hj
theorem order_len (hg : Good g) (ha : AllR g) : (orderF g).length = g.length := by
  have ho := orderF_ord ha.1 (fun row hr b hb => (hg row hr).2 b hb)
  have : (orderF g).Perm (List.range g.length) := (List.perm_ext_iff_of_nodup ho.nodup List.nodup_range).2 fun x => by
    rw [ho.mem, List.mem_range]
    exact ⟨fun h => Rch.lt hg ha.1 h, fun h => ha.2 x h⟩
  rw [this.length_eq, List.length_range]
theorem rw_iff (hg : Good g) {y x : Nat} : Rw (prd g) g.length y x ↔ Rwo g y x := by
  constructor
  · intro h
    induction h with
    | zero h => exact .zero h
    | step _ hz hx hne ih => exact .step ih ((mem_prd hz).1 hx) hne
  · intro h
    induction h with
    | zero h => exact .zero h
    | step _ he hne ih => exact .step ih (Ed.lt hg he).2 ((mem_prd (Ed.lt hg he).2).2 he) hne

/-- as the program has it -/
def oi : Option Nat → Int
  | none => -1
  | some z => (z : Int)
def outL (n : Nat) (D : Nat → Option Nat) : List Int := (List.range n).map fun x => oi (D x)
@[simp] theorem outL_len (n : Nat) (D : Nat → Option Nat) : (outL n D).length = n := by simp [outL]
theorem outL_get {n : Nat} {D : Nat → Option Nat} {x : Nat} (hx : x < (outL n D).length) : (outL n D)[x] = oi (D x) := by simp [outL]
theorem outL_upd {n : Nat} {D : Nat → Option Nat} {b c : Nat} : outL n (upd D b c) = (outL n D).set b (c : Int) := by
  refine List.ext_getElem (by simp) fun i h1 h2 => ?_
  rw [outL_get, List.getElem_set, outL_get]
  unfold upd
  by_cases h : i = b
  · subst h; simp [oi]
  · rw [if_neg h, if_neg (fun e => h e.symm)]
/-- what Idom leaves -/
def IdomOk (g : List (List Nat)) (idom : List Int) : Prop := idom.length = g.length ∧ ∀ a b, a < g.length → b < g.length → (domF idom a b = true ↔ ¬ Rwo g a b)

theorem anc_chain {n : Nat} {P : Nat → List Nat} {num par : Nat → Nat} {D : Nat → Option Nat} (hn : Net n P num par) (h : Tr n P num par D) {a : Nat} : ∀ (k : Nat) (b : Nat), b < n → num b < k → (chainF (outL n D) a k b = true ↔ Anc D a b) := by
  intro k
  induction k with
  | zero => intro b _ h; omega
  | succ k ih =>
    intro b hb hk
    rw [chainF]
    by_cases e : (a : Int) = (b : Int)
    · rw [if_pos e]
      have : a = b := by omega
      subst this
      simp [Anc.refl]
    · rw [if_neg e, if_pos (by simp; omega)]
      have hne : a ≠ b := fun h => e (by rw [h])
      have hgd : (outL n D).getD ((b : Int)).toNat 0 = oi (D b) := by
        have hbl : b < (outL n D).length := by simpa using hb
        have : ((b : Int)).toNat = b := by omega
        rw [this, List.getD_eq_getElem?_getD, List.getElem?_eq_getElem hbl, outL_get]; rfl
      rw [hgd]
      cases hD : D b with
      | none =>
        have h1 : chainF (outL n D) (a : Int) k (-1) = false := by
          cases k with
          | zero => rfl
          | succ k => rw [chainF, if_neg (by omega), if_neg (by omega)]
        simp only [oi, h1, Bool.false_eq_true, false_iff]
        intro ha
        rcases ha.cases' with h2 | ⟨z, h2, _⟩
        · exact hne h2
        · rw [hD] at h2; cases h2
      | some z =>
        obtain ⟨_, z1, z2⟩ := h.lt b z hD
        have hi := ih z z1 (by omega)
        simp only [oi]
        rw [hi]
        constructor
        · intro ha; exact .up hD ha
        · intro ha
          rcases ha.cases' with h2 | ⟨z', h2, h3⟩
          · exact absurd h2 hne
          · rw [hD] at h2; injection h2 with h2; subst h2; exact h3
theorem idom_ok (hg : Good g) (ha : AllR g) {k : Nat} (hk : ∀ a b, a < g.length → b < g.length → numF g a + numF g b < k) {D : Nat → Option Nat} (h : Mid g.length (prd g) (numF g) (parF g) 1 D) (hf : Fix g.length (prd g) (numF g) k D) :
    IdomOk g (outL g.length D) := by
  have hn := net_of hg ha
  refine ⟨by simp, fun a b hla hlb => ?_⟩
  have hlen := order_len hg ha
  have hnum : numF g b < g.length + 1 := by
    have := (line_of hg ha).num_lt hn b hlb
    rw [List.length_tail, hlen] at this
    omega
  rw [domF, if_pos (by simp; omega), outL_len, anc_chain hn h.tr (g.length + 1) b hlb hnum, Fix.dom hn hk h hf hlb, rw_iff hg]
end
end Go.Proofs.Ytkmgbejhbkbaoaa

/- The program's graph: common. -/
namespace Go.Proofs.Ytkmgbejhbkbaoaa
set_option linter.unusedSimpArgs false
set_option linter.unusedVariables false
open Go.RowKit

def numI (n : Nat) (num : Nat → Nat) : List Int := (List.range n).map fun x => (num x : Int)
@[simp] theorem numI_len (n : Nat) (num : Nat → Nat) : (numI n num).length = n := by simp [numI]
theorem numI_get {n : Nat} {num : Nat → Nat} {x : Nat} (hx : x < (numI n num).length) : (numI n num)[x] = (num x : Int) := by simp [numI]

theorem sl_cell {w : World} {S : List Nat} {A : Option Addr} {m c : Nat} {l : List Int} (h : SlR kInt 3 w S (.slice A m c) l) (i : Nat) (hi : i < l.length) : ∃ b, A = some ⟨b, 0, none⟩ ∧ w.cell? ⟨b, i, none⟩ = some (.int .i64 l[i]) := by
  obtain ⟨b, cap, hv, _, hc, _⟩ := h.cell i hi
  cases hv
  exact ⟨b, rfl, hc⟩

set_option maxRecDepth 20000 in
set_option maxHeartbeats 400000 in
theorem common_calls {w : World} {S1 S2 : List Nat} {v1 v2 : Value} {n : Nat} {D : Nat → Option Nat} {num : Nat → Nat} (h1 : SlR kInt 3 w S1 v1 (outL n D)) (h2 : SlR kInt 3 w S2 v2 (numI n num))
    (hD : ∀ x z, D x = some z → z < n) (k a b c : Nat) (h : comN D num k a b = some c) (ha : a < n) (hb : b < n) :
    Calls Try.prog 37 #[v1, v2, .int .i64 (a : Int), .int .i64 (b : Int)] w fun e w' => e = .returned (.int .i64 (c : Int)) ∧ Ext [] w w' := by
  obtain ⟨A1, c1, rfl, _⟩ := h1.shape
  obtain ⟨A2, c2, rfl, _⟩ := h2.shape
  simp only [outL_len, numI_len] at *
  have HD := Lib.hid hD
  have H := Lib.hid h
  clear hD h
  go_enter Try.func37, Try.ntmps37
  go_wp2
  go_step3
  go_wp2
  go_step3
  go_wp2
  go_loopg [2, 3] k (fun k va vb wr => ∃ a b : Nat, va = .int .i64 (a : Int) ∧ vb = .int .i64 (b : Int) ∧ a < n ∧ b < n ∧ Hid (comN D num k a b = some c) ∧ ∃ m, wr = w.drewN m)
  case atStart => exact ⟨a, b, rfl, rfl, ha, hb, H, 0, rfl⟩
  case round =>
    obtain ⟨a1, b1, rfl, rfl, ha1, hb1, H1, m, rfl⟩ := hrel
    clear H
    cases gk with
    | zero => exact absurd H1.out (by simp [comN])
    | succ k1 =>
      have h := H1.out
      clear H1
      simp only [comN] at h
      obtain ⟨p2, rfl, hca⟩ := sl_cell h2 a1 (by simpa using ha1)
      obtain ⟨_, hx, hcb⟩ := sl_cell h2 b1 (by simpa using hb1)
      cases hx
      obtain ⟨p1, rfl, hia⟩ := sl_cell h1 a1 (by simpa using ha1)
      obtain ⟨_, hx, hib⟩ := sl_cell h1 b1 (by simpa using hb1)
      cases hx
      rw [numI_get] at hca hcb
      rw [outL_get] at hia hib
      split at h
      · rename_i hlt
        have hlt' : (num b1 : Int) < (num a1 : Int) := by omega
        cases e : D a1 with
        | none => rw [e] at h; cases h
        | some z =>
          rw [e] at h hia
          have hz := HD.out a1 z e
          simp only [oi] at h hia
          have H := Lib.hid h
          clear h e hlt
          go_wp2
          go_quiet (fail)
          go_wp2
          go_roundg k1
          case measure => omega
          case rel => exact ⟨_, _, rfl, rfl, hz, hb1, H, _, rfl⟩
      · rename_i hlt
        have hlt' : ¬ (num b1 : Int) < (num a1 : Int) := by omega
        split at h
        · rename_i hlt2
          have hlt2' : (num a1 : Int) < (num b1 : Int) := by omega
          cases e : D b1 with
          | none => rw [e] at h; cases h
          | some z =>
            rw [e] at h hib
            have hz := HD.out b1 z e
            simp only [oi] at h hib
            have H := Lib.hid h
            clear h e hlt hlt2
            go_wp2
            go_quiet (fail)
            go_wp2
            go_quiet (fail)
            go_wp2
            go_roundg k1
            case measure => omega
            case rel => exact ⟨_, _, rfl, rfl, ha1, hz, H, _, rfl⟩
        · rename_i hlt2
          have hlt2' : ¬ (num a1 : Int) < (num b1 : Int) := by omega
          obtain rfl := Option.some.inj h
          clear hlt hlt2
          go_wp2
          go_quiet (fail)
          go_wp2
          go_quiet (fail)
          go_wp2
          rw [Exit.noGoto_ret]
          go_ret
          exact ⟨rfl, (((Ext.refl _ _).drewN _).drewN _).drewN _⟩

/-- numbers that come one by one: those of the first i of a row -/
def npart (o : List Nat) (n i : Nat) : List Int := (List.range n).map fun x => if o.idxOf x < i then (o.idxOf x : Int) else -1
@[simp] theorem npart_len (o : List Nat) (n i : Nat) : (npart o n i).length = n := by simp [npart]
theorem npart_zero (o : List Nat) (n : Nat) : npart o n 0 = List.replicate n (-1) := by
  refine List.ext_getElem (by simp) fun i h1 h2 => ?_
  simp [npart]
theorem npart_set {o : List Nat} {n i : Nat} (hn : o.Nodup) (hi : i < o.length) : (npart o n i).set o[i] (i : Int) = npart o n (i + 1) := by
  refine List.ext_getElem (by simp) fun x h1 h2 => ?_
  have hx : x < n := by simpa using h2
  have hid : o.idxOf o[i] = i := List.Nodup.idxOf_getElem hn i hi
  rw [List.getElem_set]
  simp only [npart, List.getElem_map, List.getElem_range]
  by_cases e : o[i] = x
  · rw [if_pos e, ← e, hid, if_pos (by omega)]
  · rw [if_neg e]
    have hne : o.idxOf x ≠ i := fun h => by
      by_cases hm : x ∈ o
      · have h3 := List.idxOf_lt_length_iff.2 hm
        have h4 : o[o.idxOf x] = x := List.getElem_idxOf h3
        simp only [h] at h4
        exact e h4
      · rw [List.idxOf_eq_length hm] at h; omega
    by_cases h3 : o.idxOf x < i
    · rw [if_pos h3, if_pos (by omega)]
    · rw [if_neg h3, if_neg (by omega)]
theorem npart_all {g : List (List Nat)} (hg : Good g) (ha : AllR g) : npart (orderF g) g.length g.length = numI g.length (numF g) := by
  refine List.ext_getElem (by simp) fun x h1 h2 => ?_
  have hx : x < g.length := by simpa using h2
  have ho := orderF_ord ha.1 (fun row hr b hb => (hg row hr).2 b hb)
  have h3 := List.idxOf_lt_length_iff.2 ((ho.mem x).2 (ha.2 x hx))
  rw [order_len hg ha] at h3
  simp only [npart, numI, List.getElem_map, List.getElem_range, numF]
  rw [if_pos h3]
theorem fill_set {n i : Nat} (z u : Int) (hi : i < n) : (part (List.replicate n u) z i).set i u = part (List.replicate n u) z (i + 1) := by
  have := part_set (List.replicate n u) z (i := i) (by simpa using hi)
  simpa using this
theorem outL_none (n : Nat) : outL n (fun _ => none) = List.replicate n (-1) := by
  refine List.ext_getElem (by simp) fun i h1 h2 => ?_
  rw [outL_get]; simp [oi]
end Go.Proofs.Ytkmgbejhbkbaoaa
