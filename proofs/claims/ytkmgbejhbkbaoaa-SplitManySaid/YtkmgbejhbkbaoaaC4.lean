/- The program's check: what stands by itself. -/
import Derived.Test.YtkmgbejhbkbaoaaC3
namespace Go.Proofs.Ytkmgbejhbkbaoaa
set_option linter.unusedSimpArgs false
set_option linter.unusedVariables false
open Go.RowKit

/-- a phi, an instruction, an end: what is asked of it, what it makes, where it stands -/
structure Thg where
  pre : List Ck
  mks : List Int
  b : Int
  p : Int
def thgsC (params : Int) : Mk → List Thg → List Ck
  | _, [] => []
  | mk, t :: ts => t.pre ++ (allC params mk t.mks t.b t.p ++ thgsC params (mkAll mk t.mks t.b t.p) ts)
def mkAfter (mk : Mk) (ts : List Thg) : Mk := ts.foldl (fun mk t => mkAll mk t.mks t.b t.p) mk
def phiT (b : Nat) (x : JBlock) (i : Nat) : Thg := ⟨[], [(x.phis.getD i default).dst], b, -1 - i⟩
def insT (b : Nat) (x : JBlock) (i : Nat) : Thg :=
  let s := x.ins.getD i default
  ⟨[(decide (1 ≤ s.op ∧ s.op ≤ 18), (10, b, i)), (decide ((opersF s.op).1 ≤ s.args.length ∧ s.args.length ≤ (opersF s.op).2), (10, b, i))], makesF s, b, i⟩
def termOk (t : JTerm) : Bool :=
  match shapeF t.kind with
  | none => false
  | some s => decide (s.1 ≤ t.args.length ∧ t.args.length ≤ s.2.1) && decide (s.2.2.1 ≤ t.to.length ∧ t.to.length ≤ s.2.2.2)
theorem shp_bound (k : Int) : (shpOf k).1.2.2.2 ≤ 65 := by
  unfold shpOf
  have key : ∀ s, shapeF k = some s → s.2.2.2 ≤ 65 := by
    intro s h
    unfold shapeF at h
    repeat' split at h
    all_goals (first | (injection h with h; subst h; decide) | cases h)
  cases h : shapeF k with
  | none => simp
  | some s => exact key s h
theorem termOk_eq (t : JTerm) : termOk t = ((shpOf t.kind).2 && (decide ((shpOf t.kind).1.1 ≤ t.args.length ∧ t.args.length ≤ (shpOf t.kind).1.2.1) && decide ((shpOf t.kind).1.2.2.1 ≤ t.to.length ∧ t.to.length ≤ (shpOf t.kind).1.2.2.2))) := by
  unfold termOk shpOf
  cases shapeF t.kind with
  | none => rfl
  | some s => simp
def toC (n b : Nat) (x : JBlock) (to : List Int) : List Ck := to.map fun t => (decide (1 ≤ t ∧ t ≤ (n : Int) - 1), (14, (b : Int), (x.ins.length : Int)))
def termT (n b : Nat) (x : JBlock) : Thg := ⟨(termOk x.term, (10, b, x.ins.length)) :: toC n b x x.term.to, [], b, x.ins.length⟩
def phisT (b : Nat) (x : JBlock) : List Thg := (List.range x.phis.length).map (phiT b x)
def inssT (b : Nat) (x : JBlock) : List Thg := (List.range x.ins.length).map (insT b x)
def blockT (n b : Nat) (x : JBlock) : List Thg := phisT b x ++ (inssT b x ++ [termT n b x])
def blocksT (bs : List JBlock) : List (List Thg) := (List.range bs.length).map fun b => blockT bs.length b (bs.getD b default)
def shapeC (params : Int) (bs : List JBlock) : List Ck := thgsC params [] (blocksT bs).flatten
theorem drop_map_range {α : Type} (n i : Nat) (F : Nat → α) (hi : i < n) : ((List.range n).map F).drop i = F i :: ((List.range n).map F).drop (i + 1) := by
  rw [List.drop_eq_getElem_cons (by simpa using hi)]; simp
theorem drop_map_len {α : Type} (n : Nat) (F : Nat → α) : ((List.range n).map F).drop n = [] := by simp
theorem thgsC_cons (params : Int) (mk : Mk) (t : Thg) (ts : List Thg) : thgsC params mk (t :: ts) = t.pre ++ (allC params mk t.mks t.b t.p ++ thgsC params (mkAll mk t.mks t.b t.p) ts) := rfl

/-- an element's cells, where its slice begins -/
theorem SlR.cells {α : Type} {d : Kd α} {e : TypeId} {w : World} {S : List Nat} {A : Option Addr} {n c : Nat} {xs : List α} (h : SlR d e w S (.slice A n c) xs) (i : Nat) (hi : i < xs.length) :
    ∃ g Si cs, A = some ⟨g, 0, none⟩ ∧ g ∈ S ∧ (∀ k ∈ Si, k ∈ S) ∧ d.rep w Si xs[i] cs ∧ ∀ j u, cs[j]? = some u → w.cell? ⟨g, i * d.sz + j, none⟩ = some u := by
  obtain ⟨g, cap, Sb, cs, hv, hg, hs, hr, hc, _⟩ := h.get i hi
  injection hv with e1
  exact ⟨g, Sb, cs, e1, hg, hs, hr, hc⟩
end Go.Proofs.Ytkmgbejhbkbaoaa
