/- Functions of the program as data, and how they lie in memory. -/
import Derived.Test.YtkmgbejhbkbaoaaL1
namespace Go.Proofs.Ytkmgbejhbkbaoaa
set_option linter.unusedSimpArgs false
set_option linter.unusedVariables false
open Go.RowKit

structure JIn where
  src : Int
  val : Int
  deriving DecidableEq
structure JPhi where
  dst : Int
  ins : List JIn
  deriving DecidableEq
structure JIns where
  op : Int
  dst : Int
  two : Int
  args : List Int
  imm : Int
  deriving DecidableEq
structure JTerm where
  kind : Int
  args : List Int
  to : List Int
  imm : Int
  deriving DecidableEq
structure JBlock where
  phis : List JPhi
  ins : List JIns
  term : JTerm
  deriving DecidableEq
structure JFunc where
  params : Int
  blocks : List JBlock
  deriving DecidableEq
instance : Inhabited JIn := ⟨0, 0⟩
instance : Inhabited JPhi := ⟨0, []⟩
instance : Inhabited JIns := ⟨0, 0, 0, [], 0⟩
instance : Inhabited JTerm := ⟨0, [], [], 0⟩
instance : Inhabited JBlock := ⟨[], [], default⟩

theorem slice_one {d : Type} {k : Kd d} {e : TypeId} {w : World} {S : List Nat} {v : Value} {xs : List d} (h : SlR k e w S v xs) : v.oneCell' = true := by
  obtain ⟨A, cap, rfl, _⟩ := h.shape; rfl

def kIn : Kd JIn := {
  sz := 2
  rep := fun _ S x cs => S = [] ∧ cs = [.int .i64 x.src, .int .i64 x.val]
  len := by rintro _ _ _ _ ⟨_, rfl⟩; rfl
  one := by rintro _ _ x _ ⟨_, rfl⟩ u hu; simp only [List.mem_cons, List.not_mem_nil, or_false] at hu; rcases hu with rfl | rfl <;> rfl
  lt := by rintro _ _ _ _ ⟨rfl, _⟩ k hk; cases hk
  move := fun h _ => h }
def kPhi : Kd JPhi := {
  sz := 2
  rep := fun w S x cs => ∃ v, cs = [.int .i64 x.dst, v] ∧ SlR kIn 49 w S v x.ins
  len := by rintro _ _ _ _ ⟨_, rfl, _⟩; rfl
  one := by rintro _ _ x _ ⟨_, rfl, h⟩ u hu; simp only [List.mem_cons, List.not_mem_nil, or_false] at hu; rcases hu with rfl | rfl; rfl; exact slice_one h
  lt := by rintro _ _ _ _ ⟨_, _, h⟩; exact h.lt
  move := by rintro _ _ _ _ _ ⟨v, rfl, h⟩ hm; exact ⟨v, rfl, h.move hm⟩ }
def kIns : Kd JIns := {
  sz := 5
  rep := fun w S x cs => ∃ v, cs = [.int .i64 x.op, .int .i64 x.dst, .int .i64 x.two, v, .int .i32 x.imm] ∧ SlR kInt 3 w S v x.args
  len := by rintro _ _ _ _ ⟨_, rfl, _⟩; rfl
  one := by rintro _ _ x _ ⟨_, rfl, h⟩ u hu; simp only [List.mem_cons, List.not_mem_nil, or_false] at hu; rcases hu with rfl | rfl | rfl | rfl | rfl <;> first | rfl | exact slice_one h
  lt := by rintro _ _ _ _ ⟨_, _, h⟩; exact h.lt
  move := by rintro _ _ _ _ _ ⟨v, rfl, h⟩ hm; exact ⟨v, rfl, h.move hm⟩ }
/-- a block's six cells, and the blocks of memory that they lead to -/
structure BlkCells (w : World) (S : List Nat) (x : JBlock) (vp vi va vt : Value) (Sp Si Sa St : List Nat) : Prop where
  p : SlR kPhi 46 w Sp vp x.phis
  i : SlR kIns 54 w Si vi x.ins
  a : SlR kInt 3 w Sa va x.term.args
  t : SlR kInt 3 w St vt x.term.to
  s : S = Sp ++ (Si ++ (Sa ++ St))
theorem BlkCells.move {w w' : World} {S : List Nat} {x : JBlock} {vp vi va vt : Value} {Sp Si Sa St : List Nat} (h : BlkCells w S x vp vi va vt Sp Si Sa St) (hm : ∀ k ∈ S, w'.heap[k]? = w.heap[k]?) : BlkCells w' S x vp vi va vt Sp Si Sa St := by
  obtain ⟨h1, h2, h3, h4, rfl⟩ := h
  exact ⟨h1.move fun k hk => hm k (by simp [hk]), h2.move fun k hk => hm k (by simp [hk]), h3.move fun k hk => hm k (by simp [hk]), h4.move fun k hk => hm k (by simp [hk]), rfl⟩
theorem BlkCells.lt {w : World} {S : List Nat} {x : JBlock} {vp vi va vt : Value} {Sp Si Sa St : List Nat} (h : BlkCells w S x vp vi va vt Sp Si Sa St) : ∀ k ∈ S, k < w.heap.size := by
  obtain ⟨h1, h2, h3, h4, rfl⟩ := h
  intro k hk
  simp only [List.mem_append] at hk
  rcases hk with hk | hk | hk | hk
  · exact h1.lt k hk
  · exact h2.lt k hk
  · exact h3.lt k hk
  · exact h4.lt k hk
def kBlock : Kd JBlock := {
  sz := 6
  rep := fun w S x cs => ∃ vp vi va vt Sp Si Sa St, cs = [vp, vi, .int .i64 x.term.kind, va, vt, .int .i32 x.term.imm] ∧ BlkCells w S x vp vi va vt Sp Si Sa St
  len := by rintro _ _ _ _ ⟨_, _, _, _, _, _, _, _, rfl, _⟩; rfl
  one := by
    rintro _ _ x _ ⟨_, _, _, _, _, _, _, _, rfl, h⟩ u hu
    simp only [List.mem_cons, List.not_mem_nil, or_false] at hu
    rcases hu with rfl | rfl | rfl | rfl | rfl | rfl
    · exact slice_one h.p
    · exact slice_one h.i
    · rfl
    · exact slice_one h.a
    · exact slice_one h.t
    · rfl
  lt := by rintro _ _ _ _ ⟨_, _, _, _, _, _, _, _, _, h⟩; exact h.lt
  move := by rintro _ _ _ _ _ ⟨vp, vi, va, vt, Sp, Si, Sa, St, rfl, h⟩ hm; exact ⟨vp, vi, va, vt, Sp, Si, Sa, St, rfl, h.move hm⟩ }

/-- a function as a value -/
def FnR (w : World) (S : List Nat) (v : Value) (f : JFunc) : Prop :=
  ∃ vb, v = .agg #[.int .i64 f.params, vb] ∧ SlR kBlock 43 w S vb f.blocks
theorem FnR.move {w w' : World} {S : List Nat} {v : Value} {f : JFunc} (h : FnR w S v f) (hm : ∀ k ∈ S, w'.heap[k]? = w.heap[k]?) : FnR w' S v f := by
  obtain ⟨vb, rfl, h⟩ := h; exact ⟨vb, rfl, h.move hm⟩
theorem FnR.lt {w : World} {S : List Nat} {v : Value} {f : JFunc} (h : FnR w S v f) : ∀ k ∈ S, k < w.heap.size := by
  obtain ⟨vb, rfl, h⟩ := h; exact h.lt
theorem FnR.ext {M : List Nat} {w w' : World} {S : List Nat} {v : Value} {f : JFunc} (h : FnR w S v f) (hx : Ext M w w') (hd : ∀ k ∈ S, k ∉ M) : FnR w' S v f :=
  h.move fun k hk => hx.block k (h.lt k hk) (hd k hk)
/-- a block of a function: where it lies -/
theorem FnR.block {w : World} {S : List Nat} {vb : Value} {bs : List JBlock} (h : SlR kBlock 43 w S vb bs) (i : Nat) (hi : i < bs.length) :
    ∃ g cap Ap cp Ai ci Aa ca At ct Sb Sp Si Sa St, vb = .slice (some ⟨g, 0, none⟩) bs.length cap ∧ g ∈ S ∧ (∀ k ∈ Sb, k ∈ S) ∧
      BlkCells w Sb bs[i] (.slice Ap bs[i].phis.length cp) (.slice Ai bs[i].ins.length ci) (.slice Aa bs[i].term.args.length ca) (.slice At bs[i].term.to.length ct) Sp Si Sa St ∧
      w.cell? ⟨g, i * 6, none⟩ = some (.slice Ap bs[i].phis.length cp) ∧ w.cell? ⟨g, i * 6 + 1, none⟩ = some (.slice Ai bs[i].ins.length ci) ∧ w.cell? ⟨g, i * 6 + 2, none⟩ = some (.int .i64 bs[i].term.kind) ∧
      w.cell? ⟨g, i * 6 + 3, none⟩ = some (.slice Aa bs[i].term.args.length ca) ∧ w.cell? ⟨g, i * 6 + 4, none⟩ = some (.slice At bs[i].term.to.length ct) ∧ w.cell? ⟨g, i * 6 + 5, none⟩ = some (.int .i32 bs[i].term.imm) := by
  obtain ⟨g, cap, Sb, cs, hv, hg, hs, ⟨vp, vi, va, vt, Sp, Si, Sa, St, rfl, hr⟩, hc, _⟩ := h.get i hi
  obtain ⟨Ap, cp, rfl, _⟩ := hr.p.shape
  obtain ⟨Ai, ci, rfl, _⟩ := hr.i.shape
  obtain ⟨Aa, ca, rfl, _⟩ := hr.a.shape
  obtain ⟨At, ct, rfl, _⟩ := hr.t.shape
  exact ⟨g, cap, Ap, cp, Ai, ci, Aa, ca, At, ct, Sb, Sp, Si, Sa, St, hv, hg, hs, hr, hc 0 _ rfl, hc 1 _ rfl, hc 2 _ rfl, hc 3 _ rfl, hc 4 _ rfl, hc 5 _ rfl⟩
end Go.Proofs.Ytkmgbejhbkbaoaa
