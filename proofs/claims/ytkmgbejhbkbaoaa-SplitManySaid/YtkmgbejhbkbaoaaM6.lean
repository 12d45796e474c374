/- Plain: the program's way to dominators: its lists, and what they are. -/
import Derived.Test.YtkmgbejhbkbaoaaM3
import Derived.Test.YtkmgbejhbkbaoaaM5
import Derived.Test.YtkmgbejhbkbaoaaG6
namespace Go.Proofs.Ytkmgbejhbkbaoaa
set_option linter.unusedSimpArgs false
set_option linter.unusedVariables false

/-- x is come to from 0 without y -/
inductive Rwo (g : List (List Nat)) (y : Nat) : Nat → Prop
  | zero : y ≠ 0 → Rwo g y 0
  | step {x z : Nat} : Rwo g y x → Ed g x z → z ≠ y → Rwo g y z

def prd (g : List (List Nat)) (x : Nat) : List Nat := (predsF g).getD x []
theorem mem_edgesF {g : List (List Nat)} {a b : Nat} : (a, b) ∈ edgesF g ↔ Ed g a b := by
  simp only [edgesF, edgesTo, List.take_length, List.mem_flatMap, List.mem_map, Ed]
  constructor
  · rintro ⟨p, hp, x, hx, he⟩
    obtain ⟨h1, h2, h3⟩ := List.mem_zipIdx hp
    simp only [Prod.mk.injEq] at he
    obtain ⟨rfl, rfl⟩ := he
    rw [h3] at hx
    simp only [Nat.sub_zero] at hx
    rw [List.getD_eq_getElem?_getD, List.getElem?_eq_getElem (by omega)]
    exact hx
  · intro h
    by_cases ha : a < g.length
    · rw [List.getD_eq_getElem?_getD, List.getElem?_eq_getElem ha] at h
      exact ⟨(g[a], a), by rw [List.mem_zipIdx_iff_getElem?]; simp [ha], b, h, rfl⟩
    · rw [List.getD_eq_getElem?_getD, List.getElem?_eq_none (by omega)] at h
      simp at h
theorem mem_prd {g : List (List Nat)} {x p : Nat} (hx : x < g.length) : p ∈ prd g x ↔ Ed g p x := by
  rw [← mem_edgesF, prd, predsF, predsOf, List.getD_eq_getElem?_getD, List.getElem?_map, List.getElem?_range hx]
  simp only [Option.map_some, Option.getD_some, List.mem_map, List.mem_filter, beq_iff_eq]
  constructor
  · rintro ⟨⟨a, b⟩, ⟨h1, h2⟩, rfl⟩
    simp only at h2
    subst h2; exact h1
  · intro h; exact ⟨(p, x), ⟨h, rfl⟩, rfl⟩
theorem Ed.lt {g : List (List Nat)} (hg : Good g) {a b : Nat} (h : Ed g a b) : a < g.length ∧ b < g.length := edges_lt hg (a, b) (mem_edgesF.2 h)
theorem Rch.lt {g : List (List Nat)} (hg : Good g) (h0 : 0 < g.length) {x : Nat} (h : Rch g 0 x) : x < g.length := by
  cases h with
  | refl => exact h0
  | step _ e => exact (Ed.lt hg e).2

def numF (g : List (List Nat)) (x : Nat) : Nat := (orderF g).idxOf x
open Classical in
noncomputable def parF (g : List (List Nat)) (x : Nat) : Nat := if h : ∃ p, p ∈ prd g x ∧ numF g p < numF g x then h.choose else 0
/-- all blocks are reached -/
def AllR (g : List (List Nat)) : Prop := 0 < g.length ∧ ∀ x, x < g.length → Rch g 0 x

theorem idxOf_append_cons {l m : List Nat} {x : Nat} (h : x ∉ l) : (l ++ x :: m).idxOf x = l.length := by
  rw [List.idxOf_append, if_neg h]; simp
section
variable {g : List (List Nat)}
theorem net_of (hg : Good g) (ha : AllR g) : Net g.length (prd g) (numF g) (parF g) := by
  have ho := orderF_ord ha.1 (fun row hr b hb => (hg row hr).2 b hb)
  have hmem : ∀ x, x < g.length → x ∈ orderF g := fun x hx => (ho.mem x).2 (ha.2 x hx)
  refine ⟨ha.1, fun x y hx hy he => ?_, ?_, fun b hb p hp => ?_, fun b hb h0 => ?_⟩
  · have h1 := List.idxOf_lt_length_iff.2 (hmem x hx)
    have h2 := List.idxOf_lt_length_iff.2 (hmem y hy)
    have h3 : (orderF g)[(orderF g).idxOf x] = x := List.getElem_idxOf h1
    have h4 : (orderF g)[(orderF g).idxOf y] = y := List.getElem_idxOf h2
    unfold numF at he
    rw [← h3, ← h4]
    simp only [he]
  · obtain ⟨r, hr⟩ := ho.first
    rw [numF, hr]; simp
  · exact (Ed.lt hg ((mem_prd hb).1 hp)).1
  · have hex : ∃ p, p ∈ prd g b ∧ numF g p < numF g b := by
      obtain ⟨pre, post, he⟩ := List.append_of_mem (hmem b hb)
      have hnd := ho.nodup
      rw [he] at hnd
      obtain ⟨n1, n2, n3⟩ := List.nodup_append.1 hnd
      have hbp : b ∉ pre := fun h => n3 b h b (by simp) rfl
      rcases ho.par pre b post he with h1 | ⟨p, hp, hpe⟩
      · exact absurd h1 h0
      · refine ⟨p, (mem_prd hb).2 hpe, ?_⟩
        unfold numF
        rw [he, idxOf_append_cons hbp, List.idxOf_append, if_pos hp]
        exact List.idxOf_lt_length_iff.2 hp
    unfold parF
    rw [dif_pos hex]
    exact hex.choose_spec
theorem line_of (hg : Good g) (ha : AllR g) : Line g.length (numF g) (orderF g).tail := by
  have ho := orderF_ord ha.1 (fun row hr b hb => (hg row hr).2 b hb)
  obtain ⟨r, hr⟩ := ho.first
  have hnd := ho.nodup
  rw [hr] at hnd
  obtain ⟨n1, n2⟩ := List.nodup_cons.1 hnd
  refine ⟨fun b hb => ?_, fun x hx h0 => ?_, fun j hj => ?_⟩
  · have hb' : b ∈ r := by simpa [hr] using hb
    have : b ∈ orderF g := by rw [hr]; simp [hb']
    exact ⟨Rch.lt hg ha.1 ((ho.mem b).1 this), fun e => n1 (e ▸ hb')⟩
  · have : x ∈ orderF g := (ho.mem x).2 (ha.2 x hx)
    rw [hr] at this ⊢
    rcases List.mem_cons.1 this with h | h
    · exact absurd h h0
    · exact h
  · have key : ∀ o, o = 0 :: r → ∀ (hj : j < o.tail.length), o.idxOf o.tail[j] = j + 1 := by
      rintro o rfl hj
      simp only [List.tail_cons] at hj ⊢
      have h1 : (0 == r[j]) = false := beq_eq_false_iff_ne.2 fun e => n1 (e ▸ List.getElem_mem hj)
      rw [List.idxOf_cons, List.Nodup.idxOf_getElem n2, h1]
      rfl
    exact key _ hr hj
theorem order_len (hg : Good g) (ha : AllR g) : (orderF g).length = g.length := by
  have ho := orderF_ord ha.1 (fun row hr b hb => (hg row hr).2 b hb)
  have : (orderF g).Perm (List.range g.length) := (List.perm_ext_iff_of_nodup ho.nodup List.nodup_range).2 fun x => by
    rw [ho.mem, List.mem_range]
    exact ⟨fun h => Rch.lt hg ha.1 h, fun h => ha.2 x h⟩
  rw [this.length_eq, List.length_range]
theorem rw_iff (hg : Good g) {y x : Nat} : Rw (prd g) g.length y x ↔ Rwo g y x := by
  constructor
  · intro h
    induction h with
    | zero h => exact .zero h
    | step _ hz hx hne ih => exact .step ih ((mem_prd hz).1 hx) hne
  · intro h
    induction h with
    | zero h => exact .zero h
    | step _ he hne ih => exact .step ih (Ed.lt hg he).2 ((mem_prd (Ed.lt hg he).2).2 he) hne

/-- as the program has it -/
def oi : Option Nat → Int
  | none => -1
  | some z => (z : Int)
def outL (n : Nat) (D : Nat → Option Nat) : List Int := (List.range n).map fun x => oi (D x)
@[simp] theorem outL_len (n : Nat) (D : Nat → Option Nat) : (outL n D).length = n := by simp [outL]
theorem outL_get {n : Nat} {D : Nat → Option Nat} {x : Nat} (hx : x < (outL n D).length) : (outL n D)[x] = oi (D x) := by simp [outL]
theorem outL_upd {n : Nat} {D : Nat → Option Nat} {b c : Nat} : outL n (upd D b c) = (outL n D).set b (c : Int) := by
  refine List.ext_getElem (by simp) fun i h1 h2 => ?_
  rw [outL_get, List.getElem_set, outL_get]
  unfold upd
  by_cases h : i = b
  · subst h; simp [oi]
  · rw [if_neg h, if_neg (fun e => h e.symm)]
/-- what Idom leaves -/
def IdomOk (g : List (List Nat)) (idom : List Int) : Prop := idom.length = g.length ∧ ∀ a b, a < g.length → b < g.length → (domF idom a b = true ↔ ¬ Rwo g a b)

theorem anc_chain {n : Nat} {P : Nat → List Nat} {num par : Nat → Nat} {D : Nat → Option Nat} (hn : Net n P num par) (h : Tr n P num par D) {a : Nat} : ∀ (k : Nat) (b : Nat), b < n → num b < k → (chainF (outL n D) a k b = true ↔ Anc D a b) := by
  intro k
  induction k with
  | zero => intro b _ h; omega
  | succ k ih =>
    intro b hb hk
    rw [chainF]
    by_cases e : (a : Int) = (b : Int)
    · rw [if_pos e]
      have : a = b := by omega
      subst this
      simp [Anc.refl]
    · rw [if_neg e, if_pos (by simp; omega)]
      have hne : a ≠ b := fun h => e (by rw [h])
      have hgd : (outL n D).getD ((b : Int)).toNat 0 = oi (D b) := by
        have hbl : b < (outL n D).length := by simpa using hb
        have : ((b : Int)).toNat = b := by omega
        rw [this, List.getD_eq_getElem?_getD, List.getElem?_eq_getElem hbl, outL_get]; rfl
      rw [hgd]
      cases hD : D b with
      | none =>
        have h1 : chainF (outL n D) (a : Int) k (-1) = false := by
          cases k with
          | zero => rfl
          | succ k => rw [chainF, if_neg (by omega), if_neg (by omega)]
        simp only [oi, h1, Bool.false_eq_true, false_iff]
        intro ha
        rcases ha.cases' with h2 | ⟨z, h2, _⟩
        · exact hne h2
        · rw [hD] at h2; cases h2
      | some z =>
        obtain ⟨_, z1, z2⟩ := h.lt b z hD
        have hi := ih z z1 (by omega)
        simp only [oi]
        rw [hi]
        constructor
        · intro ha; exact .up hD ha
        · intro ha
          rcases ha.cases' with h2 | ⟨z', h2, h3⟩
          · exact absurd h2 hne
          · rw [hD] at h2; injection h2 with h2; subst h2; exact h3
theorem idom_ok (hg : Good g) (ha : AllR g) {k : Nat} (hk : ∀ a b, a < g.length → b < g.length → numF g a + numF g b < k) {D : Nat → Option Nat} (h : Mid g.length (prd g) (numF g) (parF g) 1 D) (hf : Fix g.length (prd g) (numF g) k D) :
    IdomOk g (outL g.length D) := by
  have hn := net_of hg ha
  refine ⟨by simp, fun a b hla hlb => ?_⟩
  have hlen := order_len hg ha
  have hnum : numF g b < g.length + 1 := by
    have := (line_of hg ha).num_lt hn b hlb
    rw [List.length_tail, hlen] at this
    omega
  rw [domF, if_pos (by simp; omega), outL_len, anc_chain hn h.tr (g.length + 1) b hlb hnum, Fix.dom hn hk h hf hlb, rw_iff hg]
end
end Go.Proofs.Ytkmgbejhbkbaoaa
