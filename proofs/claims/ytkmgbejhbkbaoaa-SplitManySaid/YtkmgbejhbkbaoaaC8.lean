/- The program's check: uses, walked. -/
import Derived.Test.YtkmgbejhbkbaoaaC7
namespace Go.Proofs.Ytkmgbejhbkbaoaa
set_option linter.unusedSimpArgs false
set_option linter.unusedVariables false
open Go.RowKit

set_option maxRecDepth 20000 in
set_option maxHeartbeats 1600000 in
theorem uses_calls {w : World} {q m : Nat} {params : Int} {vb : Value} {mk : Mk} {S : List Nat} {bs : List JBlock} (h : Look w q m params vb mk) (hnd : (mk.map (·.1)).Nodup) (hb : SlR kBlock 43 w S vb bs) (h0 : 0 < bs.length) (hn : bs.length ≤ 512)
    (hp : ∀ x ∈ bs, x.phis.length ≤ 4096 ∧ x.ins.length ≤ 4096) (hto : ∀ x ∈ bs, x.term.to.length ≤ 65) (hag : ∀ x ∈ bs, (∀ s ∈ x.ins, s.args.length ≤ 4096) ∧ x.term.args.length ≤ 4096) :
    Calls Try.prog 51 #[.pointer (some ⟨q, 0, none⟩)] w fun e w' =>
      ∃ idom, (AllR (ofF bs) → IdomOk (ofF bs) idom) ∧ e = endC (runC (usesC params mk (domF idom) bs)) ∧ Ext [] w w' := by
  obtain ⟨A, c, rfl, hcap⟩ := hb.shape
  have c0 := h.cl.cell (i := 0) rfl
  have c1 := h.cl.cell (i := 1) rfl
  have hql := h.cl.lt
  have hgood := ofF_good bs
  have hgl : (ofF bs).length = bs.length := ofF_len bs
  obtain ⟨w1, hw1⟩ : ∃ w1, w1 = w.alloc (.cells #[.pointer (some ⟨q, 0, none⟩)] 99) := ⟨_, rfl⟩
  have hx1 : Ext [] w w1 := by rw [hw1]; exact (Ext.refl _ _).alloc _
  have hb5 : Blk w1 w.heap.size 99 #[.pointer (some ⟨q, 0, none⟩)] := by rw [hw1]; exact Blk.new _ _ _
  go_enter Try.func51, Try.ntmps51
  go_wp2_with fail
  rw [← hw1]
  clear hw1
  refine (of_calls (f := ⟨params, bs⟩) ⟨_, rfl, hb.ext0 hx1⟩ (by simp only; omega) (fun x hx => by have := hto x hx; omega)).mono ?_
  rintro e w2 ⟨v2, S2, rfl, hr2, hnew2⟩
  simp only at hr2
  obtain ⟨g, hge⟩ : ∃ g, ofF bs = g := ⟨_, rfl⟩
  rw [hge] at hr2 hgood hgl
  have Hge := Lib.hid hge
  clear hge
  obtain ⟨A2, c2, rfl, _⟩ := hr2.shape
  rw [hgl]
  rw [hgl] at hr2
  have Hgl := Lib.hid hgl
  clear hgl
  go_wp2_with fail
  refine (order_calls hr2 hgood (by rw [Hgl.out]; omega)).mono ?_
  rintro e w3 ⟨v3, S3, rfl, hr3, hnew3⟩
  have hol := order_le hgood (by rw [Hgl.out]; exact h0)
  rw [Hgl.out] at hol
  have hreach := reach_all hgood (by rw [Hgl.out]; exact h0)
  have HU : Hid (∀ idom, runC (usesC params mk (domF idom) bs) = runC ((reachC g).drop 0 ++ (blocksU params mk (domF idom) bs).flatten)) := fun idom => by rw [usesC, Hge.out]; rfl
  have HR0 : Hid (runC (reachC g) = runC ((reachC g).drop 0)) := rfl
  have HrL : Hid (∀ j, j < bs.length → (reachC g).drop j = ((orderF g).contains j, (15, (j : Int), 0)) :: (reachC g).drop (j + 1)) := fun j hj => drop_map_range _ _ _ (by rw [Hgl.out]; exact hj)
  have HrE : Hid ((reachC g).drop bs.length = []) := by rw [Hid, ← Hgl.out]; exact drop_map_len _ _
  have HR := Lib.hid hreach
  clear hreach
  generalize ho : orderF g = o at *
  have Ho := Lib.hid ho
  clear ho
  obtain ⟨A3, c3, rfl, _⟩ := hr3.shape
  have hx3 : Ext [] w1 w3 := hnew2.ext.nil hnew3.ext
  have hr23 := hr2.ext0 hnew3.ext
  have hb53 := hb5.ext hx3 (by simp)
  have d5 := hb53.cell (i := 0) rfl
  have hlk3 := (h.ext0 hx1).ext0 hx3
  have k1 := hlk3.cl.cell (i := 1) rfl
  go_wp2
  go_loopg [36] bs.length (fun k vi wr => ∃ (j : Nat), vi = .int .i64 (j : Int) ∧ j ≤ bs.length ∧ Hid (j + k = bs.length) ∧ w3 = wr ∧
    Hid (∀ idom, runC (usesC params mk (domF idom) bs) = runC ((reachC g).drop j ++ (blocksU params mk (domF idom) bs).flatten)) ∧ Hid (runC (reachC g) = runC ((reachC g).drop j)))
  case atStart => exact ⟨0, rfl, by omega, by simp [Hid], rfl, HU, HR0⟩
  case round =>
    obtain ⟨j, rfl, hj, HK, rfl, HU, HR0⟩ := hrel
    by_cases hlt : j < bs.length
    · have hrj := HrL.out j hlt
      have HU2 : Hid (∀ idom, runC (usesC params mk (domF idom) bs) = runC ((o.contains j, (15, (j : Int), 0)) :: ((reachC g).drop (j + 1) ++ (blocksU params mk (domF idom) bs).flatten))) := fun idom => by rw [HU.out idom, hrj]; rfl
      have HR2 : Hid (runC (reachC g) = runC ((o.contains j, (15, (j : Int), 0)) :: (reachC g).drop (j + 1))) := by rw [Hid, HR0.out, hrj]
      clear HU HR0 hrj
      go_wp2_with fail
      refine (contains_calls (slr_nat_int.1 hr3) (by rw [List.length_map]; omega) j).mono ?_
      rintro e w4 ⟨rfl, rfl⟩
      rw [contains_ofNat]
      cases hc : o.contains j with
      | true =>
        rw [hc] at HU2 HR2
        clear hc
        go_wp2_with fail
        refine (must_calls _ true (15, (j : Int), 0)).mono ?_
        rintro e w4 ⟨rfl, rfl⟩
        simp only [runC, endC]
        go_wp2
        go_roundg (gk - 1)
        case measure => have := HK.out; omega
        case rel => exact ⟨j + 1, by go_num, by omega, by have := HK.out; simp only [Hid]; omega, rfl, HU2, HR2⟩
      | false =>
        rw [hc] at HU2 HR2
        clear hc
        go_wp2_with fail
        refine (must_calls _ false (15, (j : Int), 0)).mono ?_
        rintro e w4 ⟨rfl, rfl⟩
        simp only [runC, endC]
        go_wp2
        refine ⟨rfl, [], fun ha => ?_, by rw [HU2.out]; rfl, hx1.nil hx3⟩
        rw [Hge.out] at ha
        have := HR.out.2 ha
        rw [HR2.out] at this
        cases this
    · have hje : j = bs.length := by omega
      subst hje
      have HRn : Hid (AllR g) := HR.out.1 (by rw [HR0.out, HrE.out]; rfl)
      have HU2 : Hid (∀ idom, runC (usesC params mk (domF idom) bs) = runC ((blocksU params mk (domF idom) bs).drop 0).flatten) := fun idom => by rw [HU.out idom, HrE.out]; rfl
      clear HU HR0 HR HrL HrE
      go_wp2_with fail
      refine (preds_calls (g := g) hr23 hgood (by rw [Hgl.out]; omega)).mono ?_
      rintro e w4 ⟨v4, S4, rfl, hr4, hnew4⟩
      obtain ⟨A4, c4, rfl, _⟩ := hr4.shape
      go_wp2_with fail
      refine (idom_calls (g := g) (hr23.ext0 hnew4.ext) hgood HRn.out (by rw [Hgl.out]; omega)).mono ?_
      rintro e w5 ⟨v5, S5, idom, rfl, hr5, hid, hnew5⟩
      have hpl : (predsF g).length = bs.length := by rw [← Hgl.out]; simp [predsF, predsOf]
      rw [hpl] at hr4 ⊢
      have Hpl := Lib.hid hpl
      clear hpl
      have hx5 : Ext [] w1 w5 := hx3.nil (hnew4.ext.nil hnew5.ext)
      obtain ⟨w6, hw6⟩ : ∃ w6, w6 = w5.alloc (.cells #[v5] 22) := ⟨_, rfl⟩
      have hxa : Ext [] w5 w6 := by rw [hw6]; exact (Ext.refl _ _).alloc _
      have hU6 : UseW w6 q m w.heap.size w5.heap.size params (.slice A bs.length c) mk S5 v5 idom :=
        ⟨((h.ext0 hx1).ext0 hx5).ext0 hxa, (hb5.ext hx5 (by simp)).ext hxa (by simp), by rw [hw6]; exact Blk.new _ _ _, hr5.ext0 hxa⟩
      have hx6 : Ext [] w w6 := (hx1.nil hx5).nil hxa
      have hr46 := (hr4.ext0 hnew5.ext).ext0 hxa
      obtain ⟨A5, c5', rfl, _⟩ := hr5.shape
      have b55 := hb5.ext hx5 (by simp)
      have e5 := b55.cell (i := 0) rfl
      have l5 := b55.lt
      have k5 := ((h.ext0 hx1).ext0 hx5).cl
      have e1 := k5.cell (i := 1) rfl
      have lq := k5.lt
      have HF := HU2.out idom
      generalize hFF : usesC params mk (domF idom) bs = FF at *
      have HFF : Hid (runC FF = runC ((blocksU params mk (domF idom) bs).drop 0).flatten) := HF
      have Hidok : Hid (AllR (ofF bs) → IdomOk (ofF bs) idom) := fun _ => by rw [Hge.out]; exact hid
      have Hfin : Hid (∀ (e : Ending) (w' : World), e = endC (runC FF) → Ext [] w w' → ∃ idom, (AllR (ofF bs) → IdomOk (ofF bs) idom) ∧ e = endC (runC (usesC params mk (domF idom) bs)) ∧ Ext [] w w') :=
        fun e w' h1 h2 => ⟨idom, Hidok.out, by rw [hFF]; exact h1, h2⟩
      have hdl : idom.length ≤ 1073741824 := by rw [hid.1, Hgl.out]; omega
      clear HF hFF HU2 hnew4 hnew5 hnew2 hnew3 d5 k1 hlk3 hid
      go_wp2
      rw [← hw6]
      clear hw6
      go_loopg [56] bs.length (fun k vi wr => ∃ (i : Nat), vi = .int .i64 (i : Int) ∧ i ≤ bs.length ∧ Hid (i + k = bs.length) ∧ Ext [] w6 wr ∧ Hid (runC FF = runC ((blocksU params mk (domF idom) bs).drop i).flatten))
      case atStart => exact ⟨0, rfl, by omega, by simp [Hid], Ext.refl _ _, HFF⟩
      case round =>
        obtain ⟨i, rfl, hi, HK, hx7, HF⟩ := hrel
        obtain ⟨q0, hq0⟩ : ∃ x, x = gk := ⟨_, rfl⟩
        subst hq0
        by_cases hlt : i < bs.length
        · have hbw := (hb.ext0 hx6).ext0 hx7
          obtain ⟨gg, _, Ap, cp, Ai, ci, Aa, ca, At, ct, Sb, Sp, Si, Sa, St, hv, hg, hsub, hbc, b0, b1, b2, b3, b4, b5⟩ := FnR.block hbw i hlt
          cases hv
          have hdr : (blocksU params mk (domF idom) bs).drop i = blockU params mk (domF idom) bs i bs[i] :: (blocksU params mk (domF idom) bs).drop (i + 1) := by
            rw [blocksU, drop_map_range _ _ _ hlt]; simp [List.getD, hlt]
          rw [hdr, List.flatten_cons] at HF
          clear hdr
          obtain ⟨hp1, hp2⟩ := hp bs[i] (List.getElem_mem hlt)
          obtain ⟨hag1, hag2⟩ := hag bs[i] (List.getElem_mem hlt)
          have Hag1 := Lib.hid hag1
          clear hag1
          generalize bs[i] = x at *
          generalize hB : (blocksU params mk (domF idom) bs).drop (i + 1) = B at *
          have HB := Lib.hid hB
          clear hB
          obtain ⟨wb, hwb⟩ : ∃ wb, wb = wr.alloc (.cells #[.slice Ap x.phis.length cp, .slice Ai x.ins.length ci, .int .i64 x.term.kind, .slice Aa x.term.args.length ca, .slice At x.term.to.length ct, .int .i32 x.term.imm] 43) := ⟨_, rfl⟩
          have hxb : Ext [] wr wb := by rw [hwb]; exact (Ext.refl _ _).alloc _
          have hblk : Blk wb wr.heap.size 43 #[.slice Ap x.phis.length cp, .slice Ai x.ins.length ci, .int .i64 x.term.kind, .slice Aa x.term.args.length ca, .slice At x.term.to.length ct, .int .i32 x.term.imm] := by rw [hwb]; exact Blk.new _ _ _
          have hbc1 := hbc.move (w' := wb) (fun k hk => hxb.block k (hbc.lt k hk) (by simp))
          have hx8 : Ext [] w6 wb := hx7.nil hxb
          have d0 := hblk.cell (i := 0) rfl
          generalize hgb : wr.heap.size = gb at *
          go_wp2
          rw [← hwb]
          clear hwb b0 b1 b2 b3 b4 b5
          obtain ⟨R, hR⟩ : ∃ R, R = (((List.range x.ins.length).map (insU params mk (domF idom) i x)).flatten ++ x.term.args.map (argU params mk (domF idom) i x.ins.length)) ++ B.flatten := ⟨_, rfl⟩
          have hbt : blockU params mk (domF idom) bs i x ++ B.flatten = (((List.range x.phis.length).map (phiU params mk (domF idom) bs i x)).drop 0).flatten ++ R := by rw [hR, blockU]; simp
          rw [hbt] at HF
          have HR := Lib.hid hR
          clear hbt hR
          go_loopg [64] x.phis.length (fun k vi wr2 => ∃ (j : Nat), vi = .int .i64 (j : Int) ∧ j ≤ x.phis.length ∧ Hid (j + k = x.phis.length) ∧ Ext [] wb wr2 ∧
            Hid (runC FF = runC ((((List.range x.phis.length).map (phiU params mk (domF idom) bs i x)).drop j).flatten ++ R)))
          case atStart => exact ⟨0, rfl, by omega, by simp [Hid], Ext.refl _ _, HF⟩
          case round =>
            obtain ⟨j, rfl, hj, HK2, hx9, HF2⟩ := hrel
            obtain ⟨q1, hq1⟩ : ∃ x, x = gk := ⟨_, rfl⟩
            subst hq1
            clear HF
            by_cases hlt2 : j < x.phis.length
            · obtain ⟨gp, Sj, cs, rfl, hgp, _, ⟨vj, rfl, hvj⟩, hcj⟩ := (hbc1.p.ext0 hx9).cells j hlt2
              have e0 := hcj 0 _ rfl
              have e1' := hcj 1 _ rfl
              simp only [kPhi, Nat.add_zero] at e0 e1'
              have hph : ((List.range x.phis.length).map (phiU params mk (domF idom) bs i x)).drop j = phiU params mk (domF idom) bs i x j :: ((List.range x.phis.length).map (phiU params mk (domF idom) bs i x)).drop (j + 1) := drop_map_range _ _ _ hlt2
              have hpu : phiU params mk (domF idom) bs i x j = (phiFits i x.phis[j] (prd g i), (16, (i : Int), -1 - (j : Int))) :: x.phis[j].ins.map (inU params mk (domF idom) bs i j) := by
                rw [phiU, Hge.out]; simp [List.getD, hlt2]
              rw [hph, hpu, List.flatten_cons, List.cons_append, List.cons_append, List.append_assoc] at HF2
              clear hph hpu hcj
              generalize x.phis[j] = p at *
              obtain ⟨Av, cv, rfl, _⟩ := hvj.shape
              have hpr : i < (predsF g).length := by rw [Hpl.out]; exact hlt
              have hprd : prd g i = (predsF g)[i] := by simp [prd, List.getD, hpr]
              obtain ⟨p4, _, Ar, cr, Sr, hv, _, er, hrow, _⟩ := row_get ((hr46.ext0 hx8).ext0 hx9) i hpr
              rw [Hpl.out] at hv
              cases hv
              have Hrow : Hid (∀ a ∈ prd g i, a < bs.length) := fun a ha => by rw [← Hgl.out]; exact (net_of hgood HRn.out).plt i (by rw [Hgl.out]; exact hlt) a ha
              rw [hprd] at HF2 Hrow
              have Hprd := Lib.hid hprd
              clear hprd
              generalize (predsF g)[i] = row at *
              obtain ⟨gq, hgq⟩ : ∃ gq, gq = wr.heap.size := ⟨_, rfl⟩
              obtain ⟨wq, hwq⟩ : ∃ wq, wq = wr.alloc (.cells #[.int .i64 p.dst, .slice Av p.ins.length cv] 46) := ⟨_, rfl⟩
              have hxq : Ext [] wr wq := by rw [hwq]; exact (Ext.refl _ _).alloc _
              have hbq : Blk wq gq 46 #[.int .i64 p.dst, .slice Av p.ins.length cv] := by rw [hwq, hgq]; exact Blk.new _ _ _
              go_wp2
              rw [← hwq, ← hgq]
              have g1 := hbq.cell (i := 1) rfl
              have er' := hxq.cell er (by simp)
              clear er e0 e1' hwq hgq
              have hsp : (i = 0 ∧ fitT i p row 0 = false) ∨ (¬ i = 0 ∧ p.ins.length = row.length ∧ fitT i p row 0 = true) ∨ (¬ i = 0 ∧ ¬ p.ins.length = row.length ∧ fitT i p row 0 = false) := by
                rw [fitT_zero]
                by_cases h1 : i = 0
                · exact .inl ⟨h1, by simp [h1]⟩
                · by_cases h2 : p.ins.length = row.length
                  · exact .inr (.inl ⟨h1, h2, by simp [h2]; omega⟩)
                  · exact .inr (.inr ⟨h1, h2, by simp [h2]⟩)
              refine wp_region_rt (fun W => W.cell? ⟨gq, 1, none⟩ = some (.slice Av p.ins.length cv) ∧ W.cell? ⟨p4, i, none⟩ = some (.slice Ar row.length cr)) (.q 0 (.q 1 (.q 2 (.q 3 (.q 4 (.q 5 (.q 6 (.q 7 (.q 8 (.q 9 (.q 10 (.q 11 (.q 12 (.q 13 .nil)))))))))))))) (by kernel_rfl) (by kernel_rfl) ⟨g1, er'⟩ ?_
              refine rt_put [69, 70, 71, 72, 73, 74, 75, 76, 77, 78, 79, 80, 81] [(12, .bool (fitT i p row 0))] (fun W => W = wq.drew) ?_ ?_
              · rcases hsp with ⟨h1, hf⟩ | ⟨h1, h2, hf⟩ | ⟨h1, h2, hf⟩
                · have Hf := Lib.hid hf
                  have h5 : i = 0 := h1
                  clear hf h1
                  refine rt_quiet (.int .i64 (i : Int)) rfl rfl (fun W' hC => by simp [go_sem]) ?_
                  simp only [put_lit, put_none, List.set_cons_succ, List.set_cons_zero]
                  refine rt_quiet (.bool false) rfl rfl (fun W' hC => by simp [go_sem, h5]) ?_
                  simp only [put_lit, put_none, List.set_cons_succ, List.set_cons_zero]
                  refine rt_quiet (.bool false) rfl rfl (fun W' hC => by simp [go_sem]) ?_
                  simp only [put_lit, put_none, List.set_cons_succ, List.set_cons_zero]
                  refine rt_skip rfl rfl ?_
                  simp only [put_lit, put_none, List.set_cons_succ, List.set_cons_zero]
                  refine rt_skip rfl rfl ?_
                  simp only [put_lit, put_none, List.set_cons_succ, List.set_cons_zero]
                  refine rt_skip rfl rfl ?_
                  simp only [put_lit, put_none, List.set_cons_succ, List.set_cons_zero]
                  refine rt_skip rfl rfl ?_
                  simp only [put_lit, put_none, List.set_cons_succ, List.set_cons_zero]
                  refine rt_skip rfl rfl ?_
                  simp only [put_lit, put_none, List.set_cons_succ, List.set_cons_zero]
                  refine rt_skip rfl rfl ?_
                  simp only [put_lit, put_none, List.set_cons_succ, List.set_cons_zero]
                  refine rt_skip rfl rfl ?_
                  simp only [put_lit, put_none, List.set_cons_succ, List.set_cons_zero]
                  refine rt_skip rfl rfl ?_
                  simp only [put_lit, put_none, List.set_cons_succ, List.set_cons_zero]
                  refine rt_skip rfl rfl ?_
                  simp only [put_lit, put_none, List.set_cons_succ, List.set_cons_zero]
                  refine rt_quiet (.bool false) rfl rfl (fun W' hC => by simp [go_sem]) ?_
                  simp only [put_lit, put_none, List.set_cons_succ, List.set_cons_zero]
                  refine rt_quiet (.bool false) rfl rfl (fun W' hC => by simp [go_sem]) ?_
                  simp only [put_lit, put_none, List.set_cons_succ, List.set_cons_zero]
                  refine rt_nil ?_
                  refine ⟨by trivial, [.int .i64 (i : Int), .bool false, .bool false, undef, undef, undef, undef, undef, undef, undef, undef, undef, .bool false], rfl, ?_, rfl⟩
                  rw [Hf.out]
                  simp only [List.zip_cons_cons, List.zip_nil_left, List.cons_append, List.nil_append, puts_cons, puts_nil, put_lit, List.set_cons_succ, List.set_cons_zero]
                · have Hf := Lib.hid hf
                  have h5 : 0 < i := by omega
                  have h4 : ((p.ins.length : Int) == (row.length : Int)) = true := by simp [h2]
                  clear hf h1 h2
                  refine rt_quiet (.int .i64 (i : Int)) rfl rfl (fun W' hC => by simp [go_sem]) ?_
                  simp only [put_lit, put_none, List.set_cons_succ, List.set_cons_zero]
                  refine rt_quiet (.bool true) rfl rfl (fun W' hC => by simp [go_sem, h5]) ?_
                  simp only [put_lit, put_none, List.set_cons_succ, List.set_cons_zero]
                  refine rt_quiet (.bool true) rfl rfl (fun W' hC => by simp [go_sem]) ?_
                  simp only [put_lit, put_none, List.set_cons_succ, List.set_cons_zero]
                  refine rt_quiet (.pointer (some ⟨gq, 1, none⟩)) rfl rfl (fun W' hC => by simp [go_sem]) ?_
                  simp only [put_lit, put_none, List.set_cons_succ, List.set_cons_zero]
                  refine rt_quiet (.slice Av p.ins.length cv) rfl rfl (fun W' hC => by simp [go_sem, hC.1]) ?_
                  simp only [put_lit, put_none, List.set_cons_succ, List.set_cons_zero]
                  refine rt_quiet (.int .i64 (p.ins.length : Int)) rfl rfl (fun W' hC => by simp [go_sem]) ?_
                  simp only [put_lit, put_none, List.set_cons_succ, List.set_cons_zero]
                  refine rt_quiet (.slice (some ⟨p4, 0, none⟩) bs.length c4) rfl rfl (fun W' hC => by simp [go_sem]) ?_
                  simp only [put_lit, put_none, List.set_cons_succ, List.set_cons_zero]
                  refine rt_quiet (.int .i64 (i : Int)) rfl rfl (fun W' hC => by simp [go_sem]) ?_
                  simp only [put_lit, put_none, List.set_cons_succ, List.set_cons_zero]
                  refine rt_quiet (.pointer (some ⟨p4, i, none⟩)) rfl rfl (fun W' hC => by simp [go_sem, hlt]) ?_
                  simp only [put_lit, put_none, List.set_cons_succ, List.set_cons_zero]
                  refine rt_quiet (.slice Ar row.length cr) rfl rfl (fun W' hC => by simp [go_sem, hC.2]) ?_
                  simp only [put_lit, put_none, List.set_cons_succ, List.set_cons_zero]
                  refine rt_quiet (.int .i64 (row.length : Int)) rfl rfl (fun W' hC => by simp [go_sem]) ?_
                  simp only [put_lit, put_none, List.set_cons_succ, List.set_cons_zero]
                  refine rt_quiet (.bool true) rfl rfl (fun W' hC => by simp [go_sem, h4]) ?_
                  simp only [put_lit, put_none, List.set_cons_succ, List.set_cons_zero]
                  refine rt_quiet (.bool true) rfl rfl (fun W' hC => by simp [go_sem]) ?_
                  simp only [put_lit, put_none, List.set_cons_succ, List.set_cons_zero]
                  refine rt_quiet (.bool true) rfl rfl (fun W' hC => by simp [go_sem]) ?_
                  simp only [put_lit, put_none, List.set_cons_succ, List.set_cons_zero]
                  refine rt_nil ?_
                  refine ⟨by trivial, [.int .i64 (i : Int), .bool true, .bool true, .pointer (some ⟨gq, 1, none⟩), .slice Av p.ins.length cv, .int .i64 (p.ins.length : Int), .slice (some ⟨p4, 0, none⟩) bs.length c4, .int .i64 (i : Int), .pointer (some ⟨p4, i, none⟩), .slice Ar row.length cr, .int .i64 (row.length : Int), .bool true, .bool true], rfl, ?_, rfl⟩
                  rw [Hf.out]
                  simp only [List.zip_cons_cons, List.zip_nil_left, List.cons_append, List.nil_append, puts_cons, puts_nil, put_lit, List.set_cons_succ, List.set_cons_zero]
                · have Hf := Lib.hid hf
                  have h5 : 0 < i := by omega
                  have h4 : ((p.ins.length : Int) == (row.length : Int)) = false := by simp; omega
                  clear hf h1 h2
                  refine rt_quiet (.int .i64 (i : Int)) rfl rfl (fun W' hC => by simp [go_sem]) ?_
                  simp only [put_lit, put_none, List.set_cons_succ, List.set_cons_zero]
                  refine rt_quiet (.bool true) rfl rfl (fun W' hC => by simp [go_sem, h5]) ?_
                  simp only [put_lit, put_none, List.set_cons_succ, List.set_cons_zero]
                  refine rt_quiet (.bool true) rfl rfl (fun W' hC => by simp [go_sem]) ?_
                  simp only [put_lit, put_none, List.set_cons_succ, List.set_cons_zero]
                  refine rt_quiet (.pointer (some ⟨gq, 1, none⟩)) rfl rfl (fun W' hC => by simp [go_sem]) ?_
                  simp only [put_lit, put_none, List.set_cons_succ, List.set_cons_zero]
                  refine rt_quiet (.slice Av p.ins.length cv) rfl rfl (fun W' hC => by simp [go_sem, hC.1]) ?_
                  simp only [put_lit, put_none, List.set_cons_succ, List.set_cons_zero]
                  refine rt_quiet (.int .i64 (p.ins.length : Int)) rfl rfl (fun W' hC => by simp [go_sem]) ?_
                  simp only [put_lit, put_none, List.set_cons_succ, List.set_cons_zero]
                  refine rt_quiet (.slice (some ⟨p4, 0, none⟩) bs.length c4) rfl rfl (fun W' hC => by simp [go_sem]) ?_
                  simp only [put_lit, put_none, List.set_cons_succ, List.set_cons_zero]
                  refine rt_quiet (.int .i64 (i : Int)) rfl rfl (fun W' hC => by simp [go_sem]) ?_
                  simp only [put_lit, put_none, List.set_cons_succ, List.set_cons_zero]
                  refine rt_quiet (.pointer (some ⟨p4, i, none⟩)) rfl rfl (fun W' hC => by simp [go_sem, hlt]) ?_
                  simp only [put_lit, put_none, List.set_cons_succ, List.set_cons_zero]
                  refine rt_quiet (.slice Ar row.length cr) rfl rfl (fun W' hC => by simp [go_sem, hC.2]) ?_
                  simp only [put_lit, put_none, List.set_cons_succ, List.set_cons_zero]
                  refine rt_quiet (.int .i64 (row.length : Int)) rfl rfl (fun W' hC => by simp [go_sem]) ?_
                  simp only [put_lit, put_none, List.set_cons_succ, List.set_cons_zero]
                  refine rt_quiet (.bool false) rfl rfl (fun W' hC => by simp [go_sem, h4]) ?_
                  simp only [put_lit, put_none, List.set_cons_succ, List.set_cons_zero]
                  refine rt_quiet (.bool false) rfl rfl (fun W' hC => by simp [go_sem]) ?_
                  simp only [put_lit, put_none, List.set_cons_succ, List.set_cons_zero]
                  refine rt_quiet (.bool false) rfl rfl (fun W' hC => by simp [go_sem]) ?_
                  simp only [put_lit, put_none, List.set_cons_succ, List.set_cons_zero]
                  refine rt_nil ?_
                  refine ⟨by trivial, [.int .i64 (i : Int), .bool true, .bool true, .pointer (some ⟨gq, 1, none⟩), .slice Av p.ins.length cv, .int .i64 (p.ins.length : Int), .slice (some ⟨p4, 0, none⟩) bs.length c4, .int .i64 (i : Int), .pointer (some ⟨p4, i, none⟩), .slice Ar row.length cr, .int .i64 (row.length : Int), .bool false, .bool false], rfl, ?_, rfl⟩
                  rw [Hf.out]
                  simp only [List.zip_cons_cons, List.zip_nil_left, List.cons_append, List.nil_append, puts_cons, puts_nil, put_lit, List.set_cons_succ, List.set_cons_zero]
              · rintro vs W' hvl rfl
                rcases vs with _ | ⟨z1, _ | ⟨z2, _ | ⟨z3, _ | ⟨z4, _ | ⟨z5, _ | ⟨z6, _ | ⟨z7, _ | ⟨z8, _ | ⟨z9, _ | ⟨z10, _ | ⟨z11, _ | ⟨z12, _ | ⟨z13, _ | ⟨z14, vs⟩⟩⟩⟩⟩⟩⟩⟩⟩⟩⟩⟩⟩⟩ <;> first | (exfalso; simp at hvl; done) | skip
                simp only [List.zip_cons_cons, List.zip_nil_left, List.cons_append, List.nil_append, puts_cons, puts_nil, put_lit, List.set_cons_succ, List.set_cons_zero]
                clear hvl hsp
                go_wp2
                have hpl9 : p.ins.length ≤ 9223372036854775807 := hvj.len_le
                go_loopg [85, 12] p.ins.length (fun kk vi vf wr2 => ∃ (k : Nat), vi = .int .i64 (k : Int) ∧ k ≤ p.ins.length ∧ Hid (k + kk = p.ins.length) ∧ vf = .bool (fitT i p row k) ∧ Ext [] wq wr2)
                case atStart => exact ⟨0, rfl, by omega, by simp [Hid], rfl, (Ext.refl _ _).drew⟩
                case round =>
                  obtain ⟨k, rfl, hk, HK3, rfl, hx10⟩ := hrel
                  by_cases hlt3 : k < p.ins.length
                  · have hgk : 0 < gk := by have := HK3.out; omega
                    obtain ⟨gv, Sn, cs, rfl, _, _, ⟨_, rfl⟩, hcn⟩ := ((hvj.ext0 hxq).ext0 hx10).cells k hlt3
                    have n0 := hcn 0 _ rfl
                    have n1 := hcn 1 _ rfl
                    simp only [kIn, Nat.add_zero] at n0 n1
                    have Hsucc : Hid (∀ h2 : k < row.length, fitT i p row (k + 1) = (fitT i p row k && decide (p.ins[k].src = (row[k] : Int)))) := fun h2 => fitT_succ hlt3 h2
                    clear hcn
                    generalize p.ins[k] = n at *
                    obtain ⟨gn, hgn⟩ : ∃ gn, gn = wr.heap.size := ⟨_, rfl⟩
                    obtain ⟨wn, hwn⟩ : ∃ wn, wn = wr.alloc (.cells #[.int .i64 n.src, .int .i64 n.val] 49) := ⟨_, rfl⟩
                    have hxn : Ext [] wr wn := by rw [hwn]; exact (Ext.refl _ _).alloc _
                    have hbn : Blk wn gn 49 #[.int .i64 n.src, .int .i64 n.val] := by rw [hwn, hgn]; exact Blk.new _ _ _
                    have m0 := hbn.cell (i := 0) rfl
                    have er2 := (hx10.nil hxn).cell er' (by simp)
                    go_wp2
                    rw [← hwn, ← hgn]
                    clear n0 n1 hwn hgn
                    cases hf : fitT i p row k with
                    | false =>
                      have Hf : Hid (fitT i p row (k + 1) = false) := fitT_false hf
                      refine wp_region_rt (fun W => True) (.q 0 (.q 1 (.q 2 (.q 3 (.q 4 (.q 5 (.q 6 (.q 7 (.q 8 (.q 9 (.q 10 (.q 11 (.q 12 (.q 13 .nil)))))))))))))) (by kernel_rfl) (by kernel_rfl) trivial ?_
                      refine rt_put [90, 91, 92, 93, 94, 95, 96, 97, 98, 99, 100, 101, 102] [(12, .bool (fitT i p row (k + 1)))] (fun W => W = wn.drew) ?_ ?_
                      · refine rt_quiet (.bool false) rfl rfl (fun W' hC => by simp [go_sem]) ?_
                        simp only [put_lit, put_none, List.set_cons_succ, List.set_cons_zero]
                        refine rt_quiet (.bool false) rfl rfl (fun W' hC => by simp [go_sem]) ?_
                        simp only [put_lit, put_none, List.set_cons_succ, List.set_cons_zero]
                        refine rt_skip rfl rfl ?_
                        simp only [put_lit, put_none, List.set_cons_succ, List.set_cons_zero]
                        refine rt_skip rfl rfl ?_
                        simp only [put_lit, put_none, List.set_cons_succ, List.set_cons_zero]
                        refine rt_skip rfl rfl ?_
                        simp only [put_lit, put_none, List.set_cons_succ, List.set_cons_zero]
                        refine rt_skip rfl rfl ?_
                        simp only [put_lit, put_none, List.set_cons_succ, List.set_cons_zero]
                        refine rt_skip rfl rfl ?_
                        simp only [put_lit, put_none, List.set_cons_succ, List.set_cons_zero]
                        refine rt_skip rfl rfl ?_
                        simp only [put_lit, put_none, List.set_cons_succ, List.set_cons_zero]
                        refine rt_skip rfl rfl ?_
                        simp only [put_lit, put_none, List.set_cons_succ, List.set_cons_zero]
                        refine rt_skip rfl rfl ?_
                        simp only [put_lit, put_none, List.set_cons_succ, List.set_cons_zero]
                        refine rt_skip rfl rfl ?_
                        simp only [put_lit, put_none, List.set_cons_succ, List.set_cons_zero]
                        refine rt_skip rfl rfl ?_
                        simp only [put_lit, put_none, List.set_cons_succ, List.set_cons_zero]
                        refine rt_quiet (.bool false) rfl rfl (fun W' hC => by simp [go_sem]) ?_
                        simp only [put_lit, put_none, List.set_cons_succ, List.set_cons_zero]
                        refine rt_quiet (.bool false) rfl rfl (fun W' hC => by simp [go_sem]) ?_
                        simp only [put_lit, put_none, List.set_cons_succ, List.set_cons_zero]
                        refine rt_nil ?_
                        refine ⟨by trivial, [.bool false, .bool false, undef, undef, undef, undef, undef, undef, undef, undef, undef, undef, .bool false], rfl, ?_, rfl⟩
                        rw [Hf.out]
                        simp only [List.zip_cons_cons, List.zip_nil_left, List.cons_append, List.nil_append, puts_cons, puts_nil, put_lit, List.set_cons_succ, List.set_cons_zero]
                      · rintro vs W' hvl rfl
                        rcases vs with _ | ⟨z1, _ | ⟨z2, _ | ⟨z3, _ | ⟨z4, _ | ⟨z5, _ | ⟨z6, _ | ⟨z7, _ | ⟨z8, _ | ⟨z9, _ | ⟨z10, _ | ⟨z11, _ | ⟨z12, _ | ⟨z13, _ | ⟨z14, vs⟩⟩⟩⟩⟩⟩⟩⟩⟩⟩⟩⟩⟩⟩ <;> first | (exfalso; simp at hvl; done) | skip
                        simp only [List.zip_cons_cons, List.zip_nil_left, List.cons_append, List.nil_append, puts_cons, puts_nil, put_lit, List.set_cons_succ, List.set_cons_zero]
                        clear hvl
                        go_wp2
                        go_roundg (gk - 1)
                        case measure => omega
                        case rel => exact ⟨k + 1, by go_num, hlt3, by have := HK3.out; simp only [Hid]; omega, rfl, (hx10.nil hxn).drew⟩
                    | true =>
                      have hrl : k < row.length := by have := fitT_len hf; omega
                      obtain ⟨gr, _, hv, _, ek, _⟩ := ((hrow.ext0 hxq).ext0 (hx10.nil hxn)).cell k hrl
                      cases hv
                      have hs := Hsucc.out hrl
                      rw [hf, Bool.true_and] at hs
                      generalize row[k] = rk at *
                      have Hf : Hid (fitT i p row (k + 1) = (n.src == (rk : Int))) := by rw [Hid, hs]; rfl
                      have hkr := hrl
                      clear hs hrl
                      refine wp_region_rt (fun W => W.cell? ⟨gn, 0, none⟩ = some (.int .i64 n.src) ∧ W.cell? ⟨p4, i, none⟩ = some (.slice (some ⟨gr, 0, none⟩) row.length cr) ∧ W.cell? ⟨gr, k, none⟩ = some (.int .i64 (rk : Int))) (.q 0 (.q 1 (.q 2 (.q 3 (.q 4 (.q 5 (.q 6 (.q 7 (.q 8 (.q 9 (.q 10 (.q 11 (.q 12 (.q 13 .nil)))))))))))))) (by kernel_rfl) (by kernel_rfl) ⟨m0, er2, ek⟩ ?_
                      refine rt_put [90, 91, 92, 93, 94, 95, 96, 97, 98, 99, 100, 101, 102] [(12, .bool (fitT i p row (k + 1)))] (fun W => W = wn.drew) ?_ ?_
                      · refine rt_quiet (.bool true) rfl rfl (fun W' hC => by simp [go_sem]) ?_
                        simp only [put_lit, put_none, List.set_cons_succ, List.set_cons_zero]
                        refine rt_quiet (.bool true) rfl rfl (fun W' hC => by simp [go_sem]) ?_
                        simp only [put_lit, put_none, List.set_cons_succ, List.set_cons_zero]
                        refine rt_quiet (.pointer (some ⟨gn, 0, none⟩)) rfl rfl (fun W' hC => by simp [go_sem]) ?_
                        simp only [put_lit, put_none, List.set_cons_succ, List.set_cons_zero]
                        refine rt_quiet (.int .i64 n.src) rfl rfl (fun W' hC => by simp [go_sem, hC.1]) ?_
                        simp only [put_lit, put_none, List.set_cons_succ, List.set_cons_zero]
                        refine rt_quiet (.slice (some ⟨p4, 0, none⟩) bs.length c4) rfl rfl (fun W' hC => by simp [go_sem]) ?_
                        simp only [put_lit, put_none, List.set_cons_succ, List.set_cons_zero]
                        refine rt_quiet (.int .i64 (i : Int)) rfl rfl (fun W' hC => by simp [go_sem]) ?_
                        simp only [put_lit, put_none, List.set_cons_succ, List.set_cons_zero]
                        refine rt_quiet (.pointer (some ⟨p4, i, none⟩)) rfl rfl (fun W' hC => by simp [go_sem, hlt]) ?_
                        simp only [put_lit, put_none, List.set_cons_succ, List.set_cons_zero]
                        refine rt_quiet (.slice (some ⟨gr, 0, none⟩) row.length cr) rfl rfl (fun W' hC => by simp [go_sem, hC.2.1]) ?_
                        simp only [put_lit, put_none, List.set_cons_succ, List.set_cons_zero]
                        refine rt_quiet (.int .i64 (k : Int)) rfl rfl (fun W' hC => by simp [go_sem]) ?_
                        simp only [put_lit, put_none, List.set_cons_succ, List.set_cons_zero]
                        refine rt_quiet (.pointer (some ⟨gr, k, none⟩)) rfl rfl (fun W' hC => by simp [go_sem, hkr]) ?_
                        simp only [put_lit, put_none, List.set_cons_succ, List.set_cons_zero]
                        refine rt_quiet (.int .i64 (rk : Int)) rfl rfl (fun W' hC => by simp [go_sem, hC.2.2]) ?_
                        simp only [put_lit, put_none, List.set_cons_succ, List.set_cons_zero]
                        refine rt_quiet (.bool (n.src == (rk : Int))) rfl rfl (fun W' hC => by simp [go_sem]) ?_
                        simp only [put_lit, put_none, List.set_cons_succ, List.set_cons_zero]
                        refine rt_quiet (.bool (n.src == (rk : Int))) rfl rfl (fun W' hC => by simp [go_sem]) ?_
                        simp only [put_lit, put_none, List.set_cons_succ, List.set_cons_zero]
                        refine rt_quiet (.bool (n.src == (rk : Int))) rfl rfl (fun W' hC => by simp [go_sem]) ?_
                        simp only [put_lit, put_none, List.set_cons_succ, List.set_cons_zero]
                        refine rt_nil ?_
                        refine ⟨by trivial, [.bool true, .bool true, .pointer (some ⟨gn, 0, none⟩), .int .i64 n.src, .slice (some ⟨p4, 0, none⟩) bs.length c4, .int .i64 (i : Int), .pointer (some ⟨p4, i, none⟩), .slice (some ⟨gr, 0, none⟩) row.length cr, .int .i64 (k : Int), .pointer (some ⟨gr, k, none⟩), .int .i64 (rk : Int), .bool (n.src == (rk : Int)), .bool (n.src == (rk : Int))], rfl, ?_, rfl⟩
                        rw [Hf.out]
                        simp only [List.zip_cons_cons, List.zip_nil_left, List.cons_append, List.nil_append, puts_cons, puts_nil, put_lit, List.set_cons_succ, List.set_cons_zero]
                      · rintro vs W' hvl rfl
                        rcases vs with _ | ⟨z1, _ | ⟨z2, _ | ⟨z3, _ | ⟨z4, _ | ⟨z5, _ | ⟨z6, _ | ⟨z7, _ | ⟨z8, _ | ⟨z9, _ | ⟨z10, _ | ⟨z11, _ | ⟨z12, _ | ⟨z13, _ | ⟨z14, vs⟩⟩⟩⟩⟩⟩⟩⟩⟩⟩⟩⟩⟩⟩ <;> first | (exfalso; simp at hvl; done) | skip
                        simp only [List.zip_cons_cons, List.zip_nil_left, List.cons_append, List.nil_append, puts_cons, puts_nil, put_lit, List.set_cons_succ, List.set_cons_zero]
                        clear hvl
                        go_wp2
                        go_roundg (gk - 1)
                        case measure => omega
                        case rel => exact ⟨k + 1, by go_num, hlt3, by have := HK3.out; simp only [Hid]; omega, rfl, (hx10.nil hxn).drew⟩
                  · have hke : k = p.ins.length := by omega
                    subst hke
                    rw [fitT_all]
                    go_wp2_with fail
                    cases hfit : phiFits i p row with
                    | false =>
                      rw [hfit, runC_false] at HF2
                      refine (must_calls _ false (16, (i : Int), -1 - (j : Int))).mono ?_
                      rintro e w7 ⟨rfl, rfl⟩
                      simp only [runC, endC]
                      go_wp2
                      refine ⟨rfl, ?_⟩
                      exact Hfin.out _ _ (by rw [HF2.out]; rfl) (hx6.nil ((hx8.nil hx9).nil (hxq.nil hx10)))
                    | true =>
                      rw [hfit, runC_true] at HF2
                      have Hsrc : Hid (p.ins.map (·.src) = row.map Int.ofNat) := by
                        simp only [phiFits, Bool.and_eq_true, decide_eq_true_eq] at hfit; exact hfit.2
                      refine (must_calls _ true (16, (i : Int), -1 - (j : Int))).mono ?_
                      rintro e w7 ⟨rfl, rfl⟩
                      simp only [runC, endC]
                      have g2 := hbq.ext hx10 (by simp)
                      have g3 := g2.cell (i := 1) rfl
                      clear hfit
                      obtain ⟨wz, hwz⟩ : ∃ x, x = w7 := ⟨_, rfl⟩
                      subst hwz
                      go_wp2
                      go_loopg [112] p.ins.length (fun kk vi wr2 => ∃ (k : Nat), vi = .int .i64 (k : Int) ∧ k ≤ p.ins.length ∧ Hid (k + kk = p.ins.length) ∧ Ext [] wz wr2 ∧
                        Hid (runC FF = runC ((p.ins.drop k).map (inU params mk (domF idom) bs i j) ++ ((((List.range x.phis.length).map (phiU params mk (domF idom) bs i x)).drop (j + 1)).flatten ++ R))))
                      case atStart => exact ⟨0, rfl, by omega, by simp [Hid], Ext.refl _ _, HF2⟩
                      case round =>
                        obtain ⟨k, rfl, hk, HK3, hx11, HF3⟩ := hrel
                        clear HF2
                        have hUr := (((hU6.ext0 (hx8.nil hx9)).ext0 (hxq.nil hx10)).ext0 hx11)
                        by_cases hlt3 : k < p.ins.length
                        · obtain ⟨gv, Sn, cs, rfl, _, _, ⟨_, rfl⟩, hcn⟩ := ((hvj.ext0 (hxq.nil hx10)).ext0 hx11).cells k hlt3
                          have n0 := hcn 0 _ rfl
                          have n1 := hcn 1 _ rfl
                          simp only [kIn, Nat.add_zero] at n0 n1
                          rw [List.drop_eq_getElem_cons hlt3, List.map_cons, List.cons_append] at HF3
                          have hrl : k < row.length := by
                            have := congrArg List.length Hsrc.out; simp only [List.length_map] at this; omega
                          have hsk : p.ins[k].src = ((row[k] : Nat) : Int) := by
                            have h1 : (p.ins.map (·.src))[k]'(by simpa using hlt3) = (row.map Int.ofNat)[k]'(by simpa using hrl) := by simp only [Hsrc.out]
                            simpa using h1
                          have hrk := Hrow.out row[k] (List.getElem_mem hrl)
                          generalize p.ins[k] = n at *
                          generalize row[k] = rk at *
                          obtain ⟨nsrc, nval⟩ := n
                          simp only at hsk n0 n1
                          subst hsk
                          obtain ⟨_, _, _, _, Ai2, ci2, _, _, _, _, _, _, _, _, _, hv, _, _, _, _, bi, _, _, _, _⟩ := FnR.block ((hb.ext0 hx6).ext0 (((hx8.nil hx9).nil (hxq.nil hx10)).nil hx11)) rk hrk
                          cases hv
                          have hin : inU params mk (domF idom) bs i j ⟨(rk : Int), nval⟩ = (useB params mk (domF idom) nval (rk : Int) (bs[rk].ins.length : Int), (13, (i : Int), -1 - (j : Int))) := by simp [inU, List.getD, hrk]
                          rw [hin] at HF3
                          have Hin := Lib.hid hin
                          clear hin hcn
                          generalize bs[rk] = y at *
                          obtain ⟨gn, hgn⟩ : ∃ gn, gn = wr.heap.size := ⟨_, rfl⟩
                          obtain ⟨wn, hwn⟩ : ∃ wn, wn = wr.alloc (.cells #[.int .i64 (rk : Int), .int .i64 nval] 49) := ⟨_, rfl⟩
                          have hxn : Ext [] wr wn := by rw [hwn]; exact (Ext.refl _ _).alloc _
                          have hbn : Blk wn gn 49 #[.int .i64 (rk : Int), .int .i64 nval] := by rw [hwn, hgn]; exact Blk.new _ _ _
                          have hUn := hUr.ext0 hxn
                          have bi' := hxn.cell bi (by simp)
                          go_wp2
                          rw [← hwn, ← hgn]
                          clear n0 n1 hwn hgn bi
                          refine wp_region_rt (fun W => Blk W gn 49 #[.int .i64 (rk : Int), .int .i64 nval] ∧ Blk W w.heap.size 99 #[.pointer (some ⟨q, 0, none⟩)] ∧ Blk W q 102 #[.int .i64 params, .slice (some ⟨gg, 0, none⟩) bs.length c, .map (some m)] ∧ W.cell? ⟨gg, rk * 6 + 1, none⟩ = some (.slice Ai2 y.ins.length ci2))
                            (.q 0 (.q 1 (.q 2 (.q 3 (.q 4 (.q 5 (.q 6 (.q 7 (.q 8 (.q 9 (.q 10 (.q 11 (.q 12 (.q 13 (.q 14 (.q 15 (.q 16 (.q 17 (.q 18 (.fin 19)))))))))))))))))))) (by kernel_rfl) (by kernel_rfl) ⟨hbn, hUn.b5, hUn.look.cl, bi'⟩ ?_
                          refine rt_quiet (.func (.func 74) #[] #[.pointer (some ⟨w.heap.size, 0, none⟩), .pointer (some ⟨w5.heap.size, 0, none⟩)]) rfl rfl (fun W' hC => by simp [go_sem]) ?_
                          simp only [put_lit, put_none, List.set_cons_succ, List.set_cons_zero]
                          refine rt_quiet (.pointer (some ⟨gn, 1, none⟩)) rfl rfl (fun W' hC => by simp [go_sem]) ?_
                          simp only [put_lit, put_none, List.set_cons_succ, List.set_cons_zero]
                          refine rt_quiet (.int .i64 nval) rfl rfl (fun W' hC => by simp [go_sem, hC.1.cell (i := 1) rfl]) ?_
                          simp only [put_lit, put_none, List.set_cons_succ, List.set_cons_zero]
                          refine rt_quiet (.pointer (some ⟨gn, 0, none⟩)) rfl rfl (fun W' hC => by simp [go_sem]) ?_
                          simp only [put_lit, put_none, List.set_cons_succ, List.set_cons_zero]
                          refine rt_quiet (.int .i64 (rk : Int)) rfl rfl (fun W' hC => by simp [go_sem, hC.1.cell (i := 0) rfl]) ?_
                          simp only [put_lit, put_none, List.set_cons_succ, List.set_cons_zero]
                          refine rt_quiet (.int .i64 (j : Int)) rfl rfl (fun W' hC => by simp [go_sem]) ?_
                          simp only [put_lit, put_none, List.set_cons_succ, List.set_cons_zero]
                          refine rt_quiet (.int .i64 (-1 - (j : Int))) rfl rfl (fun W' hC => by simp [go_sem]; rw [IntKind.wrap_i64]; omega) ?_
                          simp only [put_lit, put_none, List.set_cons_succ, List.set_cons_zero]
                          refine rt_quiet (.pointer (some ⟨q, 0, none⟩)) rfl rfl (fun W' hC => by simp [go_sem, hC.2.1.cell (i := 0) rfl]) ?_
                          simp only [put_lit, put_none, List.set_cons_succ, List.set_cons_zero]
                          refine rt_quiet (.pointer (some ⟨q, 0, none⟩)) rfl rfl (fun W' hC => by simp [go_sem]) ?_
                          simp only [put_lit, put_none, List.set_cons_succ, List.set_cons_zero]
                          refine rt_quiet (.pointer (some ⟨q, 0, none⟩)) rfl rfl (fun W' hC => by simp [go_sem]) ?_
                          simp only [put_lit, put_none, List.set_cons_succ, List.set_cons_zero]
                          refine rt_quiet (.pointer (some ⟨q, 1, none⟩)) rfl rfl (fun W' hC => by simp [go_sem]) ?_
                          simp only [put_lit, put_none, List.set_cons_succ, List.set_cons_zero]
                          refine rt_quiet (.slice (some ⟨gg, 0, none⟩) bs.length c) rfl rfl (fun W' hC => by simp [go_sem, hC.2.2.1.cell (i := 1) rfl]) ?_
                          simp only [put_lit, put_none, List.set_cons_succ, List.set_cons_zero]
                          refine rt_quiet (.pointer (some ⟨gn, 0, none⟩)) rfl rfl (fun W' hC => by simp [go_sem]) ?_
                          simp only [put_lit, put_none, List.set_cons_succ, List.set_cons_zero]
                          refine rt_quiet (.int .i64 (rk : Int)) rfl rfl (fun W' hC => by simp [go_sem, hC.1.cell (i := 0) rfl]) ?_
                          simp only [put_lit, put_none, List.set_cons_succ, List.set_cons_zero]
                          refine rt_quiet (.pointer (some ⟨gg, rk * 6, none⟩)) rfl rfl (fun W' hC => by simp [go_sem, hrk]) ?_
                          simp only [put_lit, put_none, List.set_cons_succ, List.set_cons_zero]
                          refine rt_quiet (.pointer (some ⟨gg, rk * 6 + 1, none⟩)) rfl rfl (fun W' hC => by simp [go_sem]) ?_
                          simp only [put_lit, put_none, List.set_cons_succ, List.set_cons_zero]
                          refine rt_quiet (.slice Ai2 y.ins.length ci2) rfl rfl (fun W' hC => by simp [go_sem, hC.2.2.2]) ?_
                          simp only [put_lit, put_none, List.set_cons_succ, List.set_cons_zero]
                          refine rt_quiet (.int .i64 (y.ins.length : Int)) rfl rfl (fun W' hC => by simp [go_sem]) ?_
                          simp only [put_lit, put_none, List.set_cons_succ, List.set_cons_zero]
                          refine rt_quiet (.int .i64 (i : Int)) rfl rfl (fun W' hC => by simp [go_sem]) ?_
                          simp only [put_lit, put_none, List.set_cons_succ, List.set_cons_zero]
                          refine fin_call (w' := wn.drew) rfl rfl (by simp [go_sem]) ((use_calls (hUn.ext0 ((Ext.refl _ _).drew)) hnd hdl nval (rk : Int) (-1 - (j : Int)) (y.ins.length : Int) (i : Int)).mono ?_)
                          rintro e w8 ⟨rfl, hx12⟩
                          have hx13 : Ext [] wz w8 := (hx11.nil hxn).nil (((Ext.refl [] wn).drew).nil hx12)
                          cases hu : useB params mk (domF idom) nval (rk : Int) (y.ins.length : Int) with
                          | false =>
                            rw [hu, runC_false] at HF3
                            refine .inr ⟨_, rfl, ?_⟩
                            simp only [Exit.then]
                            go_wp2
                            refine ⟨rfl, ?_⟩
                            exact Hfin.out _ _ (by rw [HF3.out]; rfl) (hx6.nil (((hx8.nil hx9).nil (hxq.nil hx10)).nil hx13))
                          | true =>
                            rw [hu, runC_true] at HF3
                            refine .inl ⟨_, rfl, ?_⟩
                            simp only [put_lit, put_none, List.set_cons_succ, List.set_cons_zero]
                            go_wp2
                            go_roundg (gk - 1)
                            case measure => have := HK3.out; omega
                            case rel => exact ⟨k + 1, by go_num, hlt3, by have := HK3.out; simp only [Hid]; omega, hx13, HF3⟩
                        · have hke : k = p.ins.length := by omega
                          subst hke
                          rw [List.drop_length, List.map_nil, List.nil_append] at HF3
                          go_wp2
                          go_roundg (q1 - 1)
                          case measure => have := HK2.out; omega
                          case rel => exact ⟨j + 1, by go_num, by omega, by have := HK2.out; simp only [Hid]; omega, (hx9.nil (hxq.nil hx10)).nil hx11, HF3⟩
            · have hje : j = x.phis.length := by omega
              subst hje
              have hde : ((List.range x.phis.length).map (phiU params mk (domF idom) bs i x)).drop x.phis.length = [] := drop_map_len _ _
              rw [hde, HR.out, List.flatten_nil, List.nil_append, List.append_assoc] at HF2
              have HF4 : Hid (runC FF = runC ((((List.range x.ins.length).map (insU params mk (domF idom) i x)).drop 0).flatten ++ (x.term.args.map (argU params mk (domF idom) i x.ins.length) ++ B.flatten))) := HF2
              clear HF2 HR hde
              obtain ⟨w9, hw9⟩ : ∃ x, x = wr := ⟨_, rfl⟩
              subst hw9
              have hb9 := hblk.ext hx9 (by simp)
              have f1 := hb9.cell (i := 1) rfl
              go_wp2
              go_loopg [141] x.ins.length (fun k vi wr2 => ∃ (j : Nat), vi = .int .i64 (j : Int) ∧ j ≤ x.ins.length ∧ Hid (j + k = x.ins.length) ∧ Ext [] w9 wr2 ∧
                Hid (runC FF = runC ((((List.range x.ins.length).map (insU params mk (domF idom) i x)).drop j).flatten ++ (x.term.args.map (argU params mk (domF idom) i x.ins.length) ++ B.flatten))))
              case atStart => exact ⟨0, rfl, by omega, by simp [Hid], Ext.refl _ _, HF4⟩
              case round =>
                obtain ⟨j, rfl, hj, HK2, hx10, HF5⟩ := hrel
                obtain ⟨q1, hq1⟩ : ∃ x, x = gk := ⟨_, rfl⟩
                subst hq1
                clear HF4
                by_cases hlt2 : j < x.ins.length
                · obtain ⟨gp, Sj, cs, rfl, hgp, _, ⟨vj, rfl, hvj⟩, hcj⟩ := ((hbc1.i.ext0 hx9).ext0 hx10).cells j hlt2
                  have e0 := hcj 0 _ rfl
                  have e1' := hcj 1 _ rfl
                  have e2 := hcj 2 _ rfl
                  have e3 := hcj 3 _ rfl
                  have e4 := hcj 4 _ rfl
                  simp only [kIns, Nat.add_zero] at e0 e1' e2 e3 e4
                  have hph : ((List.range x.ins.length).map (insU params mk (domF idom) i x)).drop j = insU params mk (domF idom) i x j :: ((List.range x.ins.length).map (insU params mk (domF idom) i x)).drop (j + 1) := drop_map_range _ _ _ hlt2
                  have hpu : insU params mk (domF idom) i x j = x.ins[j].args.map (argU params mk (domF idom) i j) := by
                    rw [insU]; simp [List.getD, hlt2]
                  rw [hph, hpu, List.flatten_cons, List.append_assoc] at HF5
                  clear hph hpu hcj
                  have hsl := Hag1.out x.ins[j] (List.getElem_mem hlt2)
                  generalize x.ins[j] = s at *
                  obtain ⟨Av, cv, rfl, _⟩ := hvj.shape
                  obtain ⟨gq, hgq⟩ : ∃ gq, gq = wr.heap.size := ⟨_, rfl⟩
                  obtain ⟨wq, hwq⟩ : ∃ wq, wq = wr.alloc (.cells #[.int .i64 s.op, .int .i64 s.dst, .int .i64 s.two, .slice Av s.args.length cv, .int .i32 s.imm] 54) := ⟨_, rfl⟩
                  have hxq : Ext [] wr wq := by rw [hwq]; exact (Ext.refl _ _).alloc _
                  have hbq : Blk wq gq 54 #[.int .i64 s.op, .int .i64 s.dst, .int .i64 s.two, .slice Av s.args.length cv, .int .i32 s.imm] := by rw [hwq, hgq]; exact Blk.new _ _ _
                  have g3 := hbq.cell (i := 3) rfl
                  have hvq := hvj.ext0 hxq
                  go_wp2
                  rw [← hwq, ← hgq]
                  clear e0 e1' e2 e3 e4 hwq hgq
                  go_wp2
                  have HF6 : Hid (runC FF = runC ((s.args.drop 0).map (argU params mk (domF idom) i j) ++ ((((List.range x.ins.length).map (insU params mk (domF idom) i x)).drop (j + 1)).flatten ++ (x.term.args.map (argU params mk (domF idom) i x.ins.length) ++ B.flatten)))) := HF5
                  clear HF5
                  go_loopg [149] s.args.length (fun kk vi wr2 => ∃ (k : Nat), vi = .int .i64 (k : Int) ∧ k ≤ s.args.length ∧ Hid (k + kk = s.args.length) ∧ Ext [] wq wr2 ∧
                    Hid (runC FF = runC ((s.args.drop k).map (argU params mk (domF idom) i j) ++ ((((List.range x.ins.length).map (insU params mk (domF idom) i x)).drop (j + 1)).flatten ++ (x.term.args.map (argU params mk (domF idom) i x.ins.length) ++ B.flatten)))))
                  case atStart => exact ⟨0, rfl, by omega, by simp [Hid], Ext.refl _ _, HF6⟩
                  case round =>
                    obtain ⟨k, rfl, hk, HK3, hx11, HF7⟩ := hrel
                    clear HF6
                    by_cases hlt3 : k < s.args.length
                    · obtain ⟨gc, cc, hv, hS, hc, _⟩ := (hvq.ext0 hx11).cell k hlt3
                      cases hv
                      rw [List.drop_eq_getElem_cons hlt3, List.map_cons, List.cons_append] at HF7
                      generalize s.args[k] = v at *
                      have hxw := (((hx8.nil hx9).nil hx10).nil hxq).nil hx11
                      go_wp2_with fail
                      refine (use_calls (hU6.ext0 hxw) hnd hdl v (i : Int) (j : Int) (j : Int) (i : Int)).mono ?_
                      rintro e w8 ⟨rfl, hx12⟩
                      cases hu : useB params mk (domF idom) v (i : Int) (j : Int) with
                      | false =>
                        rw [argU, hu, runC_false] at HF7
                        simp only [runC, endC]
                        go_wp2
                        refine ⟨rfl, ?_⟩
                        exact Hfin.out _ _ (by rw [HF7.out]; rfl) (hx6.nil (hxw.nil hx12))
                      | true =>
                        rw [argU, hu, runC_true] at HF7
                        simp only [runC, endC]
                        go_wp2
                        go_roundg (gk - 1)
                        case measure => have := HK3.out; omega
                        case rel => exact ⟨k + 1, by go_num, hlt3, by have := HK3.out; simp only [Hid]; omega, hx11.nil hx12, HF7⟩
                    · have hke : k = s.args.length := by omega
                      subst hke
                      rw [List.drop_length, List.map_nil, List.nil_append] at HF7
                      go_wp2
                      go_roundg (q1 - 1)
                      case measure => have := HK2.out; omega
                      case rel => exact ⟨j + 1, by go_num, by omega, by have := HK2.out; simp only [Hid]; omega, (hx10.nil hxq).nil hx11, HF7⟩
                · have hje : j = x.ins.length := by omega
                  subst hje
                  have hde : ((List.range x.ins.length).map (insU params mk (domF idom) i x)).drop x.ins.length = [] := drop_map_len _ _
                  rw [hde, List.flatten_nil, List.nil_append] at HF5
                  clear hde
                  obtain ⟨w10, hw10⟩ : ∃ x, x = wr := ⟨_, rfl⟩
                  subst hw10
                  have hb10 := hb9.ext hx10 (by simp)
                  have f3 := hb10.cell (i := 3) rfl
                  have HF8 : Hid (runC FF = runC ((x.term.args.drop 0).map (argU params mk (domF idom) i x.ins.length) ++ B.flatten)) := HF5
                  clear HF5
                  go_wp2
                  go_loopg [166] x.term.args.length (fun kk vi wr2 => ∃ (k : Nat), vi = .int .i64 (k : Int) ∧ k ≤ x.term.args.length ∧ Hid (k + kk = x.term.args.length) ∧ Ext [] w10 wr2 ∧
                    Hid (runC FF = runC ((x.term.args.drop k).map (argU params mk (domF idom) i x.ins.length) ++ B.flatten)))
                  case atStart => exact ⟨0, rfl, by omega, by simp [Hid], Ext.refl _ _, HF8⟩
                  case round =>
                    obtain ⟨k, rfl, hk, HK3, hx11, HF7⟩ := hrel
                    clear HF8
                    by_cases hlt3 : k < x.term.args.length
                    · obtain ⟨gc, cc, hv, hS, hc, _⟩ := ((hbc1.a.ext0 (hx9.nil hx10)).ext0 hx11).cell k hlt3
                      cases hv
                      rw [List.drop_eq_getElem_cons hlt3, List.map_cons, List.cons_append] at HF7
                      generalize x.term.args[k] = v at *
                      have hxw := ((hx8.nil hx9).nil hx10).nil hx11
                      have hb11 := hb10.ext hx11 (by simp)
                      have h1c := hb11.cell (i := 1) rfl
                      go_wp2_with fail
                      refine (use_calls (hU6.ext0 hxw) hnd hdl v (i : Int) (x.ins.length : Int) (x.ins.length : Int) (i : Int)).mono ?_
                      rintro e w8 ⟨rfl, hx12⟩
                      cases hu : useB params mk (domF idom) v (i : Int) (x.ins.length : Int) with
                      | false =>
                        rw [argU, hu, runC_false] at HF7
                        simp only [runC, endC]
                        go_wp2
                        refine ⟨rfl, ?_⟩
                        exact Hfin.out _ _ (by rw [HF7.out]; rfl) (hx6.nil (hxw.nil hx12))
                      | true =>
                        rw [argU, hu, runC_true] at HF7
                        simp only [runC, endC]
                        go_wp2
                        go_roundg (gk - 1)
                        case measure => have := HK3.out; omega
                        case rel => exact ⟨k + 1, by go_num, hlt3, by have := HK3.out; simp only [Hid]; omega, hx11.nil hx12, HF7⟩
                    · have hke : k = x.term.args.length := by omega
                      subst hke
                      rw [List.drop_length, List.map_nil, List.nil_append] at HF7
                      go_wp2
                      go_roundg (q0 - 1)
                      case measure => have := HK.out; omega
                      case rel => exact ⟨i + 1, by go_num, by omega, by have := HK.out; simp only [Hid]; omega, ((hx7.nil hxb).nil (hx9.nil hx10)).nil hx11, by rw [HB.out]; exact HF7⟩
        · have hie : i = bs.length := by omega
          subst hie
          have hde : (blocksU params mk (domF idom) bs).drop bs.length = [] := drop_map_len _ _
          rw [hde] at HF
          have hre : Hid (runC FF = none) := HF
          clear HF
          go_wp2
          go_end0
          exact Hfin.out _ _ (by rw [hre.out]; rfl) (hx6.nil hx7)
end Go.Proofs.Ytkmgbejhbkbaoaa
