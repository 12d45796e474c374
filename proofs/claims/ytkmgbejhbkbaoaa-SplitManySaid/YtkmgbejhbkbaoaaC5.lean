/- The program's check: shape, walked. -/
import Derived.Test.YtkmgbejhbkbaoaaC4
namespace Go.Proofs.Ytkmgbejhbkbaoaa
set_option linter.unusedSimpArgs false
set_option linter.unusedVariables false
open Go.RowKit

set_option maxRecDepth 20000 in
set_option maxHeartbeats 1600000 in
theorem shape_calls {w : World} {q m : Nat} {params : Int} {vb : Value} {S : List Nat} {bs : List JBlock} (h : Look w q m params vb []) (hb : SlR kBlock 43 w S vb bs) (hm : m ∉ S) (hn : bs.length ≤ 512)
    (hp : ∀ x ∈ bs, x.phis.length ≤ 4096 ∧ x.ins.length ≤ 4096) :
    Calls Try.prog 50 #[.pointer (some ⟨q, 0, none⟩)] w fun e w' =>
      e = endC (runC (shapeC params bs)) ∧ Ext [m] w w' ∧ (runC (shapeC params bs) = none → Look w' q m params vb (mkAfter [] (blocksT bs).flatten)) := by
  obtain ⟨A, c, rfl, hcap⟩ := hb.shape
  have c0 := h.cl.cell (i := 1) rfl
  have hr0 : Hid (runC (shapeC params bs) = runC (thgsC params [] ((blocksT bs).drop 0).flatten)) := rfl
  have hml : m < w.heap.size := h.mp.lt
  have hql : q < w.heap.size := h.cl.lt
  go_enter Try.func50, Try.ntmps50
  go_wp2
  go_loopg [20] bs.length (fun k vi wr => ∃ (i : Nat) (mk : Mk), vi = .int .i64 (i : Int) ∧ i ≤ bs.length ∧ Hid (i + k = bs.length) ∧ Ext [m] w wr ∧ Look wr q m params (.slice A bs.length c) mk ∧
    Hid (runC (shapeC params bs) = runC (thgsC params mk ((blocksT bs).drop i).flatten)) ∧ Hid (mkAfter [] (blocksT bs).flatten = mkAfter mk ((blocksT bs).drop i).flatten))
  case atStart => exact ⟨0, [], rfl, by omega, by simp [Hid], Ext.refl _ _, h, hr0, rfl⟩
  case round =>
    obtain ⟨i, mk, rfl, hi, HK, hx, hlk, hr, hmk⟩ := hrel
    clear hr0
    by_cases hlt : i < bs.length
    · have hbw := hb.ext hx (fun k hk h => by simp at h; exact hm (h ▸ hk))
      obtain ⟨g, _, Ap, cp, Ai, ci, Aa, ca, At, ct, Sb, Sp, Si, Sa, St, hv, hg, hsub, hbc, b0, b1, b2, b3, b4, b5⟩ := FnR.block hbw i hlt
      cases hv
      have hdr : (blocksT bs).drop i = blockT bs.length i bs[i] :: (blocksT bs).drop (i + 1) := by
        rw [blocksT, drop_map_range _ _ _ hlt]; simp [List.getD, hlt]
      rw [hdr, List.flatten_cons] at hr hmk
      clear hdr
      obtain ⟨hp1, hp2⟩ := hp bs[i] (List.getElem_mem hlt)
      have hmS : ∀ k ∈ Sb, k ≠ m := fun k hk h => hm (h ▸ hsub k hk)
      generalize bs[i] = x at *
      generalize hB : (blocksT bs).drop (i + 1) = B at *
      have HB := Lib.hid hB
      clear hB
      have hszr := hx.size
      obtain ⟨w1, hw1⟩ : ∃ w1, w1 = wr.alloc (.cells #[.slice Ap x.phis.length cp, .slice Ai x.ins.length ci, .int .i64 x.term.kind, .slice Aa x.term.args.length ca, .slice At x.term.to.length ct, .int .i32 x.term.imm] 43) := ⟨_, rfl⟩
      have hxa : Ext [] wr w1 := by rw [hw1]; exact (Ext.refl _ _).alloc _
      have hblk : Blk w1 wr.heap.size 43 #[.slice Ap x.phis.length cp, .slice Ai x.ins.length ci, .int .i64 x.term.kind, .slice Aa x.term.args.length ca, .slice At x.term.to.length ct, .int .i32 x.term.imm] := by rw [hw1]; exact Blk.new _ _ _
      have hbc1 := hbc.move (w' := w1) (fun k hk => hxa.block k (hbc.lt k hk) (by simp))
      have hlk1 := hlk.ext0 hxa
      have hx1 : Ext [m] w w1 := hx.same (hxa.mono (by simp))
      have d0 := hblk.cell (i := 0) rfl
      generalize hgb : wr.heap.size = gb at *
      have hne : gb ≠ m := by omega
      go_wp2
      rw [← hw1]
      clear hw1 b0 b1 b2 b3 b4 b5
      obtain ⟨q0, hq0⟩ : ∃ x, x = gk := ⟨_, rfl⟩
      subst hq0
      obtain ⟨R, hR⟩ : ∃ R, R = (inssT i x ++ [termT bs.length i x]) ++ B.flatten := ⟨_, rfl⟩
      have hbt : blockT bs.length i x ++ B.flatten = (phisT i x).drop 0 ++ R := by rw [hR, blockT]; simp
      rw [hbt] at hr hmk
      have HR := Lib.hid hR
      clear hbt hR
      go_loopg [28] x.phis.length (fun k vi wr2 => ∃ (j : Nat) (mk' : Mk), vi = .int .i64 (j : Int) ∧ j ≤ x.phis.length ∧ Hid (j + k = x.phis.length) ∧ Ext [m] w1 wr2 ∧ Look wr2 q m params (.slice (some ⟨g, 0, none⟩) bs.length c) mk' ∧
        Hid (runC (shapeC params bs) = runC (thgsC params mk' ((phisT i x).drop j ++ R))) ∧ Hid (mkAfter [] (blocksT bs).flatten = mkAfter mk' ((phisT i x).drop j ++ R)))
      case atStart => exact ⟨0, mk, rfl, by omega, by simp [Hid], Ext.refl _ _, hlk1, hr, hmk⟩
      case round =>
        obtain ⟨j, mk', rfl, hj, HK2, hx2, hlk2, hr2, hmk2⟩ := hrel
        clear hr hmk
        by_cases hlt2 : j < x.phis.length
        · obtain ⟨gp, Sj, cs, rfl, hgp, _, ⟨vj, rfl, hvj⟩, hcj⟩ := (hbc1.p.ext hx2 (fun k hk h => by simp at h; exact hmS k (by rw [hbc1.s]; simp [hk]) h)).cells j hlt2
          have e0 := hcj 0 _ rfl
          have e1 := hcj 1 _ rfl
          simp only [kPhi, Nat.add_zero] at e0 e1
          have hph : (phisT i x).drop j = ⟨[], [x.phis[j].dst], i, -1 - j⟩ :: (phisT i x).drop (j + 1) := by
            rw [phisT, drop_map_range _ _ _ hlt2]; simp [phiT, List.getD, hlt2]
          rw [hph, List.cons_append, thgsC_cons, List.nil_append, runC_append] at hr2
          rw [hph, List.cons_append] at hmk2
          have hmk3 : Hid (mkAfter [] (blocksT bs).flatten = mkAfter (mkAll mk' [x.phis[j].dst] i (-1 - j)) ((phisT i x).drop (j + 1) ++ R)) := hmk2
          clear hph hcj hmk2
          generalize x.phis[j].dst = dst at *
          obtain ⟨Av, cv, rfl, _⟩ := hvj.shape
          have hsz2 := hx2.size
          go_wp2_with fail
          obtain ⟨w2, hw2⟩ : ∃ w2, w2 = (wr.alloc (.cells #[.int .i64 dst, .slice Av x.phis[j].ins.length cv] 46)).alloc (.cells #[.int .i64 dst] 3) := ⟨_, rfl⟩
          have hxb : Ext [] wr w2 := by rw [hw2]; exact ((Ext.refl _ _).alloc _).alloc _
          have hsl : SlR kInt 3 w2 [wr.heap.size + 1] (.slice (some ⟨wr.heap.size + 1, 0, none⟩) 1 1) [dst] := by
            have := made_lit (w := wr.alloc (.cells #[.int .i64 dst, .slice Av x.phis[j].ins.length cv] 46)) (x := [dst]) (by simp) (by simp)
            rw [hw2]; simpa using this
          rw [← hw2]
          clear hw2 e0 e1
          refine (all_calls (hlk2.ext0 hxb) hsl (by simp; have := hx1.size; omega) (by simp) i (-1 - j)).mono ?_
          rintro e w3 ⟨rfl, hx3, hlk3⟩
          have hx4 : Ext [m] w1 w3 := (hx2.same (hxb.mono (by simp))).same hx3
          cases hd : runC (allC params mk' [dst] i (-1 - j)) with
          | none =>
            have hlk4 := hlk3 hd
            rw [hd] at hr2
            simp only [endC] at hr2 ⊢
            go_wp2
            go_roundg (gk - 1)
            case measure => have := HK2.out; omega
            case rel => exact ⟨j + 1, _, by go_num, by omega, by have := HK2.out; simp only [Hid]; omega, hx4, hlk4, hr2, hmk3⟩
          | some t =>
            rw [hd] at hr2
            simp only [endC] at hr2 ⊢
            go_wp2
            exact ⟨rfl, by rw [hr2.out]; rfl, hx1.same hx4, fun h => by rw [hr2.out] at h; cases h⟩
        · have hje : j = x.phis.length := by omega
          subst hje
          have hde : (phisT i x).drop x.phis.length = [] := drop_map_len _ _
          rw [hde, List.nil_append] at hr2 hmk2
          obtain ⟨R2, hR2⟩ : ∃ R2, R2 = [termT bs.length i x] ++ B.flatten := ⟨_, rfl⟩
          have hbt : R = (inssT i x).drop 0 ++ R2 := by rw [hR2, HR.out]; simp
          rw [hbt] at hr2 hmk2
          have HR2 := Lib.hid hR2
          clear hbt hR2 hde HR hlk1
          have d1 := (hblk.ext hx2 (by simpa using hne)).cell (i := 1) rfl
          obtain ⟨wp, hwp⟩ : ∃ x, x = wr := ⟨_, rfl⟩
          subst hwp
          go_wp2
          go_loopg [45] x.ins.length (fun k vi wr2 => ∃ (j : Nat) (mk' : Mk), vi = .int .i64 (j : Int) ∧ j ≤ x.ins.length ∧ Hid (j + k = x.ins.length) ∧ Ext [m] w1 wr2 ∧ Look wr2 q m params (.slice (some ⟨g, 0, none⟩) bs.length c) mk' ∧
            Hid (runC (shapeC params bs) = runC (thgsC params mk' ((inssT i x).drop j ++ R2))) ∧ Hid (mkAfter [] (blocksT bs).flatten = mkAfter mk' ((inssT i x).drop j ++ R2)))
          case atStart => exact ⟨0, mk', rfl, by omega, by simp [Hid], hx2, hlk2, hr2, hmk2⟩
          case round =>
            obtain ⟨j, mk', rfl, hj, HK2, hx2, hlk2, hr2, hmk2⟩ := hrel
            by_cases hlt2 : j < x.ins.length
            · obtain ⟨gi, Sj, cs, rfl, hgi, hSj, hrep, hcj⟩ := (hbc1.i.ext hx2 (fun k hk h => by simp at h; exact hmS k (by rw [hbc1.s]; simp [hk]) h)).cells j hlt2
              have hin : (inssT i x).drop j = insT i x j :: (inssT i x).drop (j + 1) := by
                rw [inssT, drop_map_range _ _ _ hlt2]
              have hit : insT i x j = ⟨[(decide (1 ≤ x.ins[j].op ∧ x.ins[j].op ≤ 18), (10, i, j)), (decide ((opersF x.ins[j].op).1 ≤ x.ins[j].args.length ∧ x.ins[j].args.length ≤ (opersF x.ins[j].op).2), (10, i, j))], makesF x.ins[j], i, j⟩ := by
                simp [insT, List.getD, hlt2]
              rw [hin, hit] at hr2 hmk2
              clear hin hit
              generalize x.ins[j] = s at *
              obtain ⟨vj, rfl, hvj⟩ := hrep
              obtain ⟨Av, cv, rfl, _⟩ := hvj.shape
              have e0 := hcj 0 _ rfl
              have e1 := hcj 1 _ rfl
              have e2 := hcj 2 _ rfl
              have e3 := hcj 3 _ rfl
              have e4 := hcj 4 _ rfl
              simp only [kIns, Nat.add_zero] at e0 e1 e2 e3 e4
              rw [List.cons_append, thgsC_cons] at hr2
              rw [List.cons_append] at hmk2
              simp only [List.cons_append, List.nil_append] at hr2
              have hmk3 : Hid (mkAfter [] (blocksT bs).flatten = mkAfter (mkAll mk' (makesF s) i j) ((inssT i x).drop (j + 1) ++ R2)) := hmk2
              clear hcj hmk2
              obtain ⟨w2, hw2⟩ : ∃ w2, w2 = wr.alloc (.cells #[.int .i64 s.op, .int .i64 s.dst, .int .i64 s.two, .slice Av s.args.length cv, .int .i32 s.imm] 54) := ⟨_, rfl⟩
              have hxb : Ext [] wr w2 := by rw [hw2]; exact (Ext.refl _ _).alloc _
              have hbi : Blk w2 wr.heap.size 54 #[.int .i64 s.op, .int .i64 s.dst, .int .i64 s.two, .slice Av s.args.length cv, .int .i32 s.imm] := by rw [hw2]; exact Blk.new _ _ _
              have hsz2 := hx2.size
              have hsz1 := hx1.size
              go_wp2_with fail
              rw [← hw2]
              refine (within_calls w2 s.op 1 18).mono ?_
              rintro e w2' ⟨rfl, rfl⟩
              have f0 := hbi.cell (i := 0) rfl
              have f1 := hbi.cell (i := 1) rfl
              have f2 := hbi.cell (i := 2) rfl
              have f3 := hbi.cell (i := 3) rfl
              have f4 := hbi.cell (i := 4) rfl
              clear hw2 e0 e1 e2 e3 e4
              cases hd : decide (1 ≤ s.op ∧ s.op ≤ 18) with
              | false =>
                rw [hd, runC_false] at hr2
                go_wp2_with fail
                refine (must_calls _ false (10, (i : Int), (j : Int))).mono ?_
                rintro e w3 ⟨rfl, rfl⟩
                simp only [runC, endC]
                go_wp2
                exact ⟨rfl, by rw [hr2.out]; rfl, (hx1.same hx2).same (hxb.mono (by simp)), fun h => by rw [hr2.out] at h; cases h⟩
              | true =>
                rw [hd, runC_true] at hr2
                clear hd
                go_wp2_with fail
                refine (must_calls _ true (10, (i : Int), (j : Int))).mono ?_
                rintro e w3 ⟨rfl, rfl⟩
                simp only [runC, endC]
                go_wp2_with fail
                refine (operands_calls _ s.op).mono ?_
                rintro e w3 ⟨rfl, rfl⟩
                generalize opersF s.op = oo at *
                go_wp2_with fail
                refine (within_calls _ (s.args.length : Int) oo.1 oo.2).mono ?_
                rintro e w3 ⟨rfl, rfl⟩
                cases hd : decide (oo.1 ≤ (s.args.length : Int) ∧ (s.args.length : Int) ≤ oo.2) with
                | false =>
                  rw [hd, runC_false] at hr2
                  go_wp2_with fail
                  refine (must_calls _ false (10, (i : Int), (j : Int))).mono ?_
                  rintro e w3 ⟨rfl, rfl⟩
                  simp only [runC, endC]
                  go_wp2
                  exact ⟨rfl, by rw [hr2.out]; rfl, (hx1.same hx2).same (hxb.mono (by simp)), fun h => by rw [hr2.out] at h; cases h⟩
                | true =>
                  rw [hd, runC_true, runC_append] at hr2
                  clear hd
                  go_wp2_with fail
                  refine (must_calls _ true (10, (i : Int), (j : Int))).mono ?_
                  rintro e w3 ⟨rfl, rfl⟩
                  simp only [runC, endC]
                  go_wp2_with fail
                  refine (makes_calls (x := s) (S := Sj) ⟨_, rfl, hvj.ext0 hxb⟩).mono ?_
                  rintro e w4 ⟨v4, S4, rfl, hs4, hnew4⟩
                  obtain ⟨A4, c4, rfl, _⟩ := hs4.shape
                  have hx4 : Ext [] wr w4 := hxb.nil hnew4.ext
                  have hm4 : m ∉ S4 := fun h => by have := hnew4.fresh _ h; have := hxb.size; omega
                  have hml4 : (makesF s).length ≤ 1073741824 := by
                    unfold makesF; split
                    · simp
                    · split <;> simp
                  go_wp2_with fail
                  refine (all_calls (hlk2.ext0 hx4) hs4 hm4 hml4 i j).mono ?_
                  rintro e w5 ⟨rfl, hx5, hlk5⟩
                  have hx6 : Ext [m] w1 w5 := (hx2.same (hx4.mono (by simp))).same hx5
                  cases hd : runC (allC params mk' (makesF s) i j) with
                  | none =>
                    have hlk6 := hlk5 hd
                    rw [hd] at hr2
                    simp only [endC] at hr2 ⊢
                    go_wp2
                    go_roundg (gk - 1)
                    case measure => have := HK2.out; omega
                    case rel => exact ⟨j + 1, _, by go_num, by omega, by have := HK2.out; simp only [Hid]; omega, hx6, hlk6, hr2, hmk3⟩
                  | some t =>
                    rw [hd] at hr2
                    simp only [endC] at hr2 ⊢
                    go_wp2
                    exact ⟨rfl, by rw [hr2.out]; rfl, hx1.same hx6, fun h => by rw [hr2.out] at h; cases h⟩
            · have hje : j = x.ins.length := by omega
              subst hje
              have hde : (inssT i x).drop x.ins.length = [] := drop_map_len _ _
              rw [hde, List.nil_append, HR2.out] at hr2 hmk2
              simp only [List.cons_append, List.nil_append] at hr2 hmk2
              rw [thgsC_cons] at hr2
              have hmk3 : Hid (mkAfter [] (blocksT bs).flatten = mkAfter mk' B.flatten) := by
                rw [Hid, hmk2.out]; simp [mkAfter, termT, mkAll]
              have hr3 : Hid (runC (shapeC params bs) = runC ((termOk x.term, (10, (i : Int), (x.ins.length : Int))) :: (toC bs.length i x x.term.to ++ thgsC params mk' B.flatten))) := by
                rw [Hid, hr2.out]; simp [termT, allC, makeC, onceC, mkAll]
              clear hr2 hmk2 hde HR2
              go_wp2
              have d2 := (hblk.ext hx2 (by simpa using hne)).cell (i := 2) rfl
              have hszw : m < wr.heap.size := by have := hx2.size; have := hxa.size; omega
              have hgw : gb < wr.heap.size := (hblk.ext hx2 (by simpa using hne)).lt
              have hlook : ∀ (W : World) (m2 : Nat), MapR KpI W m2 shapeL → _ := fun W m2 h => shape_look h x.term.kind
              rw [termOk_eq] at hr3
              have hk65 := shp_bound x.term.kind
              generalize hks : shpOf x.term.kind = ks at *
              refine wp_region_rt (fun W => W.cell? ⟨gb, 2, none⟩ = some (.int .i64 x.term.kind)) (.q 1 (.q 2 (.q 3 (.b 0 (.b 4 (.q 5 (.q 6 (.q 7 (.e 8 (.e 9 (.fin 10)))))) 8 (.e 4 (.q 5 (.q 6 (.q 7 (.e 9 (.fin 10))))))) 8 (.e 0 (.e 4 (.q 5 (.q 6 (.q 7 (.e 9 (.fin 10))))))))))) (by kernel_rfl) (by kernel_rfl) d2 ?_
              apply rt_via (F := fun m2 g2 W => Blk W g2 123 #[.int .i64 ks.1.1, .int .i64 ks.1.2.1, .int .i64 ks.1.2.2.1, .int .i64 ks.1.2.2.2] ∧ Ext [] wr W ∧ wr.heap.size ≤ g2)
              case h =>
                refine rt_quiet (.pointer (some ⟨gb, 2, none⟩)) rfl rfl (fun W' hC => by simp [go_sem]) ?_
                simp only [put_lit, put_none, List.set_cons_succ, List.set_cons_zero]
                refine rt_quiet (.pointer (some ⟨gb, 2, none⟩)) rfl rfl (fun W' hC => by simp [go_sem]) ?_
                simp only [put_lit, put_none, List.set_cons_succ, List.set_cons_zero]
                refine rt_quiet (.int .i64 x.term.kind) rfl rfl (fun W' hC => by simp [go_sem, hC]) ?_
                simp only [put_lit, put_none, List.set_cons_succ, List.set_cons_zero]
                refine ⟨?_, ?_⟩
                · refine s_call (w' := wr.drew) rfl rfl (by simp [go_sem]) ((shapes_calls wr.drew).mono ?_)
                  rintro e W1 ⟨rfl, HM, HX⟩
                  have HX1 : Ext [] wr W1 := ((Ext.refl [] wr).drew).nil HX
                  have HC := HX1.cell d2 (by simp)
                  have HL := hlook W1 wr.heap.size HM
                  refine ⟨_, rfl, HC, ?_⟩
                  simp only [put_lit, put_none, List.set_cons_succ, List.set_cons_zero]
                  refine ⟨?_, ?_⟩
                  · refine s_eff (w' := W1) (.tuple #[shpV ks.1, .bool ks.2]) rfl rfl (by simp [go_sem, HL]) ⟨HC, ?_⟩
                    simp only [put_lit, put_none, List.set_cons_succ, List.set_cons_zero]
                    refine rt_quiet ((.tuple #[shpV ks.1, .bool ks.2])) rfl rfl (fun W' hC => by simp [go_sem]) ?_
                    simp only [put_lit, put_none, List.set_cons_succ, List.set_cons_zero]
                    refine rt_quiet (shpV ks.1) rfl rfl (fun W' hC => by simp [go_sem]) ?_
                    simp only [put_lit, put_none, List.set_cons_succ, List.set_cons_zero]
                    refine rt_quiet (.bool ks.2) rfl rfl (fun W' hC => by simp [go_sem]) ?_
                    simp only [put_lit, put_none, List.set_cons_succ, List.set_cons_zero]
                    refine s_eff (w' := W1.alloc (.cells #[.int .i64 0, .int .i64 0, .int .i64 0, .int .i64 0] 123)) (.pointer (some ⟨W1.heap.size, 0, none⟩)) rfl rfl (by simp [go_sem]) ⟨((Ext.refl [] W1).alloc _).cell HC (by simp), ?_⟩
                    simp only [put_lit, put_none, List.set_cons_succ, List.set_cons_zero]
                    refine s_eff0 (w' := W1.alloc (.cells #[.int .i64 ks.1.1, .int .i64 ks.1.2.1, .int .i64 ks.1.2.2.1, .int .i64 ks.1.2.2.2] 123)) rfl rfl (by simp [go_sem, shpV]) ⟨((Ext.refl [] W1).alloc _).cell HC (by simp), ?_⟩
                    simp only [put_lit, put_none, List.set_cons_succ, List.set_cons_zero]
                    refine fin_eff (w' := W1.alloc (.cells #[.int .i64 ks.1.1, .int .i64 ks.1.2.1, .int .i64 ks.1.2.2.1, .int .i64 ks.1.2.2.2] 123)) (.bool ks.2) rfl rfl (by simp [go_sem]) ?_
                    simp only [put_lit, put_none, List.set_cons_succ, List.set_cons_zero]
                    have hBk : Blk (W1.alloc (.cells #[.int .i64 ks.1.1, .int .i64 ks.1.2.1, .int .i64 ks.1.2.2.1, .int .i64 ks.1.2.2.2] 123)) (W1.heap.size) 123 #[.int .i64 ks.1.1, .int .i64 ks.1.2.1, .int .i64 ks.1.2.2.1, .int .i64 ks.1.2.2.2] := Blk.new _ _ _
                    have hEx : Ext [] wr (W1.alloc (.cells #[.int .i64 ks.1.1, .int .i64 ks.1.2.1, .int .i64 ks.1.2.2.1, .int .i64 ks.1.2.2.2] 123)) := HX1.alloc _
                    have hLe : wr.heap.size ≤ W1.heap.size := HX1.size
                    generalize wr.drew.heap.size = m2 at *
                    generalize W1.heap.size = g2 at *
                    exact ⟨by trivial, m2, g2, rfl, hBk, hEx, hLe⟩
                  · refine s_eff (w' := W1.alloc (.cells #[.int .i64 0, .int .i64 0, .int .i64 0, .int .i64 0] 123)) (.pointer (some ⟨W1.heap.size, 0, none⟩)) rfl rfl (by simp [go_sem]) ⟨((Ext.refl [] W1).alloc _).cell HC (by simp), ?_⟩
                    simp only [put_lit, put_none, List.set_cons_succ, List.set_cons_zero]
                    have HL2 := hlook (W1.alloc (.cells #[.int .i64 0, .int .i64 0, .int .i64 0, .int .i64 0] 123)) wr.heap.size (HM.ext ((Ext.refl [] W1).alloc _) (by simp))
                    refine s_eff (w' := W1.alloc (.cells #[.int .i64 0, .int .i64 0, .int .i64 0, .int .i64 0] 123)) (.tuple #[shpV ks.1, .bool ks.2]) rfl rfl (by simp [go_sem, HL2]) ⟨((Ext.refl [] W1).alloc _).cell HC (by simp), ?_⟩
                    simp only [put_lit, put_none, List.set_cons_succ, List.set_cons_zero]
                    refine rt_quiet ((.tuple #[shpV ks.1, .bool ks.2])) rfl rfl (fun W' hC => by simp [go_sem]) ?_
                    simp only [put_lit, put_none, List.set_cons_succ, List.set_cons_zero]
                    refine rt_quiet (shpV ks.1) rfl rfl (fun W' hC => by simp [go_sem]) ?_
                    simp only [put_lit, put_none, List.set_cons_succ, List.set_cons_zero]
                    refine rt_quiet (.bool ks.2) rfl rfl (fun W' hC => by simp [go_sem]) ?_
                    simp only [put_lit, put_none, List.set_cons_succ, List.set_cons_zero]
                    refine s_eff0 (w' := W1.alloc (.cells #[.int .i64 ks.1.1, .int .i64 ks.1.2.1, .int .i64 ks.1.2.2.1, .int .i64 ks.1.2.2.2] 123)) rfl rfl (by simp [go_sem, shpV]) ⟨((Ext.refl [] W1).alloc _).cell HC (by simp), ?_⟩
                    simp only [put_lit, put_none, List.set_cons_succ, List.set_cons_zero]
                    refine fin_eff (w' := W1.alloc (.cells #[.int .i64 ks.1.1, .int .i64 ks.1.2.1, .int .i64 ks.1.2.2.1, .int .i64 ks.1.2.2.2] 123)) (.bool ks.2) rfl rfl (by simp [go_sem]) ?_
                    simp only [put_lit, put_none, List.set_cons_succ, List.set_cons_zero]
                    have hBk : Blk (W1.alloc (.cells #[.int .i64 ks.1.1, .int .i64 ks.1.2.1, .int .i64 ks.1.2.2.1, .int .i64 ks.1.2.2.2] 123)) (W1.heap.size) 123 #[.int .i64 ks.1.1, .int .i64 ks.1.2.1, .int .i64 ks.1.2.2.1, .int .i64 ks.1.2.2.2] := Blk.new _ _ _
                    have hEx : Ext [] wr (W1.alloc (.cells #[.int .i64 ks.1.1, .int .i64 ks.1.2.1, .int .i64 ks.1.2.2.1, .int .i64 ks.1.2.2.2] 123)) := HX1.alloc _
                    have hLe : wr.heap.size ≤ W1.heap.size := HX1.size
                    generalize wr.drew.heap.size = m2 at *
                    generalize W1.heap.size = g2 at *
                    exact ⟨by trivial, m2, g2, rfl, hBk, hEx, hLe⟩
                · refine s_eff (w' := wr.drew.alloc (.cells #[.int .i64 0, .int .i64 0, .int .i64 0, .int .i64 0] 123)) (.pointer (some ⟨wr.drew.heap.size, 0, none⟩)) rfl rfl (by simp [go_sem]) ⟨((Ext.refl [] wr).drew.alloc _).cell d2 (by simp), ?_⟩
                  simp only [put_lit, put_none, List.set_cons_succ, List.set_cons_zero]
                  refine s_call (w' := wr.drew.alloc (.cells #[.int .i64 0, .int .i64 0, .int .i64 0, .int .i64 0] 123)) rfl rfl (by simp [go_sem]) ((shapes_calls _).mono ?_)
                  rintro e W1 ⟨rfl, HM, HX⟩
                  have HX1 : Ext [] wr W1 := ((Ext.refl [] wr).drew.alloc _).nil HX
                  have HC := HX1.cell d2 (by simp)
                  have HL := hlook W1 (wr.heap.size + 1) (by simpa using HM)
                  have HB0 : Blk W1 wr.heap.size 123 #[.int .i64 0, .int .i64 0, .int .i64 0, .int .i64 0] := (Blk.new wr.drew #[.int .i64 0, .int .i64 0, .int .i64 0, .int .i64 0] 123).ext HX (by simp)
                  refine ⟨_, rfl, HC, ?_⟩
                  simp only [put_lit, put_none, List.set_cons_succ, List.set_cons_zero]
                  refine s_eff (w' := W1) (.tuple #[shpV ks.1, .bool ks.2]) rfl rfl (by simp [go_sem, HL]) ⟨HC, ?_⟩
                  simp only [put_lit, put_none, List.set_cons_succ, List.set_cons_zero]
                  refine rt_quiet ((.tuple #[shpV ks.1, .bool ks.2])) rfl rfl (fun W' hC => by simp [go_sem]) ?_
                  simp only [put_lit, put_none, List.set_cons_succ, List.set_cons_zero]
                  refine rt_quiet (shpV ks.1) rfl rfl (fun W' hC => by simp [go_sem]) ?_
                  simp only [put_lit, put_none, List.set_cons_succ, List.set_cons_zero]
                  refine rt_quiet (.bool ks.2) rfl rfl (fun W' hC => by simp [go_sem]) ?_
                  simp only [put_lit, put_none, List.set_cons_succ, List.set_cons_zero]
                  have k0 := HB0.cell (i := 0) rfl
                  have k1 := HB0.cell (i := 1) rfl
                  have k2 := HB0.cell (i := 2) rfl
                  have k3 := HB0.cell (i := 3) rfl
                  have j0 := HB0.frozen 0
                  have j1 := HB0.frozen 1
                  have j2 := HB0.frozen 2
                  have j3 := HB0.frozen 3
                  have HEx4 : Ext [] wr ((((W1.setCell ⟨wr.heap.size, 0, none⟩ (.int .i64 ks.1.1)).setCell ⟨wr.heap.size, 1, none⟩ (.int .i64 ks.1.2.1)).setCell ⟨wr.heap.size, 2, none⟩ (.int .i64 ks.1.2.2.1)).setCell ⟨wr.heap.size, 3, none⟩ (.int .i64 ks.1.2.2.2)) := (((HX1.setCell (.inr (Nat.le_refl _)) _).setCell (.inr (Nat.le_refl _)) _).setCell (.inr (Nat.le_refl _)) _).setCell (.inr (Nat.le_refl _)) _
                  refine s_eff0 (w' := (((W1.setCell ⟨wr.heap.size, 0, none⟩ (.int .i64 ks.1.1)).setCell ⟨wr.heap.size, 1, none⟩ (.int .i64 ks.1.2.1)).setCell ⟨wr.heap.size, 2, none⟩ (.int .i64 ks.1.2.2.1)).setCell ⟨wr.heap.size, 3, none⟩ (.int .i64 ks.1.2.2.2)) rfl rfl (by simp [go_sem, shpV, k0, k1, k2, k3, j0, j1, j2, j3]) ⟨HEx4.cell d2 (by simp), ?_⟩
                  simp only [put_lit, put_none, List.set_cons_succ, List.set_cons_zero]
                  refine fin_eff (w' := (((W1.setCell ⟨wr.heap.size, 0, none⟩ (.int .i64 ks.1.1)).setCell ⟨wr.heap.size, 1, none⟩ (.int .i64 ks.1.2.1)).setCell ⟨wr.heap.size, 2, none⟩ (.int .i64 ks.1.2.2.1)).setCell ⟨wr.heap.size, 3, none⟩ (.int .i64 ks.1.2.2.2)) (.bool ks.2) rfl rfl (by simp [go_sem]) ?_
                  simp only [put_lit, put_none, List.set_cons_succ, List.set_cons_zero]
                  have hBk : Blk ((((W1.setCell ⟨wr.heap.size, 0, none⟩ (.int .i64 ks.1.1)).setCell ⟨wr.heap.size, 1, none⟩ (.int .i64 ks.1.2.1)).setCell ⟨wr.heap.size, 2, none⟩ (.int .i64 ks.1.2.2.1)).setCell ⟨wr.heap.size, 3, none⟩ (.int .i64 ks.1.2.2.2)) (wr.drew.heap.size) 123 #[.int .i64 ks.1.1, .int .i64 ks.1.2.1, .int .i64 ks.1.2.2.1, .int .i64 ks.1.2.2.2] := (((HB0.set 0 _).set 1 _).set 2 _).set 3 _
                  have hEx : Ext [] wr ((((W1.setCell ⟨wr.heap.size, 0, none⟩ (.int .i64 ks.1.1)).setCell ⟨wr.heap.size, 1, none⟩ (.int .i64 ks.1.2.1)).setCell ⟨wr.heap.size, 2, none⟩ (.int .i64 ks.1.2.2.1)).setCell ⟨wr.heap.size, 3, none⟩ (.int .i64 ks.1.2.2.2)) := HEx4
                  have hLe : wr.heap.size ≤ wr.drew.heap.size := Nat.le_refl _
                  generalize (wr.drew.alloc (.cells #[.int .i64 0, .int .i64 0, .int .i64 0, .int .i64 0] 123)).heap.size = m2 at *
                  generalize wr.drew.heap.size = g2 at *
                  exact ⟨by trivial, m2, g2, rfl, hBk, hEx, hLe⟩
              case k =>
                rintro m2 g2 W2 ⟨hBk, hEx, hLe⟩
                have hblk2 := (hblk.ext hx2 (by simpa using hne)).ext hEx (by simp)
                have hlk3 := hlk2.ext0 hEx
                have hx3 := hx2.same (hEx.mono (by simp))
                have hne2 : g2 ≠ m := by omega
                clear d2 hlk2 hlook
                go_wp2
                refine wp_region_rt (fun W => Blk W gb 43 #[.slice Ap x.phis.length cp, .slice Ai x.ins.length ci, .int .i64 x.term.kind, .slice Aa x.term.args.length ca, .slice At x.term.to.length ct, .int .i32 x.term.imm] ∧ Blk W g2 123 #[.int .i64 ks.1.1, .int .i64 ks.1.2.1, .int .i64 ks.1.2.2.1, .int .i64 ks.1.2.2.2]) (.q 0 (.q 1 (.q 2 (.q 3 (.q 4 (.q 5 (.q 6 (.q 7 (.q 8 (.q 9 (.q 23 (.q 24 (.q 25 (.q 26 (.e 10 (.q 11 (.q 12 (.q 13 (.q 14 (.q 15 (.q 16 (.q 17 (.q 18 (.q 19 (.q 20 (.e 21 (.q 22 (.fin 27)))))))))))))))))))))))))))) (by kernel_rfl) (by kernel_rfl) ⟨hblk2, hBk⟩ ?_
                have HC : Blk W2.drew gb 43 _ ∧ Blk W2.drew g2 123 _ := ⟨hblk2, hBk⟩
                cases hk2 : ks.2 with
                | false =>
                  rw [hk2, Bool.false_and] at hr3
                  rw [runC_false] at hr3
                  refine rt_quiet (.bool false) rfl rfl (fun W' hC => by simp [go_sem]) ?_
                  simp only [put_lit, put_none, List.set_cons_succ, List.set_cons_zero]
                  refine rt_quiet (.bool false) rfl rfl (fun W' hC => by simp [go_sem]) ?_
                  simp only [put_lit, put_none, List.set_cons_succ, List.set_cons_zero]
                  refine rt_skip rfl rfl ?_
                  simp only [put_lit, put_none, List.set_cons_succ, List.set_cons_zero]
                  refine rt_skip rfl rfl ?_
                  simp only [put_lit, put_none, List.set_cons_succ, List.set_cons_zero]
                  refine rt_skip rfl rfl ?_
                  simp only [put_lit, put_none, List.set_cons_succ, List.set_cons_zero]
                  refine rt_skip rfl rfl ?_
                  simp only [put_lit, put_none, List.set_cons_succ, List.set_cons_zero]
                  refine rt_skip rfl rfl ?_
                  simp only [put_lit, put_none, List.set_cons_succ, List.set_cons_zero]
                  refine rt_skip rfl rfl ?_
                  simp only [put_lit, put_none, List.set_cons_succ, List.set_cons_zero]
                  refine rt_skip rfl rfl ?_
                  simp only [put_lit, put_none, List.set_cons_succ, List.set_cons_zero]
                  refine rt_skip rfl rfl ?_
                  simp only [put_lit, put_none, List.set_cons_succ, List.set_cons_zero]
                  refine rt_quiet (.int .i64 (i : Int)) rfl rfl (fun W' hC => by simp [go_sem]) ?_
                  simp only [put_lit, put_none, List.set_cons_succ, List.set_cons_zero]
                  refine rt_quiet (.pointer (some ⟨gb, 1, none⟩)) rfl rfl (fun W' hC => by simp [go_sem]) ?_
                  simp only [put_lit, put_none, List.set_cons_succ, List.set_cons_zero]
                  refine rt_quiet (.slice Ai x.ins.length ci) rfl rfl (fun W' hC => by simp [go_sem, hC.1.cell (i := 1) rfl]) ?_
                  simp only [put_lit, put_none, List.set_cons_succ, List.set_cons_zero]
                  refine rt_quiet (.int .i64 (x.ins.length : Int)) rfl rfl (fun W' hC => by simp [go_sem]) ?_
                  simp only [put_lit, put_none, List.set_cons_succ, List.set_cons_zero]
                  refine s_skip rfl rfl ⟨HC, ?_⟩
                  simp only [put_lit, put_none, List.set_cons_succ, List.set_cons_zero]
                  refine rt_quiet (.bool false) rfl rfl (fun W' hC => by simp [go_sem]) ?_
                  simp only [put_lit, put_none, List.set_cons_succ, List.set_cons_zero]
                  refine rt_quiet (.bool false) rfl rfl (fun W' hC => by simp [go_sem]) ?_
                  simp only [put_lit, put_none, List.set_cons_succ, List.set_cons_zero]
                  refine rt_skip rfl rfl ?_
                  simp only [put_lit, put_none, List.set_cons_succ, List.set_cons_zero]
                  refine rt_skip rfl rfl ?_
                  simp only [put_lit, put_none, List.set_cons_succ, List.set_cons_zero]
                  refine rt_skip rfl rfl ?_
                  simp only [put_lit, put_none, List.set_cons_succ, List.set_cons_zero]
                  refine rt_skip rfl rfl ?_
                  simp only [put_lit, put_none, List.set_cons_succ, List.set_cons_zero]
                  refine rt_skip rfl rfl ?_
                  simp only [put_lit, put_none, List.set_cons_succ, List.set_cons_zero]
                  refine rt_skip rfl rfl ?_
                  simp only [put_lit, put_none, List.set_cons_succ, List.set_cons_zero]
                  refine rt_skip rfl rfl ?_
                  simp only [put_lit, put_none, List.set_cons_succ, List.set_cons_zero]
                  refine rt_skip rfl rfl ?_
                  simp only [put_lit, put_none, List.set_cons_succ, List.set_cons_zero]
                  refine s_skip rfl rfl ⟨HC, ?_⟩
                  simp only [put_lit, put_none, List.set_cons_succ, List.set_cons_zero]
                  refine rt_quiet (.bool false) rfl rfl (fun W' hC => by simp [go_sem]) ?_
                  simp only [put_lit, put_none, List.set_cons_succ, List.set_cons_zero]
                  refine fin_call (w' := W2.drew) rfl rfl (by simp [go_sem]) ((must_calls _ false (10, (i : Int), (x.ins.length : Int))).mono ?_)
                  rintro e W3 ⟨rfl, rfl⟩
                  refine .inr ⟨_, rfl, ?_⟩
                  simp only [endC, Exit.then]
                  go_wp2
                  exact ⟨rfl, by rw [hr3.out]; rfl, (hx1.same hx3).drew, fun h => by rw [hr3.out] at h; cases h⟩
                | true =>
                  rw [hk2, Bool.true_and] at hr3
                  refine rt_quiet (.bool true) rfl rfl (fun W' hC => by simp [go_sem]) ?_
                  simp only [put_lit, put_none, List.set_cons_succ, List.set_cons_zero]
                  refine rt_quiet (.bool true) rfl rfl (fun W' hC => by simp [go_sem]) ?_
                  simp only [put_lit, put_none, List.set_cons_succ, List.set_cons_zero]
                  refine rt_quiet (.pointer (some ⟨gb, 2, none⟩)) rfl rfl (fun W' hC => by simp [go_sem]) ?_
                  simp only [put_lit, put_none, List.set_cons_succ, List.set_cons_zero]
                  refine rt_quiet (.pointer (some ⟨gb, 3, none⟩)) rfl rfl (fun W' hC => by simp [go_sem]) ?_
                  simp only [put_lit, put_none, List.set_cons_succ, List.set_cons_zero]
                  refine rt_quiet (.slice Aa x.term.args.length ca) rfl rfl (fun W' hC => by simp [go_sem, hC.1.cell (i := 3) rfl]) ?_
                  simp only [put_lit, put_none, List.set_cons_succ, List.set_cons_zero]
                  refine rt_quiet (.int .i64 (x.term.args.length : Int)) rfl rfl (fun W' hC => by simp [go_sem]) ?_
                  simp only [put_lit, put_none, List.set_cons_succ, List.set_cons_zero]
                  refine rt_quiet (.pointer (some ⟨g2, 0, none⟩)) rfl rfl (fun W' hC => by simp [go_sem]) ?_
                  simp only [put_lit, put_none, List.set_cons_succ, List.set_cons_zero]
                  refine rt_quiet (.int .i64 ks.1.1) rfl rfl (fun W' hC => by simp [go_sem, hC.2.cell (i := 0) rfl]) ?_
                  simp only [put_lit, put_none, List.set_cons_succ, List.set_cons_zero]
                  refine rt_quiet (.pointer (some ⟨g2, 1, none⟩)) rfl rfl (fun W' hC => by simp [go_sem]) ?_
                  simp only [put_lit, put_none, List.set_cons_succ, List.set_cons_zero]
                  refine rt_quiet (.int .i64 ks.1.2.1) rfl rfl (fun W' hC => by simp [go_sem, hC.2.cell (i := 1) rfl]) ?_
                  simp only [put_lit, put_none, List.set_cons_succ, List.set_cons_zero]
                  refine rt_quiet (.int .i64 (i : Int)) rfl rfl (fun W' hC => by simp [go_sem]) ?_
                  simp only [put_lit, put_none, List.set_cons_succ, List.set_cons_zero]
                  refine rt_quiet (.pointer (some ⟨gb, 1, none⟩)) rfl rfl (fun W' hC => by simp [go_sem]) ?_
                  simp only [put_lit, put_none, List.set_cons_succ, List.set_cons_zero]
                  refine rt_quiet (.slice Ai x.ins.length ci) rfl rfl (fun W' hC => by simp [go_sem, hC.1.cell (i := 1) rfl]) ?_
                  simp only [put_lit, put_none, List.set_cons_succ, List.set_cons_zero]
                  refine rt_quiet (.int .i64 (x.ins.length : Int)) rfl rfl (fun W' hC => by simp [go_sem]) ?_
                  simp only [put_lit, put_none, List.set_cons_succ, List.set_cons_zero]
                  refine s_call (w' := W2.drew) rfl rfl (by simp [go_sem]) ((within_calls _ (x.term.args.length : Int) ks.1.1 ks.1.2.1).mono ?_)
                  rintro e W3 ⟨rfl, rfl⟩
                  refine ⟨_, rfl, HC, ?_⟩
                  simp only [put_lit, put_none, List.set_cons_succ, List.set_cons_zero]
                  cases hd1 : decide (ks.1.1 ≤ (x.term.args.length : Int) ∧ (x.term.args.length : Int) ≤ ks.1.2.1) with
                  | false =>
                    rw [hd1, Bool.false_and, runC_false] at hr3
                    refine rt_quiet (.bool false) rfl rfl (fun W' hC => by simp [go_sem]) ?_
                    simp only [put_lit, put_none, List.set_cons_succ, List.set_cons_zero]
                    refine rt_quiet (.bool false) rfl rfl (fun W' hC => by simp [go_sem]) ?_
                    simp only [put_lit, put_none, List.set_cons_succ, List.set_cons_zero]
                    refine rt_skip rfl rfl ?_
                    simp only [put_lit, put_none, List.set_cons_succ, List.set_cons_zero]
                    refine rt_skip rfl rfl ?_
                    simp only [put_lit, put_none, List.set_cons_succ, List.set_cons_zero]
                    refine rt_skip rfl rfl ?_
                    simp only [put_lit, put_none, List.set_cons_succ, List.set_cons_zero]
                    refine rt_skip rfl rfl ?_
                    simp only [put_lit, put_none, List.set_cons_succ, List.set_cons_zero]
                    refine rt_skip rfl rfl ?_
                    simp only [put_lit, put_none, List.set_cons_succ, List.set_cons_zero]
                    refine rt_skip rfl rfl ?_
                    simp only [put_lit, put_none, List.set_cons_succ, List.set_cons_zero]
                    refine rt_skip rfl rfl ?_
                    simp only [put_lit, put_none, List.set_cons_succ, List.set_cons_zero]
                    refine rt_skip rfl rfl ?_
                    simp only [put_lit, put_none, List.set_cons_succ, List.set_cons_zero]
                    refine s_skip rfl rfl ⟨HC, ?_⟩
                    simp only [put_lit, put_none, List.set_cons_succ, List.set_cons_zero]
                    refine rt_quiet (.bool false) rfl rfl (fun W' hC => by simp [go_sem]) ?_
                    simp only [put_lit, put_none, List.set_cons_succ, List.set_cons_zero]
                    refine fin_call (w' := W2.drew) rfl rfl (by simp [go_sem]) ((must_calls _ false (10, (i : Int), (x.ins.length : Int))).mono ?_)
                    rintro e W3 ⟨rfl, rfl⟩
                    refine .inr ⟨_, rfl, ?_⟩
                    simp only [endC, Exit.then]
                    go_wp2
                    exact ⟨rfl, by rw [hr3.out]; rfl, (hx1.same hx3).drew, fun h => by rw [hr3.out] at h; cases h⟩
                  | true =>
                    rw [hd1, Bool.true_and] at hr3
                    refine rt_quiet (.bool true) rfl rfl (fun W' hC => by simp [go_sem]) ?_
                    simp only [put_lit, put_none, List.set_cons_succ, List.set_cons_zero]
                    refine rt_quiet (.bool true) rfl rfl (fun W' hC => by simp [go_sem]) ?_
                    simp only [put_lit, put_none, List.set_cons_succ, List.set_cons_zero]
                    refine rt_quiet (.pointer (some ⟨gb, 2, none⟩)) rfl rfl (fun W' hC => by simp [go_sem]) ?_
                    simp only [put_lit, put_none, List.set_cons_succ, List.set_cons_zero]
                    refine rt_quiet (.pointer (some ⟨gb, 4, none⟩)) rfl rfl (fun W' hC => by simp [go_sem]) ?_
                    simp only [put_lit, put_none, List.set_cons_succ, List.set_cons_zero]
                    refine rt_quiet (.slice At x.term.to.length ct) rfl rfl (fun W' hC => by simp [go_sem, hC.1.cell (i := 4) rfl]) ?_
                    simp only [put_lit, put_none, List.set_cons_succ, List.set_cons_zero]
                    refine rt_quiet (.int .i64 (x.term.to.length : Int)) rfl rfl (fun W' hC => by simp [go_sem]) ?_
                    simp only [put_lit, put_none, List.set_cons_succ, List.set_cons_zero]
                    refine rt_quiet (.pointer (some ⟨g2, 2, none⟩)) rfl rfl (fun W' hC => by simp [go_sem]) ?_
                    simp only [put_lit, put_none, List.set_cons_succ, List.set_cons_zero]
                    refine rt_quiet (.int .i64 ks.1.2.2.1) rfl rfl (fun W' hC => by simp [go_sem, hC.2.cell (i := 2) rfl]) ?_
                    simp only [put_lit, put_none, List.set_cons_succ, List.set_cons_zero]
                    refine rt_quiet (.pointer (some ⟨g2, 3, none⟩)) rfl rfl (fun W' hC => by simp [go_sem]) ?_
                    simp only [put_lit, put_none, List.set_cons_succ, List.set_cons_zero]
                    refine rt_quiet (.int .i64 ks.1.2.2.2) rfl rfl (fun W' hC => by simp [go_sem, hC.2.cell (i := 3) rfl]) ?_
                    simp only [put_lit, put_none, List.set_cons_succ, List.set_cons_zero]
                    refine s_call (w' := W2.drew) rfl rfl (by simp [go_sem]) ((within_calls _ (x.term.to.length : Int) ks.1.2.2.1 ks.1.2.2.2).mono ?_)
                    rintro e W3 ⟨rfl, rfl⟩
                    refine ⟨_, rfl, HC, ?_⟩
                    simp only [put_lit, put_none, List.set_cons_succ, List.set_cons_zero]
                    cases hd2 : decide (ks.1.2.2.1 ≤ (x.term.to.length : Int) ∧ (x.term.to.length : Int) ≤ ks.1.2.2.2) with
                    | false =>
                      rw [hd2, runC_false] at hr3
                      refine rt_quiet (.bool false) rfl rfl (fun W' hC => by simp [go_sem]) ?_
                      simp only [put_lit, put_none, List.set_cons_succ, List.set_cons_zero]
                      refine fin_call (w' := W2.drew) rfl rfl (by simp [go_sem]) ((must_calls _ false (10, (i : Int), (x.ins.length : Int))).mono ?_)
                      rintro e W3 ⟨rfl, rfl⟩
                      refine .inr ⟨_, rfl, ?_⟩
                      simp only [endC, Exit.then]
                      go_wp2
                      exact ⟨rfl, by rw [hr3.out]; rfl, (hx1.same hx3).drew, fun h => by rw [hr3.out] at h; cases h⟩
                    | true =>
                      rw [hd2, runC_true] at hr3
                      refine rt_quiet (.bool true) rfl rfl (fun W' hC => by simp [go_sem]) ?_
                      simp only [put_lit, put_none, List.set_cons_succ, List.set_cons_zero]
                      refine fin_call (w' := W2.drew) rfl rfl (by simp [go_sem]) ((must_calls _ true (10, (i : Int), (x.ins.length : Int))).mono ?_)
                      rintro e W3 ⟨rfl, rfl⟩
                      refine .inl ⟨_, rfl, ?_⟩
                      simp only [put_lit, put_none, List.set_cons_succ, List.set_cons_zero]
                      have hto : x.term.to.length ≤ 65 := by have := of_decide_eq_true hd2; omega
                      have hlk4 : Look W2.drew q m params (.slice (some ⟨g, 0, none⟩) bs.length c) mk' := hlk3.ext0 ((Ext.refl _ _).drew)
                      have hx4 : Ext [m] w1 W2.drew := hx3.drew
                      have hblk4 : Blk W2.drew gb 43 _ := hblk2
                      generalize W2.drew = W4 at *
                      have e4 := hblk4.cell (i := 4) rfl
                      go_wp2
                      go_loopg [118] x.term.to.length (fun k vi wr2 => ∃ (j : Nat), vi = .int .i64 (j : Int) ∧ j ≤ x.term.to.length ∧ Hid (j + k = x.term.to.length) ∧ Ext [] W4 wr2 ∧
                        Hid (runC (shapeC params bs) = runC (toC bs.length i x (x.term.to.drop j) ++ thgsC params mk' B.flatten)))
                      case atStart => exact ⟨0, rfl, by omega, by simp [Hid], Ext.refl _ _, by rw [List.drop_zero]; exact hr3⟩
                      case round =>
                        obtain ⟨j, rfl, hj, HK4, hx5, hr4⟩ := hrel
                        have hlk5 := hlk4.ext0 hx5
                        have hblk5 := hblk4.ext hx5 (by simp)
                        have hx6 := hx4.same (hx5.mono (by simp))
                        by_cases hlt4 : j < x.term.to.length
                        · obtain ⟨gt, _, hv, _, et, _⟩ := (hbc1.t.ext hx6 (fun k hk h => by simp at h; exact hmS k (by rw [hbc1.s]; simp [hk]) h)).cell j hlt4
                          cases hv
                          rw [List.drop_eq_getElem_cons hlt4] at hr4
                          have hr5 : Hid (runC (shapeC params bs) = runC ((decide (1 ≤ x.term.to[j] ∧ x.term.to[j] ≤ (bs.length : Int) - 1), (14, (i : Int), (x.ins.length : Int))) :: (toC bs.length i x (x.term.to.drop (j + 1)) ++ thgsC params mk' B.flatten))) := hr4
                          clear hr4
                          generalize x.term.to[j] = t at *
                          go_wp2
                          refine wp_region_rt (fun W => Blk W gb 43 #[.slice Ap x.phis.length cp, .slice Ai x.ins.length ci, .int .i64 x.term.kind, .slice Aa x.term.args.length ca, .slice (some ⟨gt, 0, none⟩) x.term.to.length ct, .int .i32 x.term.imm] ∧ Blk W q 102 #[.int .i64 params, .slice (some ⟨g, 0, none⟩) bs.length c, .map (some m)])
                            (.q 0 (.q 1 (.q 2 (.q 3 (.q 4 (.q 5 (.q 6 (.q 7 (.q 9 (.q 10 (.q 11 (.q 12 (.e 8 (.fin 13)))))))))))))) (by kernel_rfl) (by kernel_rfl) ⟨hblk5, hlk5.cl⟩ ?_
                          refine rt_quiet (.int .i64 t) rfl rfl (fun W' hC => by simp [go_sem]) ?_
                          simp only [put_lit, put_none, List.set_cons_succ, List.set_cons_zero]
                          refine rt_quiet (.pointer (some ⟨q, 0, none⟩)) rfl rfl (fun W' hC => by simp [go_sem]) ?_
                          simp only [put_lit, put_none, List.set_cons_succ, List.set_cons_zero]
                          refine rt_quiet (.pointer (some ⟨q, 0, none⟩)) rfl rfl (fun W' hC => by simp [go_sem]) ?_
                          simp only [put_lit, put_none, List.set_cons_succ, List.set_cons_zero]
                          refine rt_quiet (.pointer (some ⟨q, 0, none⟩)) rfl rfl (fun W' hC => by simp [go_sem]) ?_
                          simp only [put_lit, put_none, List.set_cons_succ, List.set_cons_zero]
                          refine rt_quiet (.pointer (some ⟨q, 1, none⟩)) rfl rfl (fun W' hC => by simp [go_sem]) ?_
                          simp only [put_lit, put_none, List.set_cons_succ, List.set_cons_zero]
                          refine rt_quiet (.slice (some ⟨g, 0, none⟩) bs.length c) rfl rfl (fun W' hC => by simp [go_sem, hC.2.cell (i := 1) rfl]) ?_
                          simp only [put_lit, put_none, List.set_cons_succ, List.set_cons_zero]
                          refine rt_quiet (.int .i64 (bs.length : Int)) rfl rfl (fun W' hC => by simp [go_sem]) ?_
                          simp only [put_lit, put_none, List.set_cons_succ, List.set_cons_zero]
                          refine rt_quiet (.int .i64 ((bs.length : Int) - 1)) rfl rfl (fun W' hC => by simp [go_sem]; rw [IntKind.wrap_i64]; omega) ?_
                          simp only [put_lit, put_none, List.set_cons_succ, List.set_cons_zero]
                          refine rt_quiet (.int .i64 (i : Int)) rfl rfl (fun W' hC => by simp [go_sem]) ?_
                          simp only [put_lit, put_none, List.set_cons_succ, List.set_cons_zero]
                          refine rt_quiet (.pointer (some ⟨gb, 1, none⟩)) rfl rfl (fun W' hC => by simp [go_sem]) ?_
                          simp only [put_lit, put_none, List.set_cons_succ, List.set_cons_zero]
                          refine rt_quiet (.slice Ai x.ins.length ci) rfl rfl (fun W' hC => by simp [go_sem, hC.1.cell (i := 1) rfl]) ?_
                          simp only [put_lit, put_none, List.set_cons_succ, List.set_cons_zero]
                          refine rt_quiet (.int .i64 (x.ins.length : Int)) rfl rfl (fun W' hC => by simp [go_sem]) ?_
                          simp only [put_lit, put_none, List.set_cons_succ, List.set_cons_zero]
                          refine s_call (w' := wr.drew) rfl rfl (by simp [go_sem]) ((within_calls _ t 1 ((bs.length : Int) - 1)).mono ?_)
                          rintro e W5 ⟨rfl, rfl⟩
                          refine ⟨_, rfl, ⟨hblk5, hlk5.cl⟩, ?_⟩
                          simp only [put_lit, put_none, List.set_cons_succ, List.set_cons_zero]
                          cases hd5 : decide (1 ≤ t ∧ t ≤ (bs.length : Int) - 1) with
                          | false =>
                            rw [hd5, runC_false] at hr5
                            refine fin_call (w' := wr.drew) rfl rfl (by simp [go_sem]) ((must_calls _ false (14, (i : Int), (x.ins.length : Int))).mono ?_)
                            rintro e W5 ⟨rfl, rfl⟩
                            refine .inr ⟨_, rfl, ?_⟩
                            simp only [endC, Exit.then]
                            go_wp2
                            exact ⟨rfl, by rw [hr5.out]; rfl, (hx1.same hx6).drew, fun h => by rw [hr5.out] at h; cases h⟩
                          | true =>
                            rw [hd5, runC_true] at hr5
                            refine fin_call (w' := wr.drew) rfl rfl (by simp [go_sem]) ((must_calls _ true (14, (i : Int), (x.ins.length : Int))).mono ?_)
                            rintro e W5 ⟨rfl, rfl⟩
                            refine .inl ⟨_, rfl, ?_⟩
                            simp only [put_lit, put_none, List.set_cons_succ, List.set_cons_zero]
                            go_wp2
                            go_roundg (gk - 1)
                            case measure => have := HK4.out; omega
                            case rel => exact ⟨j + 1, by go_num, by omega, by have := HK4.out; simp only [Hid]; omega, hx5.drew, hr5⟩
                        · have hje : j = x.term.to.length := by omega
                          subst hje
                          rw [List.drop_length] at hr4
                          have hr5 : Hid (runC (shapeC params bs) = runC (thgsC params mk' B.flatten)) := hr4
                          go_wp2
                          rw [← HB.out] at hr5 hmk3
                          go_roundg (q0 - 1)
                          case measure => have := HK.out; omega
                          case rel => exact ⟨i + 1, mk', by go_num, by omega, by have := HK.out; simp only [Hid]; omega, hx1.same hx6, hlk5, hr5, hmk3⟩
    · have hie : i = bs.length := by omega
      subst hie
      have hde : (blocksT bs).drop bs.length = [] := drop_map_len _ _
      rw [hde] at hr hmk
      have hre : Hid (runC (shapeC params bs) = none) := by rw [Hid, hr.out]; rfl
      have hme : Hid (mkAfter [] (blocksT bs).flatten = mk) := hmk.out
      clear hr hmk
      go_wp2
      go_end0
      exact ⟨by rw [hre.out]; rfl, hx, fun _ => by rw [hme.out]; exact hlk⟩
end Go.Proofs.Ytkmgbejhbkbaoaa
