/-
  Models of functions of the program, and that the functions compute them.
  Conditions: none.
-/
import Derived.Test.YtfddmgagikeieaaDoorGen1
namespace Go.Proofs.YtfddmgagikeieaaDoor
open Go
set_option linter.unusedVariables false
set_option maxRecDepth 4000

set_option maxHeartbeats 4000000 in
theorem c_ref02_data {f_p0 : T_Field} {r : (List Int)} (h : m_ref02_data f_p0 = some r) :
    Fun Tryd.prog 38 [.agg #[.int .i64 f_p0.Kind, .string f_p0.Value]] [] (fun v_ F_ => ∃ (A1 : Option Addr) (c1 : Nat), v_ = .slice A1 r.length c1 ∧ F_ = [.res (OwnL eu8 5 A1 c1 r)]) := by
  unfold m_ref02_data at h
  refine Fun.intro Tryd.func38 rfl rfl rfl fun w R => ?_
  refine St.seq ?_
  refine St.region ?_
  refine St.box rfl rfl fun g1 => ?_
  refine St.p rfl rfl ?_
  refine St.done ?_
  refine St.thenN ?_
  refine St.prune (Γ' := [(1, _)]) ⟨rfl, trivial⟩ (.k .z) ?_
  refine St.seq ?_
  refine St.region ?_
  refine St.p rfl rfl ?_
  refine St.loadB 1 rfl rfl (.head _) rfl rfl ?_
  refine St.p rfl rfl ?_
  refine St.p rfl rfl ?_
  refine St.done ?_
  refine St.thenN ?_
  refine St.prune (Γ' := [(1, _), (3, _)]) ⟨rfl, rfl, trivial⟩ (.k .z) ?_
  refine St.seq ?_
  refine St.region ?_
  refine St.p rfl rfl ?_
  refine St.done ?_
  refine St.thenN ?_
  refine St.seq ?_
  refine St.seq ?_
  refine St.region ?_
  refine St.p rfl rfl ?_
  refine St.loadB 0 rfl rfl (.head _) rfl rfl ?_
  refine St.done ?_
  refine St.thenN ?_
  refine St.prune (Γ' := [(1, _), (3, _), (4, _), (15, _)]) ⟨rfl, rfl, rfl, rfl, trivial⟩ (.k .z) ?_
  refine St.block ?_
  refine St.seq ?_
  refine St.region ?_
  refine St.p rfl rfl ?_
  refine St.p rfl rfl ?_
  refine St.done ?_
  refine St.thenN ?_
  refine St.prune (Γ' := [(1, _), (3, _), (4, _), (15, _), (28, _)]) ⟨rfl, rfl, rfl, rfl, rfl, trivial⟩ (.k .z) ?_
  refine St.cond _ rfl (fun hb1 => ?_) (fun hb1 => ?_)
  · replace h := bif_t hb1 h
    refine St.seq ?_
    refine St.region ?_
    refine St.p rfl rfl ?_
    refine St.done ?_
    refine St.thenN ?_
    refine St.prune (Γ' := [(1, _), (3, _), (4, _), (5, _)]) ⟨rfl, rfl, rfl, rfl, trivial⟩ (.k .z) ?_
    refine St.asrt (fun _ w => w.nilL eu8 5) ?_
    obtain ⟨o1, hl1, h⟩ := bnd_e h
    refine St.selfThen ?_
    refine St.cutE (fun (e2 : Option Addr × Nat) => [(4, .slice e2.1 o1.length e2.2)]) (fun e2 => .res (OwnL eu8 5 e2.1 e2.2 o1) :: R) ?_ ?_
    · refine St.block ?_
      refine St.loop hl1 (fun (s1 : List Int × Int) (e1 : Option Addr × Nat) => [(1, .pointer (some ⟨g1, 0, none⟩)), (3, .int .i64 (f_p0.Value.size : Int)), (4, .slice e1.1 s1.1.length e1.2), (5, .int .i64 s1.2)]) (fun s1 e1 => .res (OwnL eu8 5 e1.1 e1.2 s1.1) :: .res (Box g1 23 [.int .i64 f_p0.Kind, .string f_p0.Value]) :: R) (fun _ _ => True) (none, 0) trivial ⟨rfl, rfl, rfl, rfl, trivial⟩ (fun _ w => ((.k (.k .z)) : Keep _ _).sat w) ?_
      rintro s1 ⟨A1, c1⟩ - hit1
      obtain ⟨st1, hm1, hd1⟩ := iter_e hit1
      have h1 := hm1
      refine St.seq ?_
      refine St.seq ?_
      refine St.region ?_
      iterate 4 refine St.p rfl rfl ?_
      refine St.done ?_
      refine St.thenN ?_
      refine St.prune (Γ' := [(1, _), (3, _), (4, _), (5, _), (33, _)]) ⟨rfl, rfl, rfl, rfl, rfl, trivial⟩ (.k (.k .z)) ?_
      refine St.cond _ rfl (fun hb2 => ?_) (fun hb2 => ?_)
      · replace h1 := bif_t hb2 h1
        refine St.skip ?_
        refine St.thenN ?_
        refine St.prune (Γ' := [(1, _), (3, _), (4, _), (5, _)]) ⟨rfl, rfl, rfl, rfl, trivial⟩ (.k (.k .z)) ?_
        refine St.seq ?_
        refine St.block ?_
        refine St.regionX (iL [(.fl, 0), (.fl, 1), (.fx, 2), (.fl, 3), (.fx, 4), (.qc, 5), (.fl, 6), (.fl, 7), (.fx, 8), (.fl, 9), (.fl, 10), (.fx, 11), (.qc, 12), (.fl, 13), (.fl, 14), (.ef, 15), (.ef, 16), (.fl, 17)] .nil) (.res (Box g1 23 [.int .i64 f_p0.Kind, .string f_p0.Value]) :: R) mixed (by kernel_rfl) (fun _ w => ((.d (.k .z)) : Keep _ _).sat w) ?_
        refine St.xfl (fun _ h => h) (Rd.p rfl) rfl ?_
        refine St.xfl (fun _ h => h) (Rd.p rfl) rfl ?_
        refine St.xfx (Rd.loadB 1 rfl (.tail _ (.head _)) rfl rfl) rfl ?_
        refine St.xfl (fun _ h => h) (Rd.p rfl) rfl ?_
        obtain ⟨y1, hy1, h1⟩ := bnd_e h1
        refine St.xfx (Rd.eltS hy1 rfl rfl rfl rfl) rfl ?_
        obtain ⟨r1, hr1, h1⟩ := bnd_e h1
        refine St.xqc (fun _ h => h) (c_ref02_digit hr1) ent42 rfl rfl rfl rfl trivial ?_
        refine St.xfl (fun _ h => h) (Rd.p rfl) rfl ?_
        refine St.xfl (fun _ h => h) (Rd.p rfl) rfl ?_
        refine St.xfx (Rd.loadB 1 rfl (.tail _ (.head _)) rfl rfl) rfl ?_
        refine St.xfl (fun _ h => h) (Rd.p rfl) rfl ?_
        refine St.xfl (fun _ h => h) (Rd.p rfl) rfl ?_
        obtain ⟨y2, hy2, h1⟩ := bnd_e h1
        refine St.xfx (Rd.eltS hy2 rfl rfl rfl rfl) rfl ?_
        obtain ⟨r2, hr2, h1⟩ := bnd_e h1
        refine St.xqc (fun _ h => h) (c_ref02_digit hr2) ent42 rfl rfl rfl rfl trivial ?_
        refine St.xfl (fun _ h => h) (Rd.p rfl) rfl ?_
        refine St.xfl (fun _ h => h) (Rd.p rfl) rfl ?_
        refine St.xef ?_
        refine St.buildSlice rfl rfl rfl rfl rfl rfl rfl rfl fun g2 => ?_
        refine St.xk (fun _ w => ((.d (.d (.k .z))) : Keep _ _).sat w) ?_
        refine St.xef ?_
        obtain ⟨l1, hl1, h1⟩ := bnd_e h1
        refine St.app (E := eu8) hl1 rfl rfl rfl (.s .z) rfl rfl rfl rfl rfl rfl rfl rfl (srcB (.head _) rfl rfl) rfl rfl fun A3 c3 => ?_
        refine St.xk (fun _ w => ((.d (.d (.k .z))) : Keep _ _).sat w) ?_
        refine St.xfl (fun _ h => h) (Rd.p rfl) rfl ?_
        refine St.xdone ?_
        refine St.blkN ?_
        refine St.thenN ?_
        refine St.prune (Γ' := [(1, _), (3, _), (4, _), (5, _)]) ⟨rfl, rfl, rfl, rfl, trivial⟩ (.k (.d (.k .z))) ?_
        refine St.region ?_
        iterate 3 refine St.p rfl rfl ?_
        refine St.done ?_
        injection h1 with h1
        subst h1
        refine St.thenN ?_
        exact St.again _ (A3, c3) hm1 trivial ⟨rfl, rfl, rfl, rfl, trivial⟩ (fun _ w => ((.k (.k .z)) : Keep _ _).sat w)
      · replace h1 := bif_f hb2 h1
        refine St.exit ?_
        repeat (first | refine St.thenX ?_ | refine St.blkMiss rfl ?_)
        refine St.blkHit ?_
        injection h1 with h1
        subst h1
        have ho := hd1 _ rfl
        subst ho
        refine St.thenN ?_
        exact St.hereE (A1, c1) ⟨rfl, trivial⟩ (fun _ w => ((.k (.d .z)) : Keep _ _).sat w)
    · rintro ⟨A2, c2⟩
      refine St.blkN ?_
      refine St.thenN ?_
      refine St.seq ?_
      refine St.region ?_
      refine St.p rfl rfl ?_
      refine St.p rfl rfl ?_
      refine St.done ?_
      refine St.thenN ?_
      refine St.prune (Γ' := [(2, _)]) ⟨rfl, trivial⟩ (.k .z) ?_
      refine St.ret ?_
      repeat (first | refine St.thenR ?_ | refine St.blkR ?_)
      injection h with h
      subst h
      exact St.finR Tryd.results38 (.tmp rfl .nil) rfl [.res (OwnL eu8 5 A2 c2 o1)] ⟨A2, c2, rfl, rfl⟩ (fun _ w => ((.k .z) : Keep _ _).sat w)
  · replace h := bif_f hb1 h
    refine St.seq ?_
    refine St.region ?_
    refine St.p rfl rfl ?_
    refine St.p rfl rfl ?_
    refine St.done ?_
    refine St.thenN ?_
    refine St.prune (Γ' := [(1, _), (3, _), (4, _), (53, _)]) ⟨rfl, rfl, rfl, rfl, trivial⟩ (.k .z) ?_
    refine St.cond _ rfl (fun hb3 => ?_) (fun hb3 => ?_)
    · replace h := bif_t hb3 h
      refine St.seq ?_
      refine St.region ?_
      refine St.p rfl rfl ?_
      obtain ⟨r3, hr3, h⟩ := bnd_e h
      refine St.callV (c_ref02_sixBytes hr3) ent43 rfl rfl rfl rfl trivial ?_
      obtain ⟨l2, hl2, h⟩ := bnd_e h
      refine St.mkL (E := eu8) 0 hl2 rfl rfl rfl rfl rfl rfl rfl rfl rfl rfl fun g3 => ?_
      refine St.p rfl rfl ?_
      refine St.done ?_
      refine St.thenN ?_
      refine St.prune (Γ' := [(1, _), (3, _), (4, _)]) ⟨rfl, rfl, rfl, trivial⟩ (.k (.k .z)) ?_
      refine St.seq ?_
      refine St.region ?_
      refine St.p rfl rfl ?_
      refine St.done ?_
      refine St.thenN ?_
      obtain ⟨o2, hl2, h⟩ := bnd_e h
      refine St.selfThen ?_
      refine St.cutE (fun (e4 : Option Addr × Nat) => [(4, .slice e4.1 o2.length e4.2)]) (fun e4 => .res (OwnL eu8 5 e4.1 e4.2 o2) :: R) ?_ ?_
      · refine St.block ?_
        refine St.loop hl2 (fun (s2 : Int × List Int) (e3 : Option Addr × Nat) => [(1, .pointer (some ⟨g1, 0, none⟩)), (3, .int .i64 (f_p0.Value.size : Int)), (4, .slice e3.1 s2.2.length e3.2), (6, .int .i64 s2.1)]) (fun s2 e3 => .res (OwnL eu8 5 e3.1 e3.2 s2.2) :: .res (Box g1 23 [.int .i64 f_p0.Kind, .string f_p0.Value]) :: R) (fun _ _ => True) ((some ⟨g3, 0, none⟩), (Int.toNat r3)) trivial ⟨rfl, rfl, rfl, rfl, trivial⟩ (fun _ w => ((.k (.k .z)) : Keep _ _).sat w) ?_
        rintro s2 ⟨A4, c4⟩ - hit2
        obtain ⟨st2, hm2, hd2⟩ := iter_e hit2
        have h2 := hm2
        refine St.seq ?_
        refine St.seq ?_
        refine St.region ?_
        iterate 3 refine St.p rfl rfl ?_
        refine St.done ?_
        refine St.thenN ?_
        refine St.prune (Γ' := [(1, _), (3, _), (4, _), (6, _), (60, _)]) ⟨rfl, rfl, rfl, rfl, rfl, trivial⟩ (.k (.k .z)) ?_
        refine St.cond _ rfl (fun hb4 => ?_) (fun hb4 => ?_)
        · replace h2 := bif_t hb4 h2
          refine St.skip ?_
          refine St.thenN ?_
          refine St.prune (Γ' := [(1, _), (3, _), (4, _), (6, _)]) ⟨rfl, rfl, rfl, rfl, trivial⟩ (.k (.k .z)) ?_
          refine St.seq ?_
          refine St.block ?_
          refine St.seq ?_
          refine St.region ?_
          refine St.p rfl rfl ?_
          refine St.loadB 1 rfl rfl (.tail _ (.head _)) rfl rfl ?_
          refine St.p rfl rfl ?_
          obtain ⟨y3, hy3, h2⟩ := bnd_e h2
          refine St.eltS rfl rfl rfl rfl rfl hy3 ?_
          iterate 3 refine St.p rfl rfl ?_
          refine St.done ?_
          refine St.thenN ?_
          refine St.prune (Γ' := [(1, _), (3, _), (4, _), (6, _), (7, _)]) ⟨rfl, rfl, rfl, rfl, rfl, trivial⟩ (.k (.k .z)) ?_
          refine St.seq ?_
          refine St.region ?_
          refine St.p rfl rfl ?_
          refine St.done ?_
          refine St.thenN ?_
          obtain ⟨o3, hl3, h2⟩ := bnd_e h2
          refine St.selfThen ?_
          refine St.cutE (fun (e6 : Option Addr × Nat) => [(1, .pointer (some ⟨g1, 0, none⟩)), (3, .int .i64 (f_p0.Value.size : Int)), (4, .slice e6.1 o3.length e6.2), (6, .int .i64 s2.1)]) (fun e6 => .res (OwnL eu8 5 e6.1 e6.2 o3) :: .res (Box g1 23 [.int .i64 f_p0.Kind, .string f_p0.Value]) :: R) ?_ ?_
          · refine St.block ?_
            refine St.loop hl3 (fun (s3 : Int × Int × List Int) (e5 : Option Addr × Nat) => [(1, .pointer (some ⟨g1, 0, none⟩)), (3, .int .i64 (f_p0.Value.size : Int)), (4, .slice e5.1 s3.2.2.length e5.2), (6, .int .i64 s2.1), (7, .int .i64 s3.1), (8, .int .i64 s3.2.1)]) (fun s3 e5 => .res (OwnL eu8 5 e5.1 e5.2 s3.2.2) :: .res (Box g1 23 [.int .i64 f_p0.Kind, .string f_p0.Value]) :: R) (fun _ _ => True) (A4, c4) trivial ⟨rfl, rfl, rfl, rfl, rfl, rfl, trivial⟩ (fun _ w => ((.k (.k .z)) : Keep _ _).sat w) ?_
            rintro s3 ⟨A6, c6⟩ - hit3
            obtain ⟨st3, hm3, hd3⟩ := iter_e hit3
            have h3 := hm3
            refine St.seq ?_
            refine St.seq ?_
            refine St.region ?_
            refine St.p rfl rfl ?_
            refine St.p rfl rfl ?_
            refine St.done ?_
            refine St.thenN ?_
            refine St.prune (Γ' := [(1, _), (3, _), (4, _), (6, _), (7, _), (8, _), (70, _)]) ⟨rfl, rfl, rfl, rfl, rfl, rfl, rfl, trivial⟩ (.k (.k .z)) ?_
            refine St.cond _ rfl (fun hb5 => ?_) (fun hb5 => ?_)
            · replace h3 := bif_t hb5 h3
              refine St.skip ?_
              refine St.thenN ?_
              refine St.prune (Γ' := [(1, _), (3, _), (4, _), (6, _), (7, _), (8, _)]) ⟨rfl, rfl, rfl, rfl, rfl, rfl, trivial⟩ (.k (.k .z)) ?_
              refine St.seq ?_
              refine St.block ?_
              refine St.seq ?_
              refine St.seq ?_
              refine St.region ?_
              iterate 3 refine St.p rfl rfl ?_
              refine St.done ?_
              refine St.thenN ?_
              refine St.prune (Γ' := [(1, _), (3, _), (4, _), (6, _), (7, _), (8, _), (75, _)]) ⟨rfl, rfl, rfl, rfl, rfl, rfl, rfl, trivial⟩ (.k (.k .z)) ?_
              refine St.cond _ rfl (fun hb6 => ?_) (fun hb6 => ?_)
              · replace h3 := bif_t hb6 h3
                refine St.seq ?_
                refine St.region ?_
                iterate 5 refine St.p rfl rfl ?_
                refine St.done ?_
                refine St.thenN ?_
                refine St.prune (Γ' := [(1, _), (3, _), (4, _), (6, _), (7, _), (8, _), (9, _)]) ⟨rfl, rfl, rfl, rfl, rfl, rfl, rfl, trivial⟩ (.k (.k .z)) ?_
                refine St.region ?_
                iterate 3 refine St.p rfl rfl ?_
                obtain ⟨x1, hx1, h3⟩ := bnd_e h3
                refine St.ixO hx1 rfl rfl rfl (.head _) rfl rfl rfl rfl rfl fun g4 hA => ?_
                subst hA
                refine St.ldO 0 hx1 rfl rfl (.head _) rfl rfl ?_
                iterate 3 refine St.p rfl rfl ?_
                obtain ⟨q1, hq1, h3⟩ := bnd_e h3
                refine St.shl rfl rfl rfl hq1 ?_
                refine St.p rfl rfl ?_
                refine St.ixO hx1 rfl rfl rfl (.head _) rfl rfl rfl rfl rfl fun g5 hA => ?_
                cases hA
                obtain ⟨l3, hl3, h3⟩ := bnd_e h3
                refine St.stO 0 hx1 hl3 rfl rfl .z rfl rfl rfl rfl rfl ?_
                refine St.slots (Γ' := [(1, _), (3, _), (4, .slice (some ⟨g4, 0, none⟩) l3.length c6), (6, _), (7, _), (8, _), (9, _), (80, .slice (some ⟨g4, 0, none⟩) l3.length c6), (81, _), (82, _), (83, _), (84, _), (85, _), (86, _), (87, _), (88, _), (89, _), (90, _)]) ⟨rfl, rfl, sl_len hl3, rfl, rfl, rfl, rfl, sl_len hl3, rfl, rfl, rfl, rfl, rfl, rfl, rfl, rfl, rfl, rfl, trivial⟩ ?_
                refine St.done ?_
                refine St.thenN ?_
                refine St.prune (Γ' := [(1, _), (3, _), (4, _), (6, _), (7, _), (8, _)]) ⟨rfl, rfl, rfl, rfl, rfl, rfl, trivial⟩ (.k (.k .z)) ?_
                refine St.region ?_
                iterate 3 refine St.p rfl rfl ?_
                refine St.done ?_
                refine St.blkN ?_
                refine St.thenN ?_
                refine St.prune (Γ' := [(1, _), (3, _), (4, _), (6, _), (7, _), (8, _)]) ⟨rfl, rfl, rfl, rfl, rfl, rfl, trivial⟩ (.k (.k .z)) ?_
                refine St.region ?_
                iterate 3 refine St.p rfl rfl ?_
                refine St.done ?_
                injection h3 with h3
                subst h3
                refine St.thenN ?_
                exact St.again _ ((some ⟨g4, 0, none⟩), c6) hm3 trivial ⟨rfl, rfl, rfl, rfl, rfl, rfl, trivial⟩ (fun _ w => ((.k (.k .z)) : Keep _ _).sat w)
              · replace h3 := bif_f hb6 h3
                refine St.skip ?_
                refine St.thenN ?_
                refine St.prune (Γ' := [(1, _), (3, _), (4, _), (6, _), (7, _), (8, _)]) ⟨rfl, rfl, rfl, rfl, rfl, rfl, trivial⟩ (.k (.k .z)) ?_
                refine St.region ?_
                iterate 3 refine St.p rfl rfl ?_
                refine St.done ?_
                refine St.blkN ?_
                refine St.thenN ?_
                refine St.prune (Γ' := [(1, _), (3, _), (4, _), (6, _), (7, _), (8, _)]) ⟨rfl, rfl, rfl, rfl, rfl, rfl, trivial⟩ (.k (.k .z)) ?_
                refine St.region ?_
                iterate 3 refine St.p rfl rfl ?_
                refine St.done ?_
                injection h3 with h3
                subst h3
                refine St.thenN ?_
                exact St.again _ (A6, c6) hm3 trivial ⟨rfl, rfl, rfl, rfl, rfl, rfl, trivial⟩ (fun _ w => ((.k (.k .z)) : Keep _ _).sat w)
            · replace h3 := bif_f hb5 h3
              refine St.exit ?_
              repeat (first | refine St.thenX ?_ | refine St.blkMiss rfl ?_)
              refine St.blkHit ?_
              injection h3 with h3
              subst h3
              have ho := hd3 _ rfl
              subst ho
              refine St.thenN ?_
              exact St.hereE (A6, c6) ⟨rfl, rfl, rfl, rfl, trivial⟩ (fun _ w => ((.k (.k .z)) : Keep _ _).sat w)
          · rintro ⟨A7, c7⟩
            refine St.blkN ?_
            refine St.thenN ?_
            refine St.region ?_
            iterate 3 refine St.p rfl rfl ?_
            refine St.done ?_
            injection h2 with h2
            subst h2
            refine St.thenN ?_
            exact St.again _ (A7, c7) hm2 trivial ⟨rfl, rfl, rfl, rfl, trivial⟩ (fun _ w => ((.k (.k .z)) : Keep _ _).sat w)
        · replace h2 := bif_f hb4 h2
          refine St.exit ?_
          repeat (first | refine St.thenX ?_ | refine St.blkMiss rfl ?_)
          refine St.blkHit ?_
          injection h2 with h2
          subst h2
          have ho := hd2 _ rfl
          subst ho
          refine St.thenN ?_
          exact St.hereE (A4, c4) ⟨rfl, trivial⟩ (fun _ w => ((.k (.d .z)) : Keep _ _).sat w)
      · rintro ⟨A5, c5⟩
        refine St.blkN ?_
        refine St.thenN ?_
        refine St.seq ?_
        refine St.region ?_
        refine St.p rfl rfl ?_
        refine St.p rfl rfl ?_
        refine St.done ?_
        refine St.thenN ?_
        refine St.prune (Γ' := [(2, _)]) ⟨rfl, trivial⟩ (.k .z) ?_
        refine St.ret ?_
        repeat (first | refine St.thenR ?_ | refine St.blkR ?_)
        injection h with h
        subst h
        exact St.finR Tryd.results38 (.tmp rfl .nil) rfl [.res (OwnL eu8 5 A5 c5 o2)] ⟨A5, c5, rfl, rfl⟩ (fun _ w => ((.k .z) : Keep _ _).sat w)
    · replace h := bif_f hb3 h
      refine St.seq ?_
      refine St.region ?_
      refine St.p rfl rfl ?_
      refine St.done ?_
      refine St.thenN ?_
      refine St.prune (Γ' := [(1, _), (3, _), (4, _), (10, _)]) ⟨rfl, rfl, rfl, rfl, trivial⟩ (.k .z) ?_
      refine St.asrt (fun _ w => w.nilL eu8 5) ?_
      obtain ⟨o4, hl4, h⟩ := bnd_e h
      refine St.selfThen ?_
      refine St.cutE (fun (e8 : Option Addr × Nat) => [(4, .slice e8.1 o4.length e8.2)]) (fun e8 => .res (OwnL eu8 5 e8.1 e8.2 o4) :: R) ?_ ?_
      · refine St.block ?_
        refine St.loop hl4 (fun (s4 : List Int × Int) (e7 : Option Addr × Nat) => [(1, .pointer (some ⟨g1, 0, none⟩)), (3, .int .i64 (f_p0.Value.size : Int)), (4, .slice e7.1 s4.1.length e7.2), (10, .int .i64 s4.2)]) (fun s4 e7 => .res (OwnL eu8 5 e7.1 e7.2 s4.1) :: .res (Box g1 23 [.int .i64 f_p0.Kind, .string f_p0.Value]) :: R) (fun _ _ => True) (none, 0) trivial ⟨rfl, rfl, rfl, rfl, trivial⟩ (fun _ w => ((.k (.k .z)) : Keep _ _).sat w) ?_
        rintro s4 ⟨A8, c8⟩ - hit4
        obtain ⟨st4, hm4, hd4⟩ := iter_e hit4
        have h4 := hm4
        refine St.seq ?_
        refine St.seq ?_
        refine St.region ?_
        iterate 3 refine St.p rfl rfl ?_
        refine St.done ?_
        refine St.thenN ?_
        refine St.prune (Γ' := [(1, _), (3, _), (4, _), (10, _), (18, _)]) ⟨rfl, rfl, rfl, rfl, rfl, trivial⟩ (.k (.k .z)) ?_
        refine St.cond _ rfl (fun hb7 => ?_) (fun hb7 => ?_)
        · replace h4 := bif_t hb7 h4
          refine St.skip ?_
          refine St.thenN ?_
          refine St.prune (Γ' := [(1, _), (3, _), (4, _), (10, _)]) ⟨rfl, rfl, rfl, rfl, trivial⟩ (.k (.k .z)) ?_
          refine St.seq ?_
          refine St.block ?_
          refine St.region ?_
          refine St.p rfl rfl ?_
          refine St.p rfl rfl ?_
          refine St.loadB 1 rfl rfl (.tail _ (.head _)) rfl rfl ?_
          refine St.p rfl rfl ?_
          obtain ⟨y4, hy4, h4⟩ := bnd_e h4
          refine St.eltS rfl rfl rfl rfl rfl hy4 ?_
          refine St.buildSlice rfl rfl rfl rfl rfl rfl rfl rfl fun g6 => ?_
          obtain ⟨l4, hl4, h4⟩ := bnd_e h4
          refine St.app (E := eu8) hl4 rfl rfl rfl (.s .z) rfl rfl rfl rfl rfl rfl rfl rfl (srcB (.head _) rfl rfl) rfl rfl fun A10 c10 => ?_
          refine St.p rfl rfl ?_
          refine St.done ?_
          refine St.blkN ?_
          refine St.thenN ?_
          refine St.prune (Γ' := [(1, _), (3, _), (4, _), (10, _)]) ⟨rfl, rfl, rfl, rfl, trivial⟩ (.k (.d (.k .z))) ?_
          refine St.region ?_
          iterate 3 refine St.p rfl rfl ?_
          refine St.done ?_
          injection h4 with h4
          subst h4
          refine St.thenN ?_
          exact St.again _ (A10, c10) hm4 trivial ⟨rfl, rfl, rfl, rfl, trivial⟩ (fun _ w => ((.k (.k .z)) : Keep _ _).sat w)
        · replace h4 := bif_f hb7 h4
          refine St.exit ?_
          repeat (first | refine St.thenX ?_ | refine St.blkMiss rfl ?_)
          refine St.blkHit ?_
          injection h4 with h4
          subst h4
          have ho := hd4 _ rfl
          subst ho
          refine St.thenN ?_
          exact St.hereE (A8, c8) ⟨rfl, trivial⟩ (fun _ w => ((.k (.d .z)) : Keep _ _).sat w)
      · rintro ⟨A9, c9⟩
        refine St.blkN ?_
        refine St.thenN ?_
        refine St.seq ?_
        refine St.region ?_
        refine St.p rfl rfl ?_
        refine St.p rfl rfl ?_
        refine St.done ?_
        refine St.thenN ?_
        refine St.prune (Γ' := [(2, _)]) ⟨rfl, trivial⟩ (.k .z) ?_
        refine St.ret ?_
        repeat (first | refine St.thenR ?_ | refine St.blkR ?_)
        injection h with h
        subst h
        exact St.finR Tryd.results38 (.tmp rfl .nil) rfl [.res (OwnL eu8 5 A9 c9 o4)] ⟨A9, c9, rfl, rfl⟩ (fun _ w => ((.k .z) : Keep _ _).sat w)

theorem ent18 : Ent Tryd.prog 18 := ⟨_, Tryd.func18, by kernel_rfl, by kernel_rfl⟩

noncomputable def m_ref02_Encode (f_p0 : T_Field) : Option ((List Int) × Int) :=
  bnd (m_ref02_Valid f_p0) fun r1 => bif !r1 then (some ([], 1)) else (bnd (m_ref02_data f_p0) fun r2 => bnd (app 1 ([IntKind.wrap .u8 (IntKind.wrap .i64 ((IntKind.wrap .i64 (64 * f_p0.Kind)) + (r2.length : Int)))]) r2) fun l1 => some (l1, 0))

theorem c_ref02_Encode {f_p0 : T_Field} {r : ((List Int) × Int)} (h : m_ref02_Encode f_p0 = some r) :
    Fun Tryd.prog 18 [.agg #[.int .i64 f_p0.Kind, .string f_p0.Value]] [] (fun v_ F_ => ∃ (A1 : Option Addr) (c1 : Nat), v_ = .tuple #[.slice A1 r.1.length c1, .int .i64 r.2] ∧ F_ = [.res (OwnL eu8 5 A1 c1 r.1)]) := by
  unfold m_ref02_Encode at h
  refine Fun.intro Tryd.func18 rfl rfl rfl fun w R => ?_
  refine St.seq ?_
  refine St.region ?_
  refine St.box rfl rfl fun g1 => ?_
  refine St.p rfl rfl ?_
  refine St.p rfl rfl ?_
  refine St.done ?_
  refine St.thenN ?_
  refine St.prune (Γ' := [(1, _)]) ⟨rfl, trivial⟩ (.k .z) ?_
  refine St.seq ?_
  refine St.seq ?_
  refine St.region ?_
  refine St.loadB 0 rfl rfl (.head _) rfl rfl ?_
  obtain ⟨r1, hr1, h⟩ := bnd_e h
  refine St.callV (c_ref02_Valid hr1) ent20 rfl rfl rfl rfl trivial ?_
  refine St.p rfl rfl ?_
  refine St.done ?_
  refine St.thenN ?_
  refine St.prune (Γ' := [(1, _), (7, _)]) ⟨rfl, rfl, trivial⟩ (.k .z) ?_
  refine St.cond _ rfl (fun hb1 => ?_) (fun hb1 => ?_)
  · replace h := bif_t hb1 h
    refine St.seq ?_
    refine St.region ?_
    refine St.p rfl rfl ?_
    refine St.p rfl rfl ?_
    refine St.done ?_
    refine St.thenN ?_
    refine St.prune (Γ' := [(2, _), (3, _)]) ⟨rfl, rfl, trivial⟩ (.d .z) ?_
    refine St.ret ?_
    repeat (first | refine St.thenR ?_ | refine St.blkR ?_)
    refine St.asrt (fun _ w => w.nilL eu8 5) ?_
    injection h with h
    subst h
    exact St.finR Tryd.results18 (.tmp rfl (.tmp rfl .nil)) rfl [.res (OwnL eu8 5 none 0 ([] : List Int))] ⟨none, 0, rfl, rfl⟩ (fun _ w => ((.k .z) : Keep _ _).sat w)
  · replace h := bif_f hb1 h
    refine St.skip ?_
    refine St.thenN ?_
    refine St.prune (Γ' := [(1, _)]) ⟨rfl, trivial⟩ (.k .z) ?_
    refine St.seq ?_
    refine St.region ?_
    refine St.loadB 0 rfl rfl (.head _) rfl rfl ?_
    obtain ⟨r2, hr2, h⟩ := bnd_e h
    refine St.call (c_ref02_data hr2) ent38 rfl rfl rfl (fun _ w => w) ?_
    rintro _ _ ⟨A1, c1, rfl, rfl⟩
    refine St.asrt (F' := .res (OwnL eu8 5 A1 c1 r2) :: .res (Box g1 23 [.int .i64 f_p0.Kind, .string f_p0.Value]) :: R) (fun _ w => w) ?_
    refine St.p rfl rfl ?_
    refine St.done ?_
    refine St.thenN ?_
    refine St.prune (Γ' := [(1, _), (4, _)]) ⟨rfl, rfl, trivial⟩ (.k (.k .z)) ?_
    refine St.seq ?_
    refine St.region ?_
    refine St.p rfl rfl ?_
    refine St.loadB 0 rfl rfl (.tail _ (.head _)) rfl rfl ?_
    iterate 5 refine St.p rfl rfl ?_
    refine St.buildSlice rfl rfl rfl rfl rfl rfl rfl rfl fun g2 => ?_
    refine St.p rfl rfl ?_
    refine St.asrt (fun _ w => (w.front (.s .z)).meltL) ?_
    refine St.asrt (fun _ w => (w.front (.s .z)).litL (E := eu8) (e := 5) [IntKind.wrap .u8 (IntKind.wrap .i64 ((IntKind.wrap .i64 (64 * f_p0.Kind)) + (r2.length : Int)))] rfl rfl) ?_
    obtain ⟨l1, hl1, h⟩ := bnd_e h
    refine St.app (E := eu8) hl1 rfl rfl rfl .z rfl rfl rfl rfl rfl rfl rfl rfl (srcL (.tail _ (.head _))) rfl rfl fun A2 c2 => ?_
    refine St.p rfl rfl ?_
    refine St.p rfl rfl ?_
    refine St.done ?_
    refine St.thenN ?_
    refine St.prune (Γ' := [(2, _), (3, _)]) ⟨rfl, rfl, trivial⟩ (.k (.d (.d .z))) ?_
    refine St.ret ?_
    repeat (first | refine St.thenR ?_ | refine St.blkR ?_)
    injection h with h
    subst h
    exact St.finR Tryd.results18 (.tmp rfl (.tmp rfl .nil)) rfl [.res (OwnL eu8 5 A2 c2 l1)] ⟨A2, c2, rfl, rfl⟩ (fun _ w => ((.k .z) : Keep _ _).sat w)

theorem ent24 : Ent Tryd.prog 24 := ⟨_, Tryd.func24, by kernel_rfl, by kernel_rfl⟩

noncomputable def m_ref02_Same (a_p0 : T_Field) (b_p1 : T_Field) : Option Bool :=
  bnd ((bif (a_p0.Kind == b_p1.Kind) then (some (a_p0.Value.toList == b_p1.Value.toList)) else (some false) : Option Bool)) fun o1 => some o1

theorem c_ref02_Same {a_p0 : T_Field} {b_p1 : T_Field} {r : Bool} (h : m_ref02_Same a_p0 b_p1 = some r) :
    Fun Tryd.prog 24 [.agg #[.int .i64 a_p0.Kind, .string a_p0.Value], .agg #[.int .i64 b_p1.Kind, .string b_p1.Value]] [] (Val (.bool r)) := by
  unfold m_ref02_Same at h
  refine Fun.intro Tryd.func24 rfl rfl rfl fun w R => ?_
  refine St.seq ?_
  refine St.region ?_
  refine St.box rfl rfl fun g1 => ?_
  refine St.box rfl rfl fun g2 => ?_
  refine St.p rfl rfl ?_
  refine St.done ?_
  refine St.thenN ?_
  refine St.prune (Γ' := [(2, _), (3, _)]) ⟨rfl, rfl, trivial⟩ (.k (.k .z)) ?_
  refine St.seq ?_
  obtain ⟨o1, hj1, h⟩ := bnd_e h
  refine St.cutE (fun (e1 : Unit) => [(4, .bool o1)]) (fun e1 => R) ?_ ?_
  · refine St.region ?_
    refine St.p rfl rfl ?_
    refine St.loadB 0 rfl rfl (.tail _ (.head _)) rfl rfl ?_
    refine St.p rfl rfl ?_
    refine St.loadB 0 rfl rfl (.head _) rfl rfl ?_
    refine St.p rfl rfl ?_
    refine St.p rfl rfl ?_
    refine St.gSplit (dj := 10) _ rfl (fun hb1 => ?_) (fun hb1 => ?_)
    · replace hj1 := bif_t hb1 hj1
      refine St.gOn (dj := 10) rfl rfl ?_
      refine St.p rfl rfl ?_
      refine St.gOn (dj := 10) rfl rfl ?_
      refine St.loadB 1 rfl rfl (.tail _ (.head _)) rfl rfl ?_
      refine St.gOn (dj := 10) rfl rfl ?_
      refine St.p rfl rfl ?_
      refine St.gOn (dj := 10) rfl rfl ?_
      refine St.loadB 1 rfl rfl (.head _) rfl rfl ?_
      refine St.gOn (dj := 10) rfl rfl ?_
      iterate 3 refine St.p rfl rfl ?_
      refine St.done ?_
      injection hj1 with hj1
      subst hj1
      refine St.thenN ?_
      exact St.hereE () ⟨rfl, trivial⟩ (fun _ w => ((.d (.d .z)) : Keep _ _).sat w)
    · replace hj1 := bif_f hb1 hj1
      refine St.gOff (dj := 10) rfl rfl rfl rfl ?_
      refine St.gOff (dj := 10) rfl rfl rfl rfl ?_
      refine St.gOff (dj := 10) rfl rfl rfl rfl ?_
      refine St.gOff (dj := 10) rfl rfl rfl rfl ?_
      refine St.gOff (dj := 10) rfl rfl rfl rfl ?_
      refine St.p rfl rfl ?_
      refine St.p rfl rfl ?_
      refine St.done ?_
      injection hj1 with hj1
      subst hj1
      refine St.thenN ?_
      exact St.hereE () ⟨rfl, trivial⟩ (fun _ w => ((.d (.d .z)) : Keep _ _).sat w)
  · rintro e1
    refine St.ret ?_
    repeat (first | refine St.thenR ?_ | refine St.blkR ?_)
    injection h with h
    subst h
    exact St.finR Tryd.results24 (.tmp rfl .nil) rfl [] ⟨rfl, rfl⟩ (fun _ w => (.z : Keep _ _).sat w)

theorem ent44 : Ent Tryd.prog 44 := ⟨_, Tryd.func44, by kernel_rfl, by kernel_rfl⟩

noncomputable def m_fields_decimal (b_p0 : (List Int)) : Option (ByteArray × Bool) :=
  bnd (loopM (τ := (ByteArray × Bool) ⊕ List Int) (fun (s1 : List Int × Int) => bif decide (s1.2 < (b_p0.length : Int)) then (bnd (elt b_p0 s1.2) fun x1 => bif decide ((IntKind.wrap .i64 (iShr .u8 x1 4)) ≥ 13) then (some (.done (.inl (⟨#[]⟩, false)))) else (bnd (eltS (⟨#[48, 49, 50, 51, 52, 53, 54, 55, 56, 57, 32, 45, 46]⟩) (iShr .u8 x1 4)) fun y1 => bnd (app 1 s1.1 [y1]) fun l1 => bif decide ((IntKind.wrap .i64 (iAnd .u8 x1 15)) ≥ 13) then (some (.done (.inl (⟨#[]⟩, false)))) else (bnd (eltS (⟨#[48, 49, 50, 51, 52, 53, 54, 55, 56, 57, 32, 45, 46]⟩) (iAnd .u8 x1 15)) fun y2 => bnd (app 1 l1 [y2]) fun l2 => some (.next (l2, IntKind.wrap .i64 (s1.2 + 1)))))) else (some (.done (.inr s1.1)))) ([], 0)) fun o1 => retOr o1 fun o2 => some (strOf o2, true)

theorem c_fields_decimal {b_p0 : (List Int)} {A1 : Option Addr} {c1 : Nat} {r : (ByteArray × Bool)} (h : m_fields_decimal b_p0 = some r) :
    Fun Tryd.prog 44 [.slice A1 b_p0.length c1] [.ro (SlL eu8 A1 c1 b_p0)] (Val (.tuple #[.string r.1, .bool r.2])) := by
  unfold m_fields_decimal at h
  refine Fun.intro Tryd.func44 rfl rfl rfl fun w R => ?_
  refine St.seq ?_
  refine St.region ?_
  refine St.p rfl rfl ?_
  refine St.p rfl rfl ?_
  refine St.done ?_
  refine St.thenN ?_
  refine St.prune (Γ' := [(0, _)]) ⟨rfl, trivial⟩ (.k .z) ?_
  refine St.seq ?_
  refine St.region ?_
  refine St.p rfl rfl ?_
  refine St.done ?_
  refine St.thenN ?_
  refine St.seq ?_
  refine St.seq ?_
  refine St.region ?_
  iterate 3 refine St.p rfl rfl ?_
  refine St.done ?_
  refine St.thenN ?_
  refine St.prune (Γ' := [(4, _), (9, _), (10, _), (11, _)]) ⟨rfl, rfl, rfl, rfl, trivial⟩ (.k .z) ?_
  refine St.asrt (fun _ w => w.nilL eu8 5) ?_
  obtain ⟨o1, hl1, h⟩ := bnd_e h
  refine St.cutI (fun (o2 : List Int) (e2 : Option Addr × Nat) => [(4, .slice e2.1 o2.length e2.2)]) (fun o2 e2 => .res (OwnL eu8 5 e2.1 e2.2 o2) :: R) (fun o2 => o1 = .inr o2) ?_ ?_
  · refine St.block ?_
    refine St.loop hl1 (fun (s1 : List Int × Int) (e1 : Option Addr × Nat) => [(4, .slice e1.1 s1.1.length e1.2), (9, .slice A1 b_p0.length c1), (10, .int .i64 (b_p0.length : Int)), (11, .int .i64 s1.2)]) (fun s1 e1 => .res (OwnL eu8 5 e1.1 e1.2 s1.1) :: .ro (SlL eu8 A1 c1 b_p0) :: R) (fun _ _ => True) (none, 0) trivial ⟨rfl, rfl, rfl, rfl, trivial⟩ (fun _ w => ((.k (.k .z)) : Keep _ _).sat w) ?_
    rintro s1 ⟨A2, c2⟩ - hit1
    obtain ⟨st1, hm1, hd1⟩ := iter_e hit1
    have h1 := hm1
    refine St.seq ?_
    refine St.region ?_
    refine St.p rfl rfl ?_
    refine St.done ?_
    refine St.thenN ?_
    refine St.seq ?_
    refine St.cond _ rfl (fun hb1 => ?_) (fun hb1 => ?_)
    · replace h1 := bif_t hb1 h1
      refine St.skip ?_
      refine St.thenN ?_
      refine St.prune (Γ' := [(4, _), (9, _), (10, _), (11, _)]) ⟨rfl, rfl, rfl, rfl, trivial⟩ (.k (.k .z)) ?_
      refine St.seq ?_
      refine St.block ?_
      refine St.seq ?_
      refine St.region ?_
      obtain ⟨x1, hx1, h1⟩ := bnd_e h1
      refine St.ixL hx1 rfl rfl rfl (.tail _ (.head _)) rfl rfl rfl rfl rfl fun b1 ob1 => ?_
      refine St.load ob1 0 rfl rfl (.head _) rfl rfl ?_
      refine St.p rfl rfl ?_
      refine St.done ?_
      refine St.thenN ?_
      refine St.prune (Γ' := [(4, _), (6, _), (9, _), (10, _), (11, _)]) ⟨rfl, rfl, rfl, rfl, rfl, trivial⟩ (.d (.k (.k .z))) ?_
      refine St.seq ?_
      refine St.region ?_
      iterate 4 refine St.p rfl rfl ?_
      refine St.buildSlice rfl rfl rfl rfl rfl rfl rfl rfl fun g1 => ?_
      refine St.p rfl rfl ?_
      refine St.p rfl rfl ?_
      refine St.done ?_
      refine St.thenN ?_
      refine St.prune (Γ' := [(4, _), (9, _), (10, _), (11, _), (19, _), (20, _), (21, _)]) ⟨rfl, rfl, rfl, rfl, rfl, rfl, rfl, trivial⟩ (.k (.k (.k .z))) ?_
      refine St.block ?_
      refine St.rounds 9 ?_
      refine St.round ?_
      refine St.seq ?_
      refine St.region ?_
      refine St.p rfl rfl ?_
      refine St.done ?_
      refine St.thenN ?_
      refine St.seq ?_
      refine St.condT rfl ?_
      refine St.skip ?_
      refine St.thenN ?_
      refine St.prune (Γ' := [(4, _), (9, _), (10, _), (11, _), (19, _), (20, _), (21, _)]) ⟨rfl, rfl, rfl, rfl, rfl, rfl, rfl, trivial⟩ (.k (.k (.k .z))) ?_
      refine St.seq ?_
      refine St.block ?_
      refine St.seq ?_
      refine St.region ?_
      refine St.ixB 0 rfl rfl rfl rfl rfl rfl rfl rfl rfl rfl ?_
      refine St.loadB 0 rfl rfl (.head _) rfl rfl ?_
      refine St.p rfl rfl ?_
      refine St.done ?_
      refine St.thenN ?_
      refine St.prune (Γ' := [(4, _), (8, _), (9, _), (10, _), (11, _), (19, _), (20, _), (21, _)]) ⟨rfl, rfl, rfl, rfl, rfl, rfl, rfl, rfl, trivial⟩ (.k (.k (.k .z))) ?_
      refine St.seq ?_
      refine St.seq ?_
      refine St.region ?_
      iterate 3 refine St.p rfl rfl ?_
      refine St.done ?_
      refine St.thenN ?_
      refine St.prune (Γ' := [(4, _), (8, _), (9, _), (10, _), (11, _), (19, _), (20, _), (21, _), (27, _)]) ⟨rfl, rfl, rfl, rfl, rfl, rfl, rfl, rfl, rfl, trivial⟩ (.k (.k (.k .z))) ?_
      refine St.cond _ rfl (fun hb2 => ?_) (fun hb2 => ?_)
      · replace h1 := bif_t hb2 h1
        refine St.seq ?_
        refine St.region ?_
        refine St.p rfl rfl ?_
        refine St.p rfl rfl ?_
        refine St.done ?_
        refine St.thenN ?_
        refine St.prune (Γ' := [(2, _), (3, _)]) ⟨rfl, rfl, trivial⟩ (.d (.d (.d .z))) ?_
        refine St.ret ?_
        repeat (first | refine St.thenR ?_ | refine St.blkR ?_)
        injection h1 with h1
        subst h1
        have ho := hd1 _ rfl
        subst ho
        have h : some _ = some _ := h
        injection h with h
        subst h
        exact St.finR Tryd.results44 (.tmp rfl (.tmp rfl .nil)) rfl [] ⟨rfl, rfl⟩ (fun _ w => (.z : Keep _ _).sat w)
      · replace h1 := bif_f hb2 h1
        refine St.skip ?_
        refine St.thenN ?_
        refine St.prune (Γ' := [(4, _), (8, _), (9, _), (10, _), (11, _), (19, _), (20, _), (21, _)]) ⟨rfl, rfl, rfl, rfl, rfl, rfl, rfl, rfl, trivial⟩ (.k (.k (.k .z))) ?_
        refine St.region ?_
        refine St.p rfl rfl ?_
        refine St.p rfl rfl ?_
        obtain ⟨y1, hy1, h1⟩ := bnd_e h1
        refine St.eltS rfl rfl rfl rfl rfl hy1 ?_
        refine St.buildSlice rfl rfl rfl rfl rfl rfl rfl rfl fun g2 => ?_
        obtain ⟨l1, hl1, h1⟩ := bnd_e h1
        refine St.app (E := eu8) hl1 rfl rfl rfl (.s (.s .z)) rfl rfl rfl rfl rfl rfl rfl rfl (srcB (.head _) rfl rfl) rfl rfl fun A4 c4 => ?_
        refine St.p rfl rfl ?_
        refine St.done ?_
        refine St.blkN ?_
        refine St.thenN ?_
        refine St.prune (Γ' := [(4, _), (9, _), (10, _), (11, _), (19, _), (20, _), (21, _)]) ⟨rfl, rfl, rfl, rfl, rfl, rfl, rfl, trivial⟩ (.k (.d (.k (.k .z)))) ?_
        refine St.region ?_
        refine St.p rfl rfl ?_
        refine St.p rfl rfl ?_
        refine St.done ?_
        refine St.thenN ?_
        refine St.round ?_
        refine St.prune (Γ' := [(4, _), (9, _), (10, _), (11, _), (19, _), (20, _), (21, _)]) ⟨rfl, rfl, rfl, rfl, rfl, rfl, rfl, trivial⟩ (.k (.k (.k .z))) ?_
        refine St.seq ?_
        refine St.region ?_
        refine St.p rfl rfl ?_
        refine St.done ?_
        refine St.thenN ?_
        refine St.seq ?_
        refine St.condT rfl ?_
        refine St.skip ?_
        refine St.thenN ?_
        refine St.prune (Γ' := [(4, _), (9, _), (10, _), (11, _), (19, _), (20, _), (21, _)]) ⟨rfl, rfl, rfl, rfl, rfl, rfl, rfl, trivial⟩ (.k (.k (.k .z))) ?_
        refine St.seq ?_
        refine St.block ?_
        refine St.seq ?_
        refine St.region ?_
        refine St.ixB 1 rfl rfl rfl rfl rfl rfl rfl rfl rfl rfl ?_
        refine St.loadB 1 rfl rfl (.tail _ (.head _)) rfl rfl ?_
        refine St.p rfl rfl ?_
        refine St.done ?_
        refine St.thenN ?_
        refine St.prune (Γ' := [(4, _), (8, _), (9, _), (10, _), (11, _), (19, _), (20, _), (21, _)]) ⟨rfl, rfl, rfl, rfl, rfl, rfl, rfl, rfl, trivial⟩ (.k (.k (.k .z))) ?_
        refine St.seq ?_
        refine St.seq ?_
        refine St.region ?_
        iterate 3 refine St.p rfl rfl ?_
        refine St.done ?_
        refine St.thenN ?_
        refine St.prune (Γ' := [(4, _), (8, _), (9, _), (10, _), (11, _), (19, _), (20, _), (21, _), (27, _)]) ⟨rfl, rfl, rfl, rfl, rfl, rfl, rfl, rfl, rfl, trivial⟩ (.k (.k (.k .z))) ?_
        refine St.cond _ rfl (fun hb3 => ?_) (fun hb3 => ?_)
        · replace h1 := bif_t hb3 h1
          refine St.seq ?_
          refine St.region ?_
          refine St.p rfl rfl ?_
          refine St.p rfl rfl ?_
          refine St.done ?_
          refine St.thenN ?_
          refine St.prune (Γ' := [(2, _), (3, _)]) ⟨rfl, rfl, trivial⟩ (.d (.d (.d .z))) ?_
          refine St.ret ?_
          repeat (first | refine St.thenR ?_ | refine St.blkR ?_)
          injection h1 with h1
          subst h1
          have ho := hd1 _ rfl
          subst ho
          have h : some _ = some _ := h
          injection h with h
          subst h
          exact St.finR Tryd.results44 (.tmp rfl (.tmp rfl .nil)) rfl [] ⟨rfl, rfl⟩ (fun _ w => (.z : Keep _ _).sat w)
        · replace h1 := bif_f hb3 h1
          refine St.skip ?_
          refine St.thenN ?_
          refine St.prune (Γ' := [(4, _), (8, _), (9, _), (10, _), (11, _), (19, _), (20, _), (21, _)]) ⟨rfl, rfl, rfl, rfl, rfl, rfl, rfl, rfl, trivial⟩ (.k (.k (.k .z))) ?_
          refine St.region ?_
          refine St.p rfl rfl ?_
          refine St.p rfl rfl ?_
          obtain ⟨y2, hy2, h1⟩ := bnd_e h1
          refine St.eltS rfl rfl rfl rfl rfl hy2 ?_
          refine St.buildSlice rfl rfl rfl rfl rfl rfl rfl rfl fun g3 => ?_
          obtain ⟨l2, hl2, h1⟩ := bnd_e h1
          refine St.app (E := eu8) hl2 rfl rfl rfl (.s .z) rfl rfl rfl rfl rfl rfl rfl rfl (srcB (.head _) rfl rfl) rfl rfl fun A5 c5 => ?_
          refine St.p rfl rfl ?_
          refine St.done ?_
          refine St.blkN ?_
          refine St.thenN ?_
          refine St.prune (Γ' := [(4, _), (9, _), (10, _), (11, _), (19, _), (20, _), (21, _)]) ⟨rfl, rfl, rfl, rfl, rfl, rfl, rfl, trivial⟩ (.k (.d (.k (.k .z)))) ?_
          refine St.region ?_
          refine St.p rfl rfl ?_
          refine St.p rfl rfl ?_
          refine St.done ?_
          refine St.thenN ?_
          refine St.round ?_
          refine St.prune (Γ' := [(4, _), (9, _), (10, _), (11, _), (19, _), (20, _), (21, _)]) ⟨rfl, rfl, rfl, rfl, rfl, rfl, rfl, trivial⟩ (.k (.k (.k .z))) ?_
          refine St.seq ?_
          refine St.region ?_
          refine St.p rfl rfl ?_
          refine St.done ?_
          refine St.thenN ?_
          refine St.seq ?_
          refine St.condF rfl ?_
          refine St.exit ?_
          repeat (first | refine St.thenX ?_ | refine St.blkMiss rfl ?_)
          refine St.blkHit ?_
          refine St.blkN ?_
          refine St.thenN ?_
          refine St.prune (Γ' := [(4, _), (9, _), (10, _), (11, _)]) ⟨rfl, rfl, rfl, rfl, trivial⟩ (.k (.d (.k .z))) ?_
          refine St.region ?_
          refine St.p rfl rfl ?_
          refine St.p rfl rfl ?_
          refine St.done ?_
          injection h1 with h1
          subst h1
          refine St.thenN ?_
          exact St.again _ (A5, c5) hm1 trivial ⟨rfl, rfl, rfl, rfl, trivial⟩ (fun _ w => ((.k (.k .z)) : Keep _ _).sat w)
    · replace h1 := bif_f hb1 h1
      refine St.exit ?_
      repeat (first | refine St.thenX ?_ | refine St.blkMiss rfl ?_)
      refine St.blkHit ?_
      injection h1 with h1
      subst h1
      have ho := hd1 _ rfl
      subst ho
      refine St.thenN ?_
      exact St.hereI s1.1 (A2, c2) rfl ⟨rfl, trivial⟩ (fun _ w => ((.k (.d .z)) : Keep _ _).sat w)
  · rintro o2 ⟨A3, c3⟩ ho
    subst ho
    have h : _ = some _ := h
    refine St.seq ?_
    refine St.region ?_
    refine St.p rfl rfl ?_
    refine St.asrt (fun _ w => (w.front .z).meltL) ?_
    refine St.b2s rfl rfl rfl rfl rfl rfl rfl rfl rfl (srcL (E := eu8) (.head _)) ?_
    refine St.p rfl rfl ?_
    refine St.p rfl rfl ?_
    refine St.done ?_
    refine St.thenN ?_
    refine St.prune (Γ' := [(2, _), (3, _)]) ⟨rfl, rfl, trivial⟩ (.d .z) ?_
    refine St.ret ?_
    repeat (first | refine St.thenR ?_ | refine St.blkR ?_)
    injection h with h
    subst h
    exact St.finR Tryd.results44 (.tmp rfl (.tmp rfl .nil)) rfl [] ⟨rfl, rfl⟩ (fun _ w => (.z : Keep _ _).sat w)

theorem ent45 : Ent Tryd.prog 45 := ⟨_, Tryd.func45, by kernel_rfl, by kernel_rfl⟩

noncomputable def m_fields_unpack (b_p0 : (List Int)) : Option (ByteArray × Bool) :=
  bnd (loopM (τ := List Int × Int) (fun (s1 : List Int × Int × Int × Int) => bif decide (s1.2.2.2 < (b_p0.length : Int)) then (bnd (elt b_p0 s1.2.2.2) fun x1 => bnd (shlM .i64 (IntKind.wrap .i64 x1) s1.2.2.1) fun q1 => bnd (loopM (τ := List Int × Int × Int) (fun (s2 : List Int × Int × Int) => bif decide (s2.2.2 ≥ 6) then (bnd (app 1 s2.1 [IntKind.wrap .u8 (IntKind.wrap .i64 ((iAnd .i64 s2.2.1 63) + 32))]) fun l1 => some (.next (l1, iShr .i64 s2.2.1 6, IntKind.wrap .i64 (s2.2.2 - 6)))) else (some (.done (s2.1, s2.2.1, s2.2.2)))) (s1.1, iOr .i64 s1.2.1 q1, IntKind.wrap .i64 (s1.2.2.1 + 8))) fun o2 => some (.next (o2.1, o2.2.1, o2.2.2, IntKind.wrap .i64 (s1.2.2.2 + 1)))) else (some (.done (s1.1, s1.2.1)))) ([], 0, 0, 0)) fun o1 => some (strOf o1.1, (o1.2 == 0))

theorem c_fields_unpack {b_p0 : (List Int)} {A1 : Option Addr} {c1 : Nat} {r : (ByteArray × Bool)} (h : m_fields_unpack b_p0 = some r) :
    Fun Tryd.prog 45 [.slice A1 b_p0.length c1] [.ro (SlL eu8 A1 c1 b_p0)] (Val (.tuple #[.string r.1, .bool r.2])) := by
  unfold m_fields_unpack at h
  refine Fun.intro Tryd.func45 rfl rfl rfl fun w R => ?_
  refine St.seq ?_
  refine St.region ?_
  refine St.p rfl rfl ?_
  refine St.p rfl rfl ?_
  refine St.done ?_
  refine St.thenN ?_
  refine St.prune (Γ' := [(0, _)]) ⟨rfl, trivial⟩ (.k .z) ?_
  refine St.seq ?_
  refine St.region ?_
  refine St.p rfl rfl ?_
  refine St.done ?_
  refine St.thenN ?_
  refine St.seq ?_
  refine St.region ?_
  refine St.p rfl rfl ?_
  refine St.p rfl rfl ?_
  refine St.done ?_
  refine St.thenN ?_
  refine St.seq ?_
  refine St.seq ?_
  refine St.region ?_
  iterate 3 refine St.p rfl rfl ?_
  refine St.done ?_
  refine St.thenN ?_
  refine St.prune (Γ' := [(4, _), (5, _), (6, _), (9, _), (10, _), (11, _)]) ⟨rfl, rfl, rfl, rfl, rfl, rfl, trivial⟩ (.k .z) ?_
  refine St.asrt (fun _ w => w.nilL eu8 5) ?_
  obtain ⟨o1, hl1, h⟩ := bnd_e h
  refine St.cutE (fun (e2 : Option Addr × Nat) => [(4, .slice e2.1 o1.1.length e2.2), (5, .int .i64 o1.2)]) (fun e2 => .res (OwnL eu8 5 e2.1 e2.2 o1.1) :: R) ?_ ?_
  · refine St.block ?_
    refine St.loop hl1 (fun (s1 : List Int × Int × Int × Int) (e1 : Option Addr × Nat) => [(4, .slice e1.1 s1.1.length e1.2), (5, .int .i64 s1.2.1), (6, .int .i64 s1.2.2.1), (9, .slice A1 b_p0.length c1), (10, .int .i64 (b_p0.length : Int)), (11, .int .i64 s1.2.2.2)]) (fun s1 e1 => .res (OwnL eu8 5 e1.1 e1.2 s1.1) :: .ro (SlL eu8 A1 c1 b_p0) :: R) (fun _ _ => True) (none, 0) trivial ⟨rfl, rfl, rfl, rfl, rfl, rfl, trivial⟩ (fun _ w => ((.k (.k .z)) : Keep _ _).sat w) ?_
    rintro s1 ⟨A2, c2⟩ - hit1
    obtain ⟨st1, hm1, hd1⟩ := iter_e hit1
    have h1 := hm1
    refine St.seq ?_
    refine St.region ?_
    refine St.p rfl rfl ?_
    refine St.done ?_
    refine St.thenN ?_
    refine St.seq ?_
    refine St.cond _ rfl (fun hb1 => ?_) (fun hb1 => ?_)
    · replace h1 := bif_t hb1 h1
      refine St.skip ?_
      refine St.thenN ?_
      refine St.prune (Γ' := [(4, _), (5, _), (6, _), (9, _), (10, _), (11, _)]) ⟨rfl, rfl, rfl, rfl, rfl, rfl, trivial⟩ (.k (.k .z)) ?_
      refine St.seq ?_
      refine St.block ?_
      refine St.seq ?_
      refine St.region ?_
      obtain ⟨x1, hx1, h1⟩ := bnd_e h1
      refine St.ixL hx1 rfl rfl rfl (.tail _ (.head _)) rfl rfl rfl rfl rfl fun b1 ob1 => ?_
      refine St.load ob1 0 rfl rfl (.head _) rfl rfl ?_
      refine St.p rfl rfl ?_
      refine St.done ?_
      refine St.thenN ?_
      refine St.prune (Γ' := [(4, _), (5, _), (6, _), (8, _), (9, _), (10, _), (11, _)]) ⟨rfl, rfl, rfl, rfl, rfl, rfl, rfl, trivial⟩ (.d (.k (.k .z))) ?_
      refine St.seq ?_
      refine St.region ?_
      iterate 4 refine St.p rfl rfl ?_
      obtain ⟨q1, hq1, h1⟩ := bnd_e h1
      refine St.shl rfl rfl rfl hq1 ?_
      iterate 5 refine St.p rfl rfl ?_
      refine St.done ?_
      refine St.thenN ?_
      refine St.prune (Γ' := [(4, _), (5, _), (6, _), (9, _), (10, _), (11, _)]) ⟨rfl, rfl, rfl, rfl, rfl, rfl, trivial⟩ (.k (.k .z)) ?_
      obtain ⟨o2, hl2, h1⟩ := bnd_e h1
      refine St.selfThen ?_
      refine St.cutE (fun (e4 : Option Addr × Nat) => [(4, .slice e4.1 o2.1.length e4.2), (5, .int .i64 o2.2.1), (6, .int .i64 o2.2.2), (9, .slice A1 b_p0.length c1), (10, .int .i64 (b_p0.length : Int)), (11, .int .i64 s1.2.2.2)]) (fun e4 => .res (OwnL eu8 5 e4.1 e4.2 o2.1) :: .ro (SlL eu8 A1 c1 b_p0) :: R) ?_ ?_
      · refine St.block ?_
        refine St.loop hl2 (fun (s2 : List Int × Int × Int) (e3 : Option Addr × Nat) => [(4, .slice e3.1 s2.1.length e3.2), (5, .int .i64 s2.2.1), (6, .int .i64 s2.2.2), (9, .slice A1 b_p0.length c1), (10, .int .i64 (b_p0.length : Int)), (11, .int .i64 s1.2.2.2)]) (fun s2 e3 => .res (OwnL eu8 5 e3.1 e3.2 s2.1) :: .ro (SlL eu8 A1 c1 b_p0) :: R) (fun _ _ => True) (A2, c2) trivial ⟨rfl, rfl, rfl, rfl, rfl, rfl, trivial⟩ (fun _ w => ((.k (.k .z)) : Keep _ _).sat w) ?_
        rintro s2 ⟨A4, c4⟩ - hit2
        obtain ⟨st2, hm2, hd2⟩ := iter_e hit2
        have h2 := hm2
        refine St.seq ?_
        refine St.seq ?_
        refine St.region ?_
        refine St.p rfl rfl ?_
        refine St.p rfl rfl ?_
        refine St.done ?_
        refine St.thenN ?_
        refine St.prune (Γ' := [(4, _), (5, _), (6, _), (9, _), (10, _), (11, _), (24, _)]) ⟨rfl, rfl, rfl, rfl, rfl, rfl, rfl, trivial⟩ (.k (.k .z)) ?_
        refine St.cond _ rfl (fun hb2 => ?_) (fun hb2 => ?_)
        · replace h2 := bif_t hb2 h2
          refine St.skip ?_
          refine St.thenN ?_
          refine St.prune (Γ' := [(4, _), (5, _), (6, _), (9, _), (10, _), (11, _)]) ⟨rfl, rfl, rfl, rfl, rfl, rfl, trivial⟩ (.k (.k .z)) ?_
          refine St.block ?_
          refine St.seq ?_
          refine St.region ?_
          iterate 5 refine St.p rfl rfl ?_
          refine St.buildSlice rfl rfl rfl rfl rfl rfl rfl rfl fun g1 => ?_
          obtain ⟨l1, hl1, h2⟩ := bnd_e h2
          refine St.app (E := eu8) hl1 rfl rfl rfl (.s .z) rfl rfl rfl rfl rfl rfl rfl rfl (srcB (.head _) rfl rfl) rfl rfl fun A6 c6 => ?_
          refine St.p rfl rfl ?_
          refine St.done ?_
          refine St.thenN ?_
          refine St.prune (Γ' := [(4, _), (5, _), (6, _), (9, _), (10, _), (11, _)]) ⟨rfl, rfl, rfl, rfl, rfl, rfl, trivial⟩ (.k (.d (.k .z))) ?_
          refine St.region ?_
          iterate 6 refine St.p rfl rfl ?_
          refine St.done ?_
          refine St.blkN ?_
          injection h2 with h2
          subst h2
          refine St.thenN ?_
          exact St.again _ (A6, c6) hm2 trivial ⟨rfl, rfl, rfl, rfl, rfl, rfl, trivial⟩ (fun _ w => ((.k (.k .z)) : Keep _ _).sat w)
        · replace h2 := bif_f hb2 h2
          refine St.exit ?_
          repeat (first | refine St.thenX ?_ | refine St.blkMiss rfl ?_)
          refine St.blkHit ?_
          injection h2 with h2
          subst h2
          have ho := hd2 _ rfl
          subst ho
          refine St.thenN ?_
          exact St.hereE (A4, c4) ⟨rfl, rfl, rfl, rfl, rfl, rfl, trivial⟩ (fun _ w => ((.k (.k .z)) : Keep _ _).sat w)
      · rintro ⟨A5, c5⟩
        refine St.blkN ?_
        refine St.thenN ?_
        refine St.region ?_
        refine St.p rfl rfl ?_
        refine St.p rfl rfl ?_
        refine St.done ?_
        injection h1 with h1
        subst h1
        refine St.thenN ?_
        exact St.again _ (A5, c5) hm1 trivial ⟨rfl, rfl, rfl, rfl, rfl, rfl, trivial⟩ (fun _ w => ((.k (.k .z)) : Keep _ _).sat w)
    · replace h1 := bif_f hb1 h1
      refine St.exit ?_
      repeat (first | refine St.thenX ?_ | refine St.blkMiss rfl ?_)
      refine St.blkHit ?_
      injection h1 with h1
      subst h1
      have ho := hd1 _ rfl
      subst ho
      refine St.thenN ?_
      exact St.hereE (A2, c2) ⟨rfl, rfl, trivial⟩ (fun _ w => ((.k (.d .z)) : Keep _ _).sat w)
  · rintro ⟨A3, c3⟩
    refine St.seq ?_
    refine St.region ?_
    refine St.p rfl rfl ?_
    refine St.asrt (fun _ w => (w.front .z).meltL) ?_
    refine St.b2s rfl rfl rfl rfl rfl rfl rfl rfl rfl (srcL (E := eu8) (.head _)) ?_
    iterate 4 refine St.p rfl rfl ?_
    refine St.done ?_
    refine St.thenN ?_
    refine St.prune (Γ' := [(2, _), (3, _)]) ⟨rfl, rfl, trivial⟩ (.d .z) ?_
    refine St.ret ?_
    repeat (first | refine St.thenR ?_ | refine St.blkR ?_)
    injection h with h
    subst h
    exact St.finR Tryd.results45 (.tmp rfl (.tmp rfl .nil)) rfl [] ⟨rfl, rfl⟩ (fun _ w => (.z : Keep _ _).sat w)

theorem ent27 : Ent Tryd.prog 27 := ⟨_, Tryd.func27, by kernel_rfl, by kernel_rfl⟩

noncomputable def m_fields_Decode (b_p0 : (List Int)) : Option (T_Field × Int × Bool × Int) :=
  bif ((b_p0.length : Int) == 0) then (some ((⟨0, ⟨#[]⟩⟩ : T_Field), 0, false, 4)) else (bnd (elt b_p0 0) fun x1 => bif (x1 == 193) then (some ((⟨0, ⟨#[]⟩⟩ : T_Field), 1, true, 0)) else (bif decide ((b_p0.length : Int) < (IntKind.wrap .i64 (1 + (IntKind.wrap .i64 (iAnd .u8 x1 63))))) then (some ((⟨0, ⟨#[]⟩⟩ : T_Field), 0, false, 4)) else (bnd (elt b_p0 0) fun x2 => bnd (sub b_p0 1 (IntKind.wrap .i64 (1 + (IntKind.wrap .i64 (iAnd .u8 x1 63))))) fun l1 => bnd ((bif ((IntKind.wrap .i64 (iShr .u8 x2 6)) == 1) then (bnd (sub b_p0 1 (IntKind.wrap .i64 (1 + (IntKind.wrap .i64 (iAnd .u8 x1 63))))) fun l2 => bnd (m_fields_decimal l2) fun r1 => some (r1.2, r1.1)) else (bif ((IntKind.wrap .i64 (iShr .u8 x2 6)) == 2) then (bnd (sub b_p0 1 (IntKind.wrap .i64 (1 + (IntKind.wrap .i64 (iAnd .u8 x1 63))))) fun l3 => bnd (m_fields_unpack l3) fun r2 => some (r2.2, r2.1)) else (some (true, strOf l1))) : Option (Bool × ByteArray))) fun o1 => bif !o1.1 then (some ((⟨0, ⟨#[]⟩⟩ : T_Field), 0, false, 6)) else (some ((⟨IntKind.wrap .i64 (iShr .u8 x2 6), o1.2⟩ : T_Field), IntKind.wrap .i64 (1 + (IntKind.wrap .i64 (iAnd .u8 x1 63))), false, 0)))))

theorem c_fields_Decode {b_p0 : (List Int)} {A1 : Option Addr} {c1 : Nat} {r : (T_Field × Int × Bool × Int)} (h : m_fields_Decode b_p0 = some r) :
    Fun Tryd.prog 27 [.slice A1 b_p0.length c1] [.ro (SlL eu8 A1 c1 b_p0)] (Val (.tuple #[.agg #[.int .i64 r.1.Kind, .string r.1.Value], .int .i64 r.2.1, .bool r.2.2.1, .int .i64 r.2.2.2])) := by
  unfold m_fields_Decode at h
  refine Fun.intro Tryd.func27 rfl rfl rfl fun w R => ?_
  refine St.seq ?_
  refine St.region ?_
  refine St.alloc rfl rfl fun g1 => ?_
  iterate 3 refine St.p rfl rfl ?_
  refine St.done ?_
  refine St.thenN ?_
  refine St.prune (Γ' := [(0, _), (2, _)]) ⟨rfl, rfl, trivial⟩ (.k (.k .z)) ?_
  refine St.seq ?_
  refine St.block ?_
  refine St.seq ?_
  refine St.region ?_
  iterate 4 refine St.p rfl rfl ?_
  refine St.done ?_
  refine St.thenN ?_
  refine St.prune (Γ' := [(0, _), (2, _), (7, _)]) ⟨rfl, rfl, rfl, trivial⟩ (.k (.k .z)) ?_
  refine St.cond _ rfl (fun hb1 => ?_) (fun hb1 => ?_)
  · replace h := bif_t hb1 h
    refine St.seq ?_
    refine St.region ?_
    refine St.p rfl rfl ?_
    refine St.store 0 rfl rfl rfl rfl rfl rfl .z rfl ?_
    iterate 3 refine St.p rfl rfl ?_
    refine St.done ?_
    refine St.thenN ?_
    refine St.prune (Γ' := [(2, _), (3, _), (4, _), (5, _)]) ⟨rfl, rfl, rfl, rfl, trivial⟩ (.k (.d .z)) ?_
    refine St.ret ?_
    repeat (first | refine St.thenR ?_ | refine St.blkR ?_)
    injection h with h
    subst h
    exact St.finR Tryd.results27 (.cell rfl (.head _) rfl (.tmp rfl (.tmp rfl (.tmp rfl .nil)))) rfl [] ⟨rfl, rfl⟩ (fun _ w => ((.d .z) : Keep _ _).sat w)
  · replace h := bif_f hb1 h
    refine St.seq ?_
    refine St.region ?_
    refine St.p rfl rfl ?_
    obtain ⟨x1, hx1, h⟩ := bnd_e h
    refine St.ixL hx1 rfl rfl rfl (.tail _ (.head _)) rfl rfl rfl rfl rfl fun b1 ob1 => ?_
    refine St.load ob1 0 rfl rfl (.head _) rfl rfl ?_
    refine St.p rfl rfl ?_
    refine St.p rfl rfl ?_
    refine St.done ?_
    refine St.thenN ?_
    refine St.prune (Γ' := [(0, _), (2, _), (12, _)]) ⟨rfl, rfl, rfl, trivial⟩ (.d (.k (.k .z))) ?_
    refine St.cond _ rfl (fun hb2 => ?_) (fun hb2 => ?_)
    · replace h := bif_t hb2 h
      refine St.seq ?_
      refine St.region ?_
      refine St.p rfl rfl ?_
      refine St.store 0 rfl rfl rfl rfl rfl rfl .z rfl ?_
      iterate 3 refine St.p rfl rfl ?_
      refine St.done ?_
      refine St.thenN ?_
      refine St.prune (Γ' := [(2, _), (3, _), (4, _), (5, _)]) ⟨rfl, rfl, rfl, rfl, trivial⟩ (.k (.d .z)) ?_
      refine St.ret ?_
      repeat (first | refine St.thenR ?_ | refine St.blkR ?_)
      injection h with h
      subst h
      exact St.finR Tryd.results27 (.cell rfl (.head _) rfl (.tmp rfl (.tmp rfl (.tmp rfl .nil)))) rfl [] ⟨rfl, rfl⟩ (fun _ w => ((.d .z) : Keep _ _).sat w)
    · replace h := bif_f hb2 h
      refine St.skip ?_
      refine St.blkN ?_
      refine St.thenN ?_
      refine St.prune (Γ' := [(0, _), (2, _)]) ⟨rfl, rfl, trivial⟩ (.k (.k .z)) ?_
      refine St.seq ?_
      refine St.region ?_
      refine St.p rfl rfl ?_
      refine St.ixL hx1 rfl rfl rfl (.tail _ (.head _)) rfl rfl rfl rfl rfl fun b2 ob2 => ?_
      refine St.load ob2 0 rfl rfl (.head _) rfl rfl ?_
      iterate 4 refine St.p rfl rfl ?_
      refine St.done ?_
      refine St.thenN ?_
      refine St.prune (Γ' := [(0, _), (2, _), (3, _)]) ⟨rfl, rfl, rfl, trivial⟩ (.d (.k (.k .z))) ?_
      refine St.seq ?_
      refine St.seq ?_
      refine St.region ?_
      iterate 4 refine St.p rfl rfl ?_
      refine St.done ?_
      refine St.thenN ?_
      refine St.prune (Γ' := [(0, _), (2, _), (3, _), (27, _)]) ⟨rfl, rfl, rfl, rfl, trivial⟩ (.k (.k .z)) ?_
      refine St.cond _ rfl (fun hb3 => ?_) (fun hb3 => ?_)
      · replace h := bif_t hb3 h
        refine St.seq ?_
        refine St.region ?_
        refine St.p rfl rfl ?_
        refine St.store 0 rfl rfl rfl rfl rfl rfl .z rfl ?_
        iterate 3 refine St.p rfl rfl ?_
        refine St.done ?_
        refine St.thenN ?_
        refine St.prune (Γ' := [(2, _), (3, _), (4, _), (5, _)]) ⟨rfl, rfl, rfl, rfl, trivial⟩ (.k (.d .z)) ?_
        refine St.ret ?_
        repeat (first | refine St.thenR ?_ | refine St.blkR ?_)
        injection h with h
        subst h
        exact St.finR Tryd.results27 (.cell rfl (.head _) rfl (.tmp rfl (.tmp rfl (.tmp rfl .nil)))) rfl [] ⟨rfl, rfl⟩ (fun _ w => ((.d .z) : Keep _ _).sat w)
      · replace h := bif_f hb3 h
        refine St.skip ?_
        refine St.thenN ?_
        refine St.prune (Γ' := [(0, _), (2, _), (3, _)]) ⟨rfl, rfl, rfl, trivial⟩ (.k (.k .z)) ?_
        refine St.seq ?_
        refine St.regionX (iL [(.fl, 0), (.fx, 1), (.fx, 2), (.fl, 3), (.fl, 4), (.fl, 5), (.fl, 6), (.fx, 7), (.fx, 8), (.fl, 9), (.ef, 10)] .nil) (.ro (SlL eu8 A1 c1 b_p0) :: R) mixed (by kernel_rfl) (fun _ w => ((.d (.k .z)) : Keep _ _).sat w) ?_
        refine St.xfl (fun _ h => h) (Rd.p rfl) rfl ?_
        obtain ⟨x2, hx2, h⟩ := bnd_e h
        refine St.openA (.tail _ (.head _)) hx2 fun b3 ob3 hqb3 => ?_
        refine St.asrt (fun _ w => Sat.addC hqb3 (.tail _ (.head _)) hx2 w) ?_
        have hc1 := fun w h => Sat.addC hqb3 (.head _) hx2 ((fun (w : World) (h : Sat (.ro (SlL eu8 A1 c1 b_p0) :: R) w) => h) w h)
        refine St.xfx (Rd.ixL (E := eu8) hqb3 hx2 rfl rfl rfl rfl rfl rfl rfl) rfl ?_
        refine St.xfx (Rd.load ob3 0 rfl (.head _) rfl rfl) rfl ?_
        refine St.xfl (fun _ h => h) (Rd.p rfl) rfl ?_
        refine St.xfl (fun _ h => h) (Rd.p rfl) rfl ?_
        refine St.xfl (fun _ h => h) (Rd.p rfl) rfl ?_
        refine St.xfl (fun _ h => h) (Rd.p rfl) rfl ?_
        obtain ⟨l1, hl1, h⟩ := bnd_e h
        refine St.openS (.tail _ (.tail _ (.head _))) hl1 fun A2 c2 hS1 => ?_
        have hc2 := fun w h => Sat.addS hS1 (.tail _ (.head _)) hl1 (hc1 w h)
        refine St.xfx (Rd.sub hS1 hl1 (.tail _ (.tail _ (.tail _ (.head _)))) rfl rfl rfl rfl rfl rfl rfl rfl) rfl ?_
        refine St.xfx (Rd.b2s (.head _) rfl rfl rfl rfl rfl rfl rfl rfl) rfl ?_
        refine St.xfl (fun _ h => h) (Rd.p rfl) rfl ?_
        refine St.xef ?_
        refine St.store 0 rfl rfl rfl rfl rfl rfl (.s (.s .z)) rfl ?_
        refine St.xk (fun _ w => ((.d (.d (.d (.k .z)))) : Keep _ _).sat w) ?_
        refine St.xdone ?_
        refine St.thenN ?_
        refine St.prune (Γ' := [(0, _), (2, _), (3, _)]) ⟨rfl, rfl, rfl, trivial⟩ (.k (.d (.d (.k .z)))) ?_
        refine St.seq ?_
        refine St.region ?_
        refine St.p rfl rfl ?_
        refine St.done ?_
        refine St.thenN ?_
        refine St.seq ?_
        obtain ⟨o1, hj1, h⟩ := bnd_e h
        refine St.cutE (fun (e1 : Unit) => [(2, .pointer (some ⟨g1, 0, none⟩)), (3, .int .i64 (IntKind.wrap .i64 (1 + (IntKind.wrap .i64 (iAnd .u8 x1 63))))), (6, .bool o1.1)]) (fun e1 => .res (Box g1 23 [.int .i64 (IntKind.wrap .i64 (iShr .u8 x2 6)), .string o1.2]) :: R) ?_ ?_
        · refine St.seq ?_
          refine St.region ?_
          refine St.p rfl rfl ?_
          refine St.loadB 0 rfl rfl (.head _) rfl rfl ?_
          refine St.done ?_
          refine St.thenN ?_
          refine St.prune (Γ' := [(0, _), (2, _), (3, _), (6, _), (40, _)]) ⟨rfl, rfl, rfl, rfl, rfl, trivial⟩ (.k (.k .z)) ?_
          refine St.block ?_
          refine St.seq ?_
          refine St.region ?_
          refine St.p rfl rfl ?_
          refine St.p rfl rfl ?_
          refine St.done ?_
          refine St.thenN ?_
          refine St.prune (Γ' := [(0, _), (2, _), (3, _), (6, _), (40, _), (41, _)]) ⟨rfl, rfl, rfl, rfl, rfl, rfl, trivial⟩ (.k (.k .z)) ?_
          refine St.cond _ rfl (fun hb4 => ?_) (fun hb4 => ?_)
          · replace hj1 := bif_t hb4 hj1
            refine St.region ?_
            refine St.p rfl rfl ?_
            refine St.p rfl rfl ?_
            obtain ⟨l2, hl2, hj1⟩ := bnd_e hj1
            refine St.sub (E := (cod eu8)) rfl rfl (.tail _ (.head _)) rfl rfl rfl rfl rfl rfl rfl hl2 fun A3 c3 => ?_
            obtain ⟨r1, hr1, hj1⟩ := bnd_e hj1
            refine St.callV (c_fields_decimal hr1) ent44 rfl rfl rfl rfl ⟨(.head _), trivial⟩ ?_
            iterate 4 refine St.p rfl rfl ?_
            refine St.store 1 rfl rfl rfl rfl rfl rfl (.s .z) rfl ?_
            refine St.p rfl rfl ?_
            refine St.done ?_
            refine St.blkN ?_
            injection hj1 with hj1
            subst hj1
            refine St.thenN ?_
            exact St.hereE () ⟨rfl, rfl, rfl, trivial⟩ (fun _ w => ((.k (.d (.d .z))) : Keep _ _).sat w)
          · replace hj1 := bif_f hb4 hj1
            refine St.seq ?_
            refine St.region ?_
            refine St.p rfl rfl ?_
            refine St.p rfl rfl ?_
            refine St.done ?_
            refine St.thenN ?_
            refine St.prune (Γ' := [(0, _), (2, _), (3, _), (6, _), (51, _)]) ⟨rfl, rfl, rfl, rfl, rfl, trivial⟩ (.k (.k .z)) ?_
            refine St.cond _ rfl (fun hb5 => ?_) (fun hb5 => ?_)
            · replace hj1 := bif_t hb5 hj1
              refine St.region ?_
              refine St.p rfl rfl ?_
              refine St.p rfl rfl ?_
              obtain ⟨l3, hl3, hj1⟩ := bnd_e hj1
              refine St.sub (E := (cod eu8)) rfl rfl (.tail _ (.head _)) rfl rfl rfl rfl rfl rfl rfl hl3 fun A4 c4 => ?_
              obtain ⟨r2, hr2, hj1⟩ := bnd_e hj1
              refine St.callV (c_fields_unpack hr2) ent45 rfl rfl rfl rfl ⟨(.head _), trivial⟩ ?_
              iterate 4 refine St.p rfl rfl ?_
              refine St.store 1 rfl rfl rfl rfl rfl rfl (.s .z) rfl ?_
              refine St.p rfl rfl ?_
              refine St.done ?_
              refine St.blkN ?_
              injection hj1 with hj1
              subst hj1
              refine St.thenN ?_
              exact St.hereE () ⟨rfl, rfl, rfl, trivial⟩ (fun _ w => ((.k (.d (.d .z))) : Keep _ _).sat w)
            · replace hj1 := bif_f hb5 hj1
              refine St.skip ?_
              refine St.blkN ?_
              injection hj1 with hj1
              subst hj1
              refine St.thenN ?_
              exact St.hereE () ⟨rfl, rfl, rfl, trivial⟩ (fun _ w => ((.k (.d .z)) : Keep _ _).sat w)
        · rintro e1
          refine St.seq ?_
          refine St.seq ?_
          refine St.region ?_
          refine St.p rfl rfl ?_
          refine St.p rfl rfl ?_
          refine St.done ?_
          refine St.thenN ?_
          refine St.prune (Γ' := [(2, _), (3, _), (62, _)]) ⟨rfl, rfl, rfl, trivial⟩ (.k .z) ?_
          refine St.cond _ rfl (fun hb6 => ?_) (fun hb6 => ?_)
          · replace h := bif_t hb6 h
            refine St.seq ?_
            refine St.region ?_
            refine St.p rfl rfl ?_
            refine St.store 0 rfl rfl rfl rfl rfl rfl .z rfl ?_
            iterate 3 refine St.p rfl rfl ?_
            refine St.done ?_
            refine St.thenN ?_
            refine St.prune (Γ' := [(2, _), (3, _), (4, _), (5, _)]) ⟨rfl, rfl, rfl, rfl, trivial⟩ (.k .z) ?_
            refine St.ret ?_
            repeat (first | refine St.thenR ?_ | refine St.blkR ?_)
            injection h with h
            subst h
            exact St.finR Tryd.results27 (.cell rfl (.head _) rfl (.tmp rfl (.tmp rfl (.tmp rfl .nil)))) rfl [] ⟨rfl, rfl⟩ (fun _ w => ((.d .z) : Keep _ _).sat w)
          · replace h := bif_f hb6 h
            refine St.skip ?_
            refine St.thenN ?_
            refine St.prune (Γ' := [(2, _), (3, _)]) ⟨rfl, rfl, trivial⟩ (.k .z) ?_
            refine St.seq ?_
            refine St.region ?_
            refine St.loadB 0 rfl rfl (.head _) rfl rfl ?_
            refine St.p rfl rfl ?_
            refine St.store 0 rfl rfl rfl rfl rfl rfl .z rfl ?_
            iterate 3 refine St.p rfl rfl ?_
            refine St.done ?_
            refine St.thenN ?_
            refine St.prune (Γ' := [(2, _), (3, _), (4, _), (5, _)]) ⟨rfl, rfl, rfl, rfl, trivial⟩ (.k .z) ?_
            refine St.ret ?_
            repeat (first | refine St.thenR ?_ | refine St.blkR ?_)
            injection h with h
            subst h
            exact St.finR Tryd.results27 (.cell rfl (.head _) rfl (.tmp rfl (.tmp rfl (.tmp rfl .nil)))) rfl [] ⟨rfl, rfl⟩ (fun _ w => ((.d .z) : Keep _ _).sat w)

theorem ent28 : Ent Tryd.prog 28 := ⟨_, Tryd.func28, by kernel_rfl, by kernel_rfl⟩

noncomputable def m_ref02_Decode (b_p0 : (List Int)) : Option (T_Field × Int × Bool × Int) :=
  bif ((b_p0.length : Int) == 0) then (some ((⟨0, ⟨#[]⟩⟩ : T_Field), 0, false, 4)) else (bnd (elt b_p0 0) fun x1 => bif (x1 == 193) then (some ((⟨0, ⟨#[]⟩⟩ : T_Field), 1, true, 0)) else (bif decide ((b_p0.length : Int) < (IntKind.wrap .i64 (1 + ((IntKind.wrap .i64 x1).tmod 64)))) then (some ((⟨0, ⟨#[]⟩⟩ : T_Field), 0, false, 4)) else (bif ((IntKind.wrap .i64 ((IntKind.wrap .i64 x1).tdiv 64)) == 1) then (bnd (loopM (τ := (T_Field × Int × Bool × Int) ⊕ List Int) (fun (s1 : List Int × Int) => bif decide (s1.2 < ((IntKind.wrap .i64 x1).tmod 64)) then (bnd (elt b_p0 (IntKind.wrap .i64 (1 + s1.2))) fun x2 => bnd ((bif decide ((IntKind.wrap .i64 ((IntKind.wrap .i64 x2).tdiv 16)) ≥ 13) then (some true) else (some (decide (((IntKind.wrap .i64 x2).tmod 16) ≥ 13))) : Option Bool)) fun o3 => bif o3 then (some (.done (.inl ((⟨0, ⟨#[]⟩⟩ : T_Field), 0, false, 6)))) else (bnd (eltS (⟨#[48, 49, 50, 51, 52, 53, 54, 55, 56, 57, 32, 45, 46]⟩) (IntKind.wrap .i64 ((IntKind.wrap .i64 x2).tdiv 16))) fun y1 => bnd (eltS (⟨#[48, 49, 50, 51, 52, 53, 54, 55, 56, 57, 32, 45, 46]⟩) ((IntKind.wrap .i64 x2).tmod 16)) fun y2 => bnd (app 1 s1.1 [y1, y2]) fun l1 => some (.next (l1, IntKind.wrap .i64 (s1.2 + 1))))) else (some (.done (.inr s1.1)))) ([], 0)) fun o1 => retOr o1 fun o2 => some ((⟨IntKind.wrap .i64 ((IntKind.wrap .i64 x1).tdiv 64), strOf o2⟩ : T_Field), IntKind.wrap .i64 (1 + ((IntKind.wrap .i64 x1).tmod 64)), false, 0)) else (bif ((IntKind.wrap .i64 ((IntKind.wrap .i64 x1).tdiv 64)) == 2) then (bnd (loopM (τ := (T_Field × Int × Bool × Int) ⊕ List Int) (fun (s2 : List Int × Int) => bif decide (s2.2 < (IntKind.wrap .i64 (8 * ((IntKind.wrap .i64 x1).tmod 64)))) then (bnd (elt b_p0 (IntKind.wrap .i64 (1 + (IntKind.wrap .i64 (s2.2.tdiv 8))))) fun x3 => bnd (shrM .i64 (IntKind.wrap .i64 x3) (IntKind.wrap .u64 (s2.2.tmod 8))) fun q1 => bif decide (s2.2 ≥ (IntKind.wrap .i64 (6 * (IntKind.wrap .i64 ((IntKind.wrap .i64 (8 * ((IntKind.wrap .i64 x1).tmod 64))).tdiv 6))))) then (bif ((q1.tmod 2) != 0) then (some (.done (.inl ((⟨0, ⟨#[]⟩⟩ : T_Field), 0, false, 6)))) else (some (.next (s2.1, IntKind.wrap .i64 (s2.2 + 1))))) else (bnd ((bif ((s2.2.tmod 6) == 0) then (bnd (app 1 s2.1 [32]) fun l2 => some l2) else (some s2.1) : Option (List Int))) fun o6 => bnd (elt o6 (IntKind.wrap .i64 (s2.2.tdiv 6))) fun x4 => bnd (shlM .i64 (q1.tmod 2) (IntKind.wrap .u64 (s2.2.tmod 6))) fun q2 => bnd (setE o6 (IntKind.wrap .i64 (s2.2.tdiv 6)) (IntKind.wrap .u8 (x4 + (IntKind.wrap .u8 q2)))) fun l3 => some (.next (l3, IntKind.wrap .i64 (s2.2 + 1))))) else (some (.done (.inr s2.1)))) ([], 0)) fun o4 => retOr o4 fun o5 => some ((⟨IntKind.wrap .i64 ((IntKind.wrap .i64 x1).tdiv 64), strOf o5⟩ : T_Field), IntKind.wrap .i64 (1 + ((IntKind.wrap .i64 x1).tmod 64)), false, 0)) else (bnd (loopM (τ := List Int) (fun (s3 : List Int × Int) => bif decide (s3.2 < ((IntKind.wrap .i64 x1).tmod 64)) then (bnd (elt b_p0 (IntKind.wrap .i64 (1 + s3.2))) fun x5 => bnd (app 1 s3.1 [x5]) fun l4 => some (.next (l4, IntKind.wrap .i64 (s3.2 + 1)))) else (some (.done s3.1))) ([], 0)) fun o7 => some ((⟨IntKind.wrap .i64 ((IntKind.wrap .i64 x1).tdiv 64), strOf o7⟩ : T_Field), IntKind.wrap .i64 (1 + ((IntKind.wrap .i64 x1).tmod 64)), false, 0))))))

set_option maxHeartbeats 4000000 in
theorem c_ref02_Decode {b_p0 : (List Int)} {A1 : Option Addr} {c1 : Nat} {r : (T_Field × Int × Bool × Int)} (h : m_ref02_Decode b_p0 = some r) :
    Fun Tryd.prog 28 [.slice A1 b_p0.length c1] [.ro (SlL eu8 A1 c1 b_p0)] (Val (.tuple #[.agg #[.int .i64 r.1.Kind, .string r.1.Value], .int .i64 r.2.1, .bool r.2.2.1, .int .i64 r.2.2.2])) := by
  unfold m_ref02_Decode at h
  refine Fun.intro Tryd.func28 rfl rfl rfl fun w R => ?_
  refine St.seq ?_
  refine St.region ?_
  refine St.alloc rfl rfl fun g1 => ?_
  iterate 3 refine St.p rfl rfl ?_
  refine St.done ?_
  refine St.thenN ?_
  refine St.prune (Γ' := [(0, _), (2, _)]) ⟨rfl, rfl, trivial⟩ (.k (.k .z)) ?_
  refine St.seq ?_
  refine St.seq ?_
  refine St.region ?_
  iterate 3 refine St.p rfl rfl ?_
  refine St.done ?_
  refine St.thenN ?_
  refine St.prune (Γ' := [(0, _), (2, _), (19, _)]) ⟨rfl, rfl, rfl, trivial⟩ (.k (.k .z)) ?_
  refine St.cond _ rfl (fun hb1 => ?_) (fun hb1 => ?_)
  · replace h := bif_t hb1 h
    refine St.seq ?_
    refine St.region ?_
    refine St.p rfl rfl ?_
    refine St.store 0 rfl rfl rfl rfl rfl rfl .z rfl ?_
    iterate 3 refine St.p rfl rfl ?_
    refine St.done ?_
    refine St.thenN ?_
    refine St.prune (Γ' := [(2, _), (3, _), (4, _), (5, _)]) ⟨rfl, rfl, rfl, rfl, trivial⟩ (.k (.d .z)) ?_
    refine St.ret ?_
    repeat (first | refine St.thenR ?_ | refine St.blkR ?_)
    injection h with h
    subst h
    exact St.finR Tryd.results28 (.cell rfl (.head _) rfl (.tmp rfl (.tmp rfl (.tmp rfl .nil)))) rfl [] ⟨rfl, rfl⟩ (fun _ w => ((.d .z) : Keep _ _).sat w)
  · replace h := bif_f hb1 h
    refine St.skip ?_
    refine St.thenN ?_
    refine St.prune (Γ' := [(0, _), (2, _)]) ⟨rfl, rfl, trivial⟩ (.k (.k .z)) ?_
    refine St.seq ?_
    refine St.seq ?_
    refine St.region ?_
    refine St.p rfl rfl ?_
    obtain ⟨x1, hx1, h⟩ := bnd_e h
    refine St.ixL hx1 rfl rfl rfl (.tail _ (.head _)) rfl rfl rfl rfl rfl fun b1 ob1 => ?_
    refine St.load ob1 0 rfl rfl (.head _) rfl rfl ?_
    refine St.p rfl rfl ?_
    refine St.done ?_
    refine St.thenN ?_
    refine St.prune (Γ' := [(0, _), (2, _), (24, _)]) ⟨rfl, rfl, rfl, trivial⟩ (.d (.k (.k .z))) ?_
    refine St.cond _ rfl (fun hb2 => ?_) (fun hb2 => ?_)
    · replace h := bif_t hb2 h
      refine St.seq ?_
      refine St.region ?_
      refine St.p rfl rfl ?_
      refine St.store 0 rfl rfl rfl rfl rfl rfl .z rfl ?_
      iterate 3 refine St.p rfl rfl ?_
      refine St.done ?_
      refine St.thenN ?_
      refine St.prune (Γ' := [(2, _), (3, _), (4, _), (5, _)]) ⟨rfl, rfl, rfl, rfl, trivial⟩ (.k (.d .z)) ?_
      refine St.ret ?_
      repeat (first | refine St.thenR ?_ | refine St.blkR ?_)
      injection h with h
      subst h
      exact St.finR Tryd.results28 (.cell rfl (.head _) rfl (.tmp rfl (.tmp rfl (.tmp rfl .nil)))) rfl [] ⟨rfl, rfl⟩ (fun _ w => ((.d .z) : Keep _ _).sat w)
    · replace h := bif_f hb2 h
      refine St.skip ?_
      refine St.thenN ?_
      refine St.prune (Γ' := [(0, _), (2, _)]) ⟨rfl, rfl, trivial⟩ (.k (.k .z)) ?_
      refine St.seq ?_
      refine St.region ?_
      refine St.p rfl rfl ?_
      refine St.ixL hx1 rfl rfl rfl (.tail _ (.head _)) rfl rfl rfl rfl rfl fun b2 ob2 => ?_
      refine St.load ob2 0 rfl rfl (.head _) rfl rfl ?_
      iterate 3 refine St.p rfl rfl ?_
      refine St.done ?_
      refine St.thenN ?_
      refine St.prune (Γ' := [(0, _), (2, _), (6, _)]) ⟨rfl, rfl, rfl, trivial⟩ (.d (.k (.k .z))) ?_
      refine St.seq ?_
      refine St.region ?_
      refine St.p rfl rfl ?_
      refine St.ixL hx1 rfl rfl rfl (.tail _ (.head _)) rfl rfl rfl rfl rfl fun b3 ob3 => ?_
      refine St.load ob3 0 rfl rfl (.head _) rfl rfl ?_
      iterate 3 refine St.p rfl rfl ?_
      refine St.done ?_
      refine St.thenN ?_
      refine St.prune (Γ' := [(0, _), (2, _), (6, _), (7, _)]) ⟨rfl, rfl, rfl, rfl, trivial⟩ (.d (.k (.k .z))) ?_
      refine St.seq ?_
      refine St.seq ?_
      refine St.region ?_
      iterate 5 refine St.p rfl rfl ?_
      refine St.done ?_
      refine St.thenN ?_
      refine St.prune (Γ' := [(0, _), (2, _), (6, _), (7, _), (40, _)]) ⟨rfl, rfl, rfl, rfl, rfl, trivial⟩ (.k (.k .z)) ?_
      refine St.cond _ rfl (fun hb3 => ?_) (fun hb3 => ?_)
      · replace h := bif_t hb3 h
        refine St.seq ?_
        refine St.region ?_
        refine St.p rfl rfl ?_
        refine St.store 0 rfl rfl rfl rfl rfl rfl .z rfl ?_
        iterate 3 refine St.p rfl rfl ?_
        refine St.done ?_
        refine St.thenN ?_
        refine St.prune (Γ' := [(2, _), (3, _), (4, _), (5, _)]) ⟨rfl, rfl, rfl, rfl, trivial⟩ (.k (.d .z)) ?_
        refine St.ret ?_
        repeat (first | refine St.thenR ?_ | refine St.blkR ?_)
        injection h with h
        subst h
        exact St.finR Tryd.results28 (.cell rfl (.head _) rfl (.tmp rfl (.tmp rfl (.tmp rfl .nil)))) rfl [] ⟨rfl, rfl⟩ (fun _ w => ((.d .z) : Keep _ _).sat w)
      · replace h := bif_f hb3 h
        refine St.skip ?_
        refine St.thenN ?_
        refine St.prune (Γ' := [(0, _), (2, _), (6, _), (7, _)]) ⟨rfl, rfl, rfl, rfl, trivial⟩ (.k (.k .z)) ?_
        refine St.seq ?_
        refine St.region ?_
        refine St.p rfl rfl ?_
        refine St.done ?_
        refine St.thenN ?_
        refine St.seq ?_
        refine St.seq ?_
        refine St.region ?_
        refine St.p rfl rfl ?_
        refine St.done ?_
        refine St.thenN ?_
        refine St.block ?_
        refine St.seq ?_
        refine St.region ?_
        refine St.p rfl rfl ?_
        refine St.p rfl rfl ?_
        refine St.done ?_
        refine St.thenN ?_
        refine St.prune (Γ' := [(0, _), (2, _), (6, _), (7, _), (8, _), (42, _), (56, _)]) ⟨rfl, rfl, rfl, rfl, rfl, rfl, rfl, trivial⟩ (.k (.k .z)) ?_
        refine St.cond _ rfl (fun hb4 => ?_) (fun hb4 => ?_)
        · replace h := bif_t hb4 h
          refine St.seq ?_
          refine St.region ?_
          refine St.p rfl rfl ?_
          refine St.done ?_
          refine St.thenN ?_
          refine St.prune (Γ' := [(0, _), (2, _), (6, _), (7, _), (8, _), (9, _)]) ⟨rfl, rfl, rfl, rfl, rfl, rfl, trivial⟩ (.k (.k .z)) ?_
          refine St.seq ?_
          refine St.region ?_
          refine St.p rfl rfl ?_
          refine St.done ?_
          refine St.thenN ?_
          refine St.asrt (fun _ w => w.nilL eu8 5) ?_
          obtain ⟨o1, hl1, h⟩ := bnd_e h
          refine St.selfThen ?_
          refine St.cutI (fun (o2 : List Int) (e2 : Option Addr × Nat) => [(2, .pointer (some ⟨g1, 0, none⟩)), (6, .int .i64 (IntKind.wrap .i64 ((IntKind.wrap .i64 x1).tdiv 64))), (7, .int .i64 ((IntKind.wrap .i64 x1).tmod 64)), (8, .slice e2.1 o2.length e2.2)]) (fun o2 e2 => .res (OwnL eu8 5 e2.1 e2.2 o2) :: .res (Box g1 23 [.int .i64 0, .string (⟨#[]⟩)]) :: R) (fun o2 => o1 = .inr o2) ?_ ?_
          · refine St.block ?_
            refine St.loop hl1 (fun (s1 : List Int × Int) (e1 : Option Addr × Nat) => [(0, .slice A1 b_p0.length c1), (2, .pointer (some ⟨g1, 0, none⟩)), (6, .int .i64 (IntKind.wrap .i64 ((IntKind.wrap .i64 x1).tdiv 64))), (7, .int .i64 ((IntKind.wrap .i64 x1).tmod 64)), (8, .slice e1.1 s1.1.length e1.2), (9, .string (⟨#[48, 49, 50, 51, 52, 53, 54, 55, 56, 57, 32, 45, 46]⟩)), (10, .int .i64 s1.2)]) (fun s1 e1 => .res (OwnL eu8 5 e1.1 e1.2 s1.1) :: .res (Box g1 23 [.int .i64 0, .string (⟨#[]⟩)]) :: .ro (SlL eu8 A1 c1 b_p0) :: R) (fun _ _ => True) (none, 0) trivial ⟨rfl, rfl, rfl, rfl, rfl, rfl, rfl, trivial⟩ (fun _ w => ((.k (.k (.k .z))) : Keep _ _).sat w) ?_
            rintro s1 ⟨A2, c2⟩ - hit1
            obtain ⟨st1, hm1, hd1⟩ := iter_e hit1
            have h1 := hm1
            refine St.seq ?_
            refine St.seq ?_
            refine St.region ?_
            iterate 3 refine St.p rfl rfl ?_
            refine St.done ?_
            refine St.thenN ?_
            refine St.prune (Γ' := [(0, _), (2, _), (6, _), (7, _), (8, _), (9, _), (10, _), (60, _)]) ⟨rfl, rfl, rfl, rfl, rfl, rfl, rfl, rfl, trivial⟩ (.k (.k (.k .z))) ?_
            refine St.cond _ rfl (fun hb5 => ?_) (fun hb5 => ?_)
            · replace h1 := bif_t hb5 h1
              refine St.skip ?_
              refine St.thenN ?_
              refine St.prune (Γ' := [(0, _), (2, _), (6, _), (7, _), (8, _), (9, _), (10, _)]) ⟨rfl, rfl, rfl, rfl, rfl, rfl, rfl, trivial⟩ (.k (.k (.k .z))) ?_
              refine St.seq ?_
              refine St.block ?_
              refine St.seq ?_
              refine St.region ?_
              iterate 3 refine St.p rfl rfl ?_
              obtain ⟨x2, hx2, h1⟩ := bnd_e h1
              refine St.ixL hx2 rfl rfl rfl (.tail _ (.tail _ (.head _))) rfl rfl rfl rfl rfl fun b4 ob4 => ?_
              refine St.load ob4 0 rfl rfl (.head _) rfl rfl ?_
              iterate 3 refine St.p rfl rfl ?_
              refine St.done ?_
              refine St.thenN ?_
              refine St.prune (Γ' := [(0, _), (2, _), (6, _), (7, _), (8, _), (9, _), (10, _), (11, _)]) ⟨rfl, rfl, rfl, rfl, rfl, rfl, rfl, rfl, trivial⟩ (.d (.k (.k (.k .z)))) ?_
              refine St.seq ?_
              refine St.region ?_
              iterate 3 refine St.p rfl rfl ?_
              refine St.ixL hx2 rfl rfl rfl (.tail _ (.tail _ (.head _))) rfl rfl rfl rfl rfl fun b5 ob5 => ?_
              refine St.load ob5 0 rfl rfl (.head _) rfl rfl ?_
              iterate 3 refine St.p rfl rfl ?_
              refine St.done ?_
              refine St.thenN ?_
              refine St.prune (Γ' := [(0, _), (2, _), (6, _), (7, _), (8, _), (9, _), (10, _), (11, _), (12, _)]) ⟨rfl, rfl, rfl, rfl, rfl, rfl, rfl, rfl, rfl, trivial⟩ (.d (.k (.k (.k .z)))) ?_
              refine St.seq ?_
              refine St.seq ?_
              obtain ⟨o3, hj1, h1⟩ := bnd_e h1
              refine St.cutE (fun (e3 : Unit) => [(0, .slice A1 b_p0.length c1), (2, .pointer (some ⟨g1, 0, none⟩)), (6, .int .i64 (IntKind.wrap .i64 ((IntKind.wrap .i64 x1).tdiv 64))), (7, .int .i64 ((IntKind.wrap .i64 x1).tmod 64)), (8, .slice A2 s1.1.length c2), (9, .string (⟨#[48, 49, 50, 51, 52, 53, 54, 55, 56, 57, 32, 45, 46]⟩)), (10, .int .i64 s1.2), (11, .int .i64 (IntKind.wrap .i64 ((IntKind.wrap .i64 x2).tdiv 16))), (12, .int .i64 ((IntKind.wrap .i64 x2).tmod 16)), (82, .bool o3)]) (fun e3 => .res (OwnL eu8 5 A2 c2 s1.1) :: .res (Box g1 23 [.int .i64 0, .string (⟨#[]⟩)]) :: .ro (SlL eu8 A1 c1 b_p0) :: R) ?_ ?_
              · refine St.region ?_
                iterate 3 refine St.p rfl rfl ?_
                refine St.gSplit (dj := 79) _ rfl (fun hb6 => ?_) (fun hb6 => ?_)
                · replace hj1 := bif_t hb6 hj1
                  refine St.gOff (dj := 79) rfl rfl rfl rfl ?_
                  refine St.gOff (dj := 79) rfl rfl rfl rfl ?_
                  refine St.p rfl rfl ?_
                  refine St.done ?_
                  injection hj1 with hj1
                  subst hj1
                  refine St.thenN ?_
                  exact St.hereE () ⟨rfl, rfl, rfl, rfl, rfl, rfl, rfl, rfl, rfl, rfl, trivial⟩ (fun _ w => ((.k (.k (.k .z))) : Keep _ _).sat w)
                · replace hj1 := bif_f hb6 hj1
                  refine St.gOn (dj := 79) rfl rfl ?_
                  refine St.p rfl rfl ?_
                  refine St.gOn (dj := 79) rfl rfl ?_
                  refine St.p rfl rfl ?_
                  refine St.p rfl rfl ?_
                  refine St.done ?_
                  injection hj1 with hj1
                  subst hj1
                  refine St.thenN ?_
                  exact St.hereE () ⟨rfl, rfl, rfl, rfl, rfl, rfl, rfl, rfl, rfl, rfl, trivial⟩ (fun _ w => ((.k (.k (.k .z))) : Keep _ _).sat w)
              · rintro e3
                refine St.cond _ rfl (fun hb7 => ?_) (fun hb7 => ?_)
                · replace h1 := bif_t hb7 h1
                  refine St.seq ?_
                  refine St.region ?_
                  refine St.p rfl rfl ?_
                  refine St.store 0 rfl rfl rfl rfl rfl rfl (.s .z) rfl ?_
                  iterate 3 refine St.p rfl rfl ?_
                  refine St.done ?_
                  refine St.thenN ?_
                  refine St.prune (Γ' := [(2, _), (3, _), (4, _), (5, _)]) ⟨rfl, rfl, rfl, rfl, trivial⟩ (.k (.d (.d .z))) ?_
                  refine St.ret ?_
                  repeat (first | refine St.thenR ?_ | refine St.blkR ?_)
                  injection h1 with h1
                  subst h1
                  have ho := hd1 _ rfl
                  subst ho
                  have h : some _ = some _ := h
                  injection h with h
                  subst h
                  exact St.finR Tryd.results28 (.cell rfl (.head _) rfl (.tmp rfl (.tmp rfl (.tmp rfl .nil)))) rfl [] ⟨rfl, rfl⟩ (fun _ w => ((.d .z) : Keep _ _).sat w)
                · replace h1 := bif_f hb7 h1
                  refine St.skip ?_
                  refine St.thenN ?_
                  refine St.prune (Γ' := [(0, _), (2, _), (6, _), (7, _), (8, _), (9, _), (10, _), (11, _), (12, _)]) ⟨rfl, rfl, rfl, rfl, rfl, rfl, rfl, rfl, rfl, trivial⟩ (.k (.k (.k .z))) ?_
                  refine St.regionX (iL [(.fl, 0), (.fl, 1), (.fl, 2), (.fx, 3), (.fl, 4), (.fl, 5), (.fx, 6), (.ef, 7), (.ef, 8), (.fl, 9)] .nil) (.res (Box g1 23 [.int .i64 0, .string (⟨#[]⟩)]) :: .ro (SlL eu8 A1 c1 b_p0) :: R) mixed (by kernel_rfl) (fun _ w => ((.d (.k (.k .z))) : Keep _ _).sat w) ?_
                  refine St.xfl (fun _ h => h) (Rd.p rfl) rfl ?_
                  refine St.xfl (fun _ h => h) (Rd.p rfl) rfl ?_
                  refine St.xfl (fun _ h => h) (Rd.p rfl) rfl ?_
                  obtain ⟨y1, hy1, h1⟩ := bnd_e h1
                  refine St.xfx (Rd.eltS hy1 rfl rfl rfl rfl) rfl ?_
                  refine St.xfl (fun _ h => h) (Rd.p rfl) rfl ?_
                  refine St.xfl (fun _ h => h) (Rd.p rfl) rfl ?_
                  obtain ⟨y2, hy2, h1⟩ := bnd_e h1
                  refine St.xfx (Rd.eltS hy2 rfl rfl rfl rfl) rfl ?_
                  refine St.xef ?_
                  refine St.buildSlice rfl rfl rfl rfl rfl rfl rfl rfl fun g2 => ?_
                  refine St.xk (fun _ w => ((.d (.d (.k (.k .z)))) : Keep _ _).sat w) ?_
                  refine St.xef ?_
                  obtain ⟨l1, hl1, h1⟩ := bnd_e h1
                  refine St.app (E := eu8) hl1 rfl rfl rfl (.s .z) rfl rfl rfl rfl rfl rfl rfl rfl (srcB (.head _) rfl rfl) rfl rfl fun A4 c4 => ?_
                  refine St.xk (fun _ w => ((.d (.d (.k (.k .z)))) : Keep _ _).sat w) ?_
                  refine St.xfl (fun _ h => h) (Rd.p rfl) rfl ?_
                  refine St.xdone ?_
                  refine St.blkN ?_
                  refine St.thenN ?_
                  refine St.prune (Γ' := [(0, _), (2, _), (6, _), (7, _), (8, _), (9, _), (10, _)]) ⟨rfl, rfl, rfl, rfl, rfl, rfl, rfl, trivial⟩ (.k (.d (.k (.k .z)))) ?_
                  refine St.region ?_
                  iterate 3 refine St.p rfl rfl ?_
                  refine St.done ?_
                  injection h1 with h1
                  subst h1
                  refine St.thenN ?_
                  exact St.again _ (A4, c4) hm1 trivial ⟨rfl, rfl, rfl, rfl, rfl, rfl, rfl, trivial⟩ (fun _ w => ((.k (.k (.k .z))) : Keep _ _).sat w)
            · replace h1 := bif_f hb5 h1
              refine St.exit ?_
              repeat (first | refine St.thenX ?_ | refine St.blkMiss rfl ?_)
              refine St.blkHit ?_
              injection h1 with h1
              subst h1
              have ho := hd1 _ rfl
              subst ho
              refine St.thenN ?_
              exact St.hereI s1.1 (A2, c2) rfl ⟨rfl, rfl, rfl, rfl, trivial⟩ (fun _ w => ((.k (.k (.d .z))) : Keep _ _).sat w)
          · rintro o2 ⟨A3, c3⟩ ho
            subst ho
            have h : _ = some _ := h
            refine St.blkN ?_
            refine St.thenN ?_
            refine St.seq ?_
            refine St.region ?_
            refine St.p rfl rfl ?_
            refine St.p rfl rfl ?_
            refine St.asrt (fun _ w => (w.front .z).meltL) ?_
            refine St.b2s rfl rfl rfl rfl rfl rfl rfl rfl rfl (srcL (E := eu8) (.head _)) ?_
            iterate 3 refine St.p rfl rfl ?_
            refine St.store 0 rfl rfl rfl rfl rfl rfl (.s .z) rfl ?_
            iterate 3 refine St.p rfl rfl ?_
            refine St.done ?_
            refine St.thenN ?_
            refine St.prune (Γ' := [(2, _), (3, _), (4, _), (5, _)]) ⟨rfl, rfl, rfl, rfl, trivial⟩ (.k (.d .z)) ?_
            refine St.ret ?_
            repeat (first | refine St.thenR ?_ | refine St.blkR ?_)
            injection h with h
            subst h
            exact St.finR Tryd.results28 (.cell rfl (.head _) rfl (.tmp rfl (.tmp rfl (.tmp rfl .nil)))) rfl [] ⟨rfl, rfl⟩ (fun _ w => ((.d .z) : Keep _ _).sat w)
        · replace h := bif_f hb4 h
          refine St.seq ?_
          refine St.region ?_
          refine St.p rfl rfl ?_
          refine St.p rfl rfl ?_
          refine St.done ?_
          refine St.thenN ?_
          refine St.prune (Γ' := [(0, _), (2, _), (6, _), (7, _), (8, _), (93, _)]) ⟨rfl, rfl, rfl, rfl, rfl, rfl, trivial⟩ (.k (.k .z)) ?_
          refine St.cond _ rfl (fun hb8 => ?_) (fun hb8 => ?_)
          · replace h := bif_t hb8 h
            refine St.seq ?_
            refine St.region ?_
            iterate 4 refine St.p rfl rfl ?_
            refine St.done ?_
            refine St.thenN ?_
            refine St.prune (Γ' := [(0, _), (2, _), (6, _), (7, _), (8, _), (13, _)]) ⟨rfl, rfl, rfl, rfl, rfl, rfl, trivial⟩ (.k (.k .z)) ?_
            refine St.seq ?_
            refine St.region ?_
            refine St.p rfl rfl ?_
            refine St.done ?_
            refine St.thenN ?_
            refine St.asrt (fun _ w => w.nilL eu8 5) ?_
            obtain ⟨o4, hl2, h⟩ := bnd_e h
            refine St.selfThen ?_
            refine St.cutI (fun (o5 : List Int) (e5 : Option Addr × Nat) => [(2, .pointer (some ⟨g1, 0, none⟩)), (6, .int .i64 (IntKind.wrap .i64 ((IntKind.wrap .i64 x1).tdiv 64))), (7, .int .i64 ((IntKind.wrap .i64 x1).tmod 64)), (8, .slice e5.1 o5.length e5.2)]) (fun o5 e5 => .res (OwnL eu8 5 e5.1 e5.2 o5) :: .res (Box g1 23 [.int .i64 0, .string (⟨#[]⟩)]) :: R) (fun o5 => o4 = .inr o5) ?_ ?_
            · refine St.block ?_
              refine St.loop hl2 (fun (s2 : List Int × Int) (e4 : Option Addr × Nat) => [(0, .slice A1 b_p0.length c1), (2, .pointer (some ⟨g1, 0, none⟩)), (6, .int .i64 (IntKind.wrap .i64 ((IntKind.wrap .i64 x1).tdiv 64))), (7, .int .i64 ((IntKind.wrap .i64 x1).tmod 64)), (8, .slice e4.1 s2.1.length e4.2), (13, .int .i64 (IntKind.wrap .i64 ((IntKind.wrap .i64 (8 * ((IntKind.wrap .i64 x1).tmod 64))).tdiv 6))), (14, .int .i64 s2.2)]) (fun s2 e4 => .res (OwnL eu8 5 e4.1 e4.2 s2.1) :: .res (Box g1 23 [.int .i64 0, .string (⟨#[]⟩)]) :: .ro (SlL eu8 A1 c1 b_p0) :: R) (fun _ _ => True) (none, 0) trivial ⟨rfl, rfl, rfl, rfl, rfl, rfl, rfl, trivial⟩ (fun _ w => ((.k (.k (.k .z))) : Keep _ _).sat w) ?_
              rintro s2 ⟨A5, c5⟩ - hit2
              obtain ⟨st2, hm2, hd2⟩ := iter_e hit2
              have h2 := hm2
              refine St.seq ?_
              refine St.seq ?_
              refine St.region ?_
              iterate 4 refine St.p rfl rfl ?_
              refine St.done ?_
              refine St.thenN ?_
              refine St.prune (Γ' := [(0, _), (2, _), (6, _), (7, _), (8, _), (13, _), (14, _), (101, _)]) ⟨rfl, rfl, rfl, rfl, rfl, rfl, rfl, rfl, trivial⟩ (.k (.k (.k .z))) ?_
              refine St.cond _ rfl (fun hb9 => ?_) (fun hb9 => ?_)
              · replace h2 := bif_t hb9 h2
                refine St.skip ?_
                refine St.thenN ?_
                refine St.prune (Γ' := [(0, _), (2, _), (6, _), (7, _), (8, _), (13, _), (14, _)]) ⟨rfl, rfl, rfl, rfl, rfl, rfl, rfl, trivial⟩ (.k (.k (.k .z))) ?_
                refine St.seq ?_
                refine St.block ?_
                refine St.seq ?_
                refine St.region ?_
                iterate 4 refine St.p rfl rfl ?_
                obtain ⟨x3, hx3, h2⟩ := bnd_e h2
                refine St.ixL hx3 rfl rfl rfl (.tail _ (.tail _ (.head _))) rfl rfl rfl rfl rfl fun b6 ob6 => ?_
                refine St.load ob6 0 rfl rfl (.head _) rfl rfl ?_
                iterate 4 refine St.p rfl rfl ?_
                obtain ⟨q1, hq1, h2⟩ := bnd_e h2
                refine St.shr rfl rfl rfl hq1 ?_
                refine St.p rfl rfl ?_
                refine St.p rfl rfl ?_
                refine St.done ?_
                refine St.thenN ?_
                refine St.prune (Γ' := [(0, _), (2, _), (6, _), (7, _), (8, _), (13, _), (14, _), (15, _)]) ⟨rfl, rfl, rfl, rfl, rfl, rfl, rfl, rfl, trivial⟩ (.d (.k (.k (.k .z)))) ?_
                refine St.seq ?_
                refine St.seq ?_
                refine St.region ?_
                iterate 4 refine St.p rfl rfl ?_
                refine St.done ?_
                refine St.thenN ?_
                refine St.prune (Γ' := [(0, _), (2, _), (6, _), (7, _), (8, _), (13, _), (14, _), (15, _), (119, _)]) ⟨rfl, rfl, rfl, rfl, rfl, rfl, rfl, rfl, rfl, trivial⟩ (.k (.k (.k .z))) ?_
                refine St.cond _ rfl (fun hb10 => ?_) (fun hb10 => ?_)
                · replace h2 := bif_t hb10 h2
                  refine St.seq ?_
                  refine St.seq ?_
                  refine St.region ?_
                  refine St.p rfl rfl ?_
                  refine St.p rfl rfl ?_
                  refine St.done ?_
                  refine St.thenN ?_
                  refine St.prune (Γ' := [(0, _), (2, _), (6, _), (7, _), (8, _), (13, _), (14, _), (121, _)]) ⟨rfl, rfl, rfl, rfl, rfl, rfl, rfl, rfl, trivial⟩ (.k (.k (.k .z))) ?_
                  refine St.cond _ rfl (fun hb11 => ?_) (fun hb11 => ?_)
                  · replace h2 := bif_t hb11 h2
                    refine St.seq ?_
                    refine St.region ?_
                    refine St.p rfl rfl ?_
                    refine St.store 0 rfl rfl rfl rfl rfl rfl (.s .z) rfl ?_
                    iterate 3 refine St.p rfl rfl ?_
                    refine St.done ?_
                    refine St.thenN ?_
                    refine St.prune (Γ' := [(2, _), (3, _), (4, _), (5, _)]) ⟨rfl, rfl, rfl, rfl, trivial⟩ (.k (.d (.d .z))) ?_
                    refine St.ret ?_
                    repeat (first | refine St.thenR ?_ | refine St.blkR ?_)
                    injection h2 with h2
                    subst h2
                    have ho := hd2 _ rfl
                    subst ho
                    have h : some _ = some _ := h
                    injection h with h
                    subst h
                    exact St.finR Tryd.results28 (.cell rfl (.head _) rfl (.tmp rfl (.tmp rfl (.tmp rfl .nil)))) rfl [] ⟨rfl, rfl⟩ (fun _ w => ((.d .z) : Keep _ _).sat w)
                  · replace h2 := bif_f hb11 h2
                    refine St.skip ?_
                    refine St.thenN ?_
                    refine St.prune (Γ' := [(0, _), (2, _), (6, _), (7, _), (8, _), (13, _), (14, _)]) ⟨rfl, rfl, rfl, rfl, rfl, rfl, rfl, trivial⟩ (.k (.k (.k .z))) ?_
                    refine St.exit ?_
                    repeat (first | refine St.thenX ?_ | refine St.blkMiss rfl ?_)
                    refine St.blkHit ?_
                    refine St.thenN ?_
                    refine St.region ?_
                    iterate 3 refine St.p rfl rfl ?_
                    refine St.done ?_
                    injection h2 with h2
                    subst h2
                    refine St.thenN ?_
                    exact St.again _ (A5, c5) hm2 trivial ⟨rfl, rfl, rfl, rfl, rfl, rfl, rfl, trivial⟩ (fun _ w => ((.k (.k (.k .z))) : Keep _ _).sat w)
                · replace h2 := bif_f hb10 h2
                  refine St.skip ?_
                  refine St.thenN ?_
                  refine St.prune (Γ' := [(0, _), (2, _), (6, _), (7, _), (8, _), (13, _), (14, _), (15, _)]) ⟨rfl, rfl, rfl, rfl, rfl, rfl, rfl, rfl, trivial⟩ (.k (.k (.k .z))) ?_
                  refine St.seq ?_
                  obtain ⟨o6, hj2, h2⟩ := bnd_e h2
                  refine St.cutE (fun (e6 : Option Addr × Nat) => [(0, .slice A1 b_p0.length c1), (2, .pointer (some ⟨g1, 0, none⟩)), (6, .int .i64 (IntKind.wrap .i64 ((IntKind.wrap .i64 x1).tdiv 64))), (7, .int .i64 ((IntKind.wrap .i64 x1).tmod 64)), (8, .slice e6.1 o6.length e6.2), (13, .int .i64 (IntKind.wrap .i64 ((IntKind.wrap .i64 (8 * ((IntKind.wrap .i64 x1).tmod 64))).tdiv 6))), (14, .int .i64 s2.2), (15, .int .i64 (q1.tmod 2))]) (fun e6 => .res (OwnL eu8 5 e6.1 e6.2 o6) :: .res (Box g1 23 [.int .i64 0, .string (⟨#[]⟩)]) :: .ro (SlL eu8 A1 c1 b_p0) :: R) ?_ ?_
                  · refine St.seq ?_
                    refine St.region ?_
                    iterate 3 refine St.p rfl rfl ?_
                    refine St.done ?_
                    refine St.thenN ?_
                    refine St.prune (Γ' := [(0, _), (2, _), (6, _), (7, _), (8, _), (13, _), (14, _), (15, _), (125, _)]) ⟨rfl, rfl, rfl, rfl, rfl, rfl, rfl, rfl, rfl, trivial⟩ (.k (.k (.k .z))) ?_
                    refine St.cond _ rfl (fun hb12 => ?_) (fun hb12 => ?_)
                    · replace hj2 := bif_t hb12 hj2
                      refine St.region ?_
                      refine St.p rfl rfl ?_
                      refine St.buildSlice rfl rfl rfl rfl rfl rfl rfl rfl fun g3 => ?_
                      obtain ⟨l2, hl2, hj2⟩ := bnd_e hj2
                      refine St.app (E := eu8) hl2 rfl rfl rfl (.s .z) rfl rfl rfl rfl rfl rfl rfl rfl (srcB (.head _) rfl rfl) rfl rfl fun A8 c8 => ?_
                      refine St.p rfl rfl ?_
                      refine St.done ?_
                      injection hj2 with hj2
                      subst hj2
                      refine St.thenN ?_
                      exact St.hereE (A8, c8) ⟨rfl, rfl, rfl, rfl, rfl, rfl, rfl, rfl, trivial⟩ (fun _ w => ((.k (.d (.k (.k .z)))) : Keep _ _).sat w)
                    · replace hj2 := bif_f hb12 hj2
                      refine St.skip ?_
                      injection hj2 with hj2
                      subst hj2
                      refine St.thenN ?_
                      exact St.hereE (A5, c5) ⟨rfl, rfl, rfl, rfl, rfl, rfl, rfl, rfl, trivial⟩ (fun _ w => ((.k (.k (.k .z))) : Keep _ _).sat w)
                  · rintro ⟨A7, c7⟩
                    refine St.region ?_
                    iterate 3 refine St.p rfl rfl ?_
                    obtain ⟨x4, hx4, h2⟩ := bnd_e h2
                    refine St.ixO hx4 rfl rfl rfl (.head _) rfl rfl rfl rfl rfl fun g4 hA => ?_
                    subst hA
                    refine St.ldO 0 hx4 rfl rfl (.head _) rfl rfl ?_
                    iterate 4 refine St.p rfl rfl ?_
                    obtain ⟨q2, hq2, h2⟩ := bnd_e h2
                    refine St.shl rfl rfl rfl hq2 ?_
                    refine St.p rfl rfl ?_
                    refine St.p rfl rfl ?_
                    refine St.ixO hx4 rfl rfl rfl (.head _) rfl rfl rfl rfl rfl fun g5 hA => ?_
                    cases hA
                    obtain ⟨l3, hl3, h2⟩ := bnd_e h2
                    refine St.stO 0 hx4 hl3 rfl rfl .z rfl rfl rfl rfl rfl ?_
                    refine St.slots (Γ' := [(0, _), (2, _), (6, _), (7, _), (8, .slice (some ⟨g4, 0, none⟩) l3.length c7), (13, _), (14, _), (15, _), (129, .slice (some ⟨g4, 0, none⟩) l3.length c7), (130, _), (131, _), (132, _), (133, _), (134, _), (135, _), (136, _), (137, _), (138, _), (139, _), (140, _), (141, _)]) ⟨rfl, rfl, rfl, rfl, sl_len hl3, rfl, rfl, rfl, sl_len hl3, rfl, rfl, rfl, rfl, rfl, rfl, rfl, rfl, rfl, rfl, rfl, rfl, trivial⟩ ?_
                    refine St.done ?_
                    refine St.blkN ?_
                    refine St.thenN ?_
                    refine St.prune (Γ' := [(0, _), (2, _), (6, _), (7, _), (8, _), (13, _), (14, _)]) ⟨rfl, rfl, rfl, rfl, rfl, rfl, rfl, trivial⟩ (.k (.k (.k .z))) ?_
                    refine St.region ?_
                    iterate 3 refine St.p rfl rfl ?_
                    refine St.done ?_
                    injection h2 with h2
                    subst h2
                    refine St.thenN ?_
                    exact St.again _ ((some ⟨g4, 0, none⟩), c7) hm2 trivial ⟨rfl, rfl, rfl, rfl, rfl, rfl, rfl, trivial⟩ (fun _ w => ((.k (.k (.k .z))) : Keep _ _).sat w)
              · replace h2 := bif_f hb9 h2
                refine St.exit ?_
                repeat (first | refine St.thenX ?_ | refine St.blkMiss rfl ?_)
                refine St.blkHit ?_
                injection h2 with h2
                subst h2
                have ho := hd2 _ rfl
                subst ho
                refine St.thenN ?_
                exact St.hereI s2.1 (A5, c5) rfl ⟨rfl, rfl, rfl, rfl, trivial⟩ (fun _ w => ((.k (.k (.d .z))) : Keep _ _).sat w)
            · rintro o5 ⟨A6, c6⟩ ho
              subst ho
              have h : _ = some _ := h
              refine St.blkN ?_
              refine St.thenN ?_
              refine St.seq ?_
              refine St.region ?_
              refine St.p rfl rfl ?_
              refine St.p rfl rfl ?_
              refine St.asrt (fun _ w => (w.front .z).meltL) ?_
              refine St.b2s rfl rfl rfl rfl rfl rfl rfl rfl rfl (srcL (E := eu8) (.head _)) ?_
              iterate 3 refine St.p rfl rfl ?_
              refine St.store 0 rfl rfl rfl rfl rfl rfl (.s .z) rfl ?_
              iterate 3 refine St.p rfl rfl ?_
              refine St.done ?_
              refine St.thenN ?_
              refine St.prune (Γ' := [(2, _), (3, _), (4, _), (5, _)]) ⟨rfl, rfl, rfl, rfl, trivial⟩ (.k (.d .z)) ?_
              refine St.ret ?_
              repeat (first | refine St.thenR ?_ | refine St.blkR ?_)
              injection h with h
              subst h
              exact St.finR Tryd.results28 (.cell rfl (.head _) rfl (.tmp rfl (.tmp rfl (.tmp rfl .nil)))) rfl [] ⟨rfl, rfl⟩ (fun _ w => ((.d .z) : Keep _ _).sat w)
          · replace h := bif_f hb8 h
            refine St.seq ?_
            refine St.region ?_
            refine St.p rfl rfl ?_
            refine St.done ?_
            refine St.thenN ?_
            refine St.prune (Γ' := [(0, _), (2, _), (6, _), (7, _), (8, _), (16, _)]) ⟨rfl, rfl, rfl, rfl, rfl, rfl, trivial⟩ (.k (.k .z)) ?_
            refine St.asrt (fun _ w => w.nilL eu8 5) ?_
            obtain ⟨o7, hl3, h⟩ := bnd_e h
            refine St.selfThen ?_
            refine St.cutE (fun (e8 : Option Addr × Nat) => [(2, .pointer (some ⟨g1, 0, none⟩)), (6, .int .i64 (IntKind.wrap .i64 ((IntKind.wrap .i64 x1).tdiv 64))), (7, .int .i64 ((IntKind.wrap .i64 x1).tmod 64)), (8, .slice e8.1 o7.length e8.2)]) (fun e8 => .res (OwnL eu8 5 e8.1 e8.2 o7) :: .res (Box g1 23 [.int .i64 0, .string (⟨#[]⟩)]) :: R) ?_ ?_
            · refine St.block ?_
              refine St.loop hl3 (fun (s3 : List Int × Int) (e7 : Option Addr × Nat) => [(0, .slice A1 b_p0.length c1), (2, .pointer (some ⟨g1, 0, none⟩)), (6, .int .i64 (IntKind.wrap .i64 ((IntKind.wrap .i64 x1).tdiv 64))), (7, .int .i64 ((IntKind.wrap .i64 x1).tmod 64)), (8, .slice e7.1 s3.1.length e7.2), (16, .int .i64 s3.2)]) (fun s3 e7 => .res (OwnL eu8 5 e7.1 e7.2 s3.1) :: .res (Box g1 23 [.int .i64 0, .string (⟨#[]⟩)]) :: .ro (SlL eu8 A1 c1 b_p0) :: R) (fun _ _ => True) (none, 0) trivial ⟨rfl, rfl, rfl, rfl, rfl, rfl, trivial⟩ (fun _ w => ((.k (.k (.k .z))) : Keep _ _).sat w) ?_
              rintro s3 ⟨A9, c9⟩ - hit3
              obtain ⟨st3, hm3, hd3⟩ := iter_e hit3
              have h3 := hm3
              refine St.seq ?_
              refine St.seq ?_
              refine St.region ?_
              iterate 3 refine St.p rfl rfl ?_
              refine St.done ?_
              refine St.thenN ?_
              refine St.prune (Γ' := [(0, _), (2, _), (6, _), (7, _), (8, _), (16, _), (45, _)]) ⟨rfl, rfl, rfl, rfl, rfl, rfl, rfl, trivial⟩ (.k (.k (.k .z))) ?_
              refine St.cond _ rfl (fun hb13 => ?_) (fun hb13 => ?_)
              · replace h3 := bif_t hb13 h3
                refine St.skip ?_
                refine St.thenN ?_
                refine St.prune (Γ' := [(0, _), (2, _), (6, _), (7, _), (8, _), (16, _)]) ⟨rfl, rfl, rfl, rfl, rfl, rfl, trivial⟩ (.k (.k (.k .z))) ?_
                refine St.seq ?_
                refine St.block ?_
                refine St.region ?_
                iterate 4 refine St.p rfl rfl ?_
                obtain ⟨x5, hx5, h3⟩ := bnd_e h3
                refine St.ixL hx5 rfl rfl rfl (.tail _ (.tail _ (.head _))) rfl rfl rfl rfl rfl fun b7 ob7 => ?_
                refine St.load ob7 0 rfl rfl (.head _) rfl rfl ?_
                refine St.buildSlice rfl rfl rfl rfl rfl rfl rfl rfl fun g6 => ?_
                obtain ⟨l4, hl4, h3⟩ := bnd_e h3
                refine St.app (E := eu8) hl4 rfl rfl rfl (.s (.s .z)) rfl rfl rfl rfl rfl rfl rfl rfl (srcB (.head _) rfl rfl) rfl rfl fun A11 c11 => ?_
                refine St.p rfl rfl ?_
                refine St.done ?_
                refine St.blkN ?_
                refine St.thenN ?_
                refine St.prune (Γ' := [(0, _), (2, _), (6, _), (7, _), (8, _), (16, _)]) ⟨rfl, rfl, rfl, rfl, rfl, rfl, trivial⟩ (.k (.d (.d (.k (.k .z))))) ?_
                refine St.region ?_
                iterate 3 refine St.p rfl rfl ?_
                refine St.done ?_
                injection h3 with h3
                subst h3
                refine St.thenN ?_
                exact St.again _ (A11, c11) hm3 trivial ⟨rfl, rfl, rfl, rfl, rfl, rfl, trivial⟩ (fun _ w => ((.k (.k (.k .z))) : Keep _ _).sat w)
              · replace h3 := bif_f hb13 h3
                refine St.exit ?_
                repeat (first | refine St.thenX ?_ | refine St.blkMiss rfl ?_)
                refine St.blkHit ?_
                injection h3 with h3
                subst h3
                have ho := hd3 _ rfl
                subst ho
                refine St.thenN ?_
                exact St.hereE (A9, c9) ⟨rfl, rfl, rfl, rfl, trivial⟩ (fun _ w => ((.k (.k (.d .z))) : Keep _ _).sat w)
            · rintro ⟨A10, c10⟩
              refine St.blkN ?_
              refine St.thenN ?_
              refine St.seq ?_
              refine St.region ?_
              refine St.p rfl rfl ?_
              refine St.p rfl rfl ?_
              refine St.asrt (fun _ w => (w.front .z).meltL) ?_
              refine St.b2s rfl rfl rfl rfl rfl rfl rfl rfl rfl (srcL (E := eu8) (.head _)) ?_
              iterate 3 refine St.p rfl rfl ?_
              refine St.store 0 rfl rfl rfl rfl rfl rfl (.s .z) rfl ?_
              iterate 3 refine St.p rfl rfl ?_
              refine St.done ?_
              refine St.thenN ?_
              refine St.prune (Γ' := [(2, _), (3, _), (4, _), (5, _)]) ⟨rfl, rfl, rfl, rfl, trivial⟩ (.k (.d .z)) ?_
              refine St.ret ?_
              repeat (first | refine St.thenR ?_ | refine St.blkR ?_)
              injection h with h
              subst h
              exact St.finR Tryd.results28 (.cell rfl (.head _) rfl (.tmp rfl (.tmp rfl (.tmp rfl .nil)))) rfl [] ⟨rfl, rfl⟩ (fun _ w => ((.d .z) : Keep _ _).sat w)

theorem ent49 : Ent Tryd.prog 49 := ⟨_, Tryd.func49, by kernel_rfl, by kernel_rfl⟩

noncomputable def m_fields_EncodeList_1 (f_p0 : T_Field) : Option Bool :=
  bnd (m_fields_Valid f_p0) fun r1 => some (!r1)

theorem c_fields_EncodeList_1 {f_p0 : T_Field} {r : Bool} (h : m_fields_EncodeList_1 f_p0 = some r) :
    Fun Tryd.prog 49 [.agg #[.int .i64 f_p0.Kind, .string f_p0.Value]] [] (Val (.bool r)) := by
  unfold m_fields_EncodeList_1 at h
  refine Fun.intro Tryd.func49 rfl rfl rfl fun w R => ?_
  refine St.seq ?_
  refine St.region ?_
  refine St.box rfl rfl fun g1 => ?_
  refine St.p rfl rfl ?_
  refine St.done ?_
  refine St.thenN ?_
  refine St.prune (Γ' := [(1, _)]) ⟨rfl, trivial⟩ (.k .z) ?_
  refine St.seq ?_
  refine St.region ?_
  refine St.loadB 0 rfl rfl (.head _) rfl rfl ?_
  obtain ⟨r1, hr1, h⟩ := bnd_e h
  refine St.callV (c_fields_Valid hr1) ent19 rfl rfl rfl rfl trivial ?_
  refine St.p rfl rfl ?_
  refine St.p rfl rfl ?_
  refine St.done ?_
  refine St.thenN ?_
  refine St.prune (Γ' := [(2, _)]) ⟨rfl, trivial⟩ (.d .z) ?_
  refine St.ret ?_
  repeat (first | refine St.thenR ?_ | refine St.blkR ?_)
  injection h with h
  subst h
  exact St.finR Tryd.results49 (.tmp rfl .nil) rfl [] ⟨rfl, rfl⟩ (fun _ w => (.z : Keep _ _).sat w)

theorem ent59 : Ent Tryd.prog 59 := ⟨_, Tryd.func59, by kernel_rfl, by kernel_rfl⟩

noncomputable def m_slices_IndexFunc__api_Field_api_Field_f49 (s_p0 : (List T_Field)) : Option Int :=
  bnd (loopM (τ := Int ⊕ Unit) (fun (s1 : Int) => bif decide (s1 < (s_p0.length : Int)) then (bnd (elt s_p0 s1) fun x1 => bnd (m_fields_EncodeList_1 x1) fun r1 => bif r1 then (some (.done (.inl s1))) else (some (.next (IntKind.wrap .i64 (s1 + 1))))) else (some (.done (.inr ())))) 0) fun o1 => retOr o1 fun o2 => some (-1)

theorem c_slices_IndexFunc__api_Field_api_Field_f49 {s_p0 : (List T_Field)} {A1 : Option Addr} {c1 : Nat} {r : Int} (h : m_slices_IndexFunc__api_Field_api_Field_f49 s_p0 = some r) :
    Fun Tryd.prog 59 [.slice A1 s_p0.length c1, .func (.func 49) #[] #[]] [.ro (SlL e_Field A1 c1 s_p0)] (Val (.int .i64 r)) := by
  unfold m_slices_IndexFunc__api_Field_api_Field_f49 at h
  refine Fun.intro Tryd.func59 rfl rfl rfl fun w R => ?_
  refine St.seq ?_
  refine St.region ?_
  refine St.p rfl rfl ?_
  refine St.done ?_
  refine St.thenN ?_
  refine St.prune (Γ' := [(0, _), (1, _)]) ⟨rfl, rfl, trivial⟩ (.k .z) ?_
  refine St.seq ?_
  refine St.seq ?_
  refine St.region ?_
  iterate 3 refine St.p rfl rfl ?_
  refine St.done ?_
  refine St.thenN ?_
  refine St.prune (Γ' := [(0, _), (1, _), (7, _), (8, _)]) ⟨rfl, rfl, rfl, rfl, trivial⟩ (.k .z) ?_
  obtain ⟨o1, hl1, h⟩ := bnd_e h
  refine St.cutI (fun (o2 : Unit) (e2 : Unit) => []) (fun o2 e2 => R) (fun o2 => o1 = .inr o2) ?_ ?_
  · refine St.block ?_
    refine St.loop hl1 (fun (s1 : Int) (e1 : Unit) => [(0, .slice A1 s_p0.length c1), (1, .func (.func 49) #[] #[]), (7, .int .i64 (s_p0.length : Int)), (8, .int .i64 s1)]) (fun s1 e1 => .ro (SlL e_Field A1 c1 s_p0) :: R) (fun _ _ => True) () trivial ⟨rfl, rfl, rfl, rfl, trivial⟩ (fun _ w => ((.k .z) : Keep _ _).sat w) ?_
    rintro s1 e1 - hit1
    obtain ⟨st1, hm1, hd1⟩ := iter_e hit1
    have h1 := hm1
    refine St.seq ?_
    refine St.region ?_
    refine St.p rfl rfl ?_
    refine St.done ?_
    refine St.thenN ?_
    refine St.seq ?_
    refine St.cond _ rfl (fun hb1 => ?_) (fun hb1 => ?_)
    · replace h1 := bif_t hb1 h1
      refine St.skip ?_
      refine St.thenN ?_
      refine St.prune (Γ' := [(0, _), (1, _), (7, _), (8, _)]) ⟨rfl, rfl, rfl, rfl, trivial⟩ (.k .z) ?_
      refine St.seq ?_
      refine St.block ?_
      refine St.seq ?_
      refine St.region ?_
      refine St.p rfl rfl ?_
      refine St.p rfl rfl ?_
      refine St.done ?_
      refine St.thenN ?_
      refine St.prune (Γ' := [(0, _), (1, _), (5, _), (7, _), (8, _)]) ⟨rfl, rfl, rfl, rfl, rfl, trivial⟩ (.k .z) ?_
      refine St.seq ?_
      refine St.region ?_
      iterate 3 refine St.p rfl rfl ?_
      obtain ⟨x1, hx1, h1⟩ := bnd_e h1
      refine St.ixL hx1 rfl rfl rfl (.head _) rfl rfl rfl rfl rfl fun b1 ob1 => ?_
      refine St.load ob1 0 rfl rfl (.head _) rfl rfl ?_
      obtain ⟨r1, hr1, h1⟩ := bnd_e h1
      refine St.callV (c_fields_EncodeList_1 hr1) ent49 rfl rfl rfl rfl trivial ?_
      refine St.done ?_
      refine St.thenN ?_
      refine St.prune (Γ' := [(0, _), (1, _), (5, _), (7, _), (8, _), (16, _)]) ⟨rfl, rfl, rfl, rfl, rfl, rfl, trivial⟩ (.d (.k .z)) ?_
      refine St.cond _ rfl (fun hb2 => ?_) (fun hb2 => ?_)
      · replace h1 := bif_t hb2 h1
        refine St.seq ?_
        refine St.region ?_
        refine St.p rfl rfl ?_
        refine St.p rfl rfl ?_
        refine St.done ?_
        refine St.thenN ?_
        refine St.prune (Γ' := [(4, _)]) ⟨rfl, trivial⟩ (.d .z) ?_
        refine St.ret ?_
        repeat (first | refine St.thenR ?_ | refine St.blkR ?_)
        injection h1 with h1
        subst h1
        have ho := hd1 _ rfl
        subst ho
        have h : some _ = some _ := h
        injection h with h
        subst h
        exact St.finR Tryd.results59 (.tmp rfl .nil) rfl [] ⟨rfl, rfl⟩ (fun _ w => (.z : Keep _ _).sat w)
      · replace h1 := bif_f hb2 h1
        refine St.skip ?_
        refine St.blkN ?_
        refine St.thenN ?_
        refine St.prune (Γ' := [(0, _), (1, _), (7, _), (8, _)]) ⟨rfl, rfl, rfl, rfl, trivial⟩ (.k .z) ?_
        refine St.region ?_
        refine St.p rfl rfl ?_
        refine St.p rfl rfl ?_
        refine St.done ?_
        injection h1 with h1
        subst h1
        refine St.thenN ?_
        exact St.again _ () hm1 trivial ⟨rfl, rfl, rfl, rfl, trivial⟩ (fun _ w => ((.k .z) : Keep _ _).sat w)
    · replace h1 := bif_f hb1 h1
      refine St.exit ?_
      repeat (first | refine St.thenX ?_ | refine St.blkMiss rfl ?_)
      refine St.blkHit ?_
      injection h1 with h1
      subst h1
      have ho := hd1 _ rfl
      subst ho
      refine St.thenN ?_
      exact St.hereI () () rfl trivial (fun _ w => ((.d .z) : Keep _ _).sat w)
  · rintro o2 e2 ho
    subst ho
    have h : _ = some _ := h
    refine St.seq ?_
    refine St.region ?_
    refine St.p rfl rfl ?_
    refine St.done ?_
    refine St.thenN ?_
    refine St.ret ?_
    repeat (first | refine St.thenR ?_ | refine St.blkR ?_)
    injection h with h
    subst h
    exact St.finR Tryd.results59 (.tmp rfl .nil) rfl [] ⟨rfl, rfl⟩ (fun _ w => (.z : Keep _ _).sat w)

theorem ent48 : Ent Tryd.prog 48 := ⟨_, Tryd.func48, by kernel_rfl, by kernel_rfl⟩

noncomputable def m_slices_ContainsFunc__api_Field_api_Field_f49 (s_p0 : (List T_Field)) : Option Bool :=
  bnd (m_slices_IndexFunc__api_Field_api_Field_f49 s_p0) fun r1 => some (decide (r1 ≥ 0))

theorem c_slices_ContainsFunc__api_Field_api_Field_f49 {s_p0 : (List T_Field)} {A1 : Option Addr} {c1 : Nat} {r : Bool} (h : m_slices_ContainsFunc__api_Field_api_Field_f49 s_p0 = some r) :
    Fun Tryd.prog 48 [.slice A1 s_p0.length c1, .func (.func 49) #[] #[]] [.ro (SlL e_Field A1 c1 s_p0)] (Val (.bool r)) := by
  unfold m_slices_ContainsFunc__api_Field_api_Field_f49 at h
  refine Fun.intro Tryd.func48 rfl rfl rfl fun w R => ?_
  refine St.seq ?_
  refine St.region ?_
  refine St.p rfl rfl ?_
  refine St.done ?_
  refine St.thenN ?_
  refine St.prune (Γ' := [(0, _), (1, _)]) ⟨rfl, rfl, trivial⟩ (.k .z) ?_
  refine St.seq ?_
  refine St.region ?_
  refine St.p rfl rfl ?_
  refine St.p rfl rfl ?_
  obtain ⟨r1, hr1, h⟩ := bnd_e h
  refine St.callV (c_slices_IndexFunc__api_Field_api_Field_f49 hr1) ent59 rfl rfl rfl rfl ⟨(.head _), trivial⟩ ?_
  refine St.p rfl rfl ?_
  refine St.p rfl rfl ?_
  refine St.done ?_
  refine St.thenN ?_
  refine St.prune (Γ' := [(4, _)]) ⟨rfl, trivial⟩ (.d .z) ?_
  refine St.ret ?_
  repeat (first | refine St.thenR ?_ | refine St.blkR ?_)
  injection h with h
  subst h
  exact St.finR Tryd.results48 (.tmp rfl .nil) rfl [] ⟨rfl, rfl⟩ (fun _ w => (.z : Keep _ _).sat w)

theorem ent30 : Ent Tryd.prog 30 := ⟨_, Tryd.func30, by kernel_rfl, by kernel_rfl⟩

noncomputable def m_fields_EncodeList (l_p0 : (List T_Field)) : Option ((List Int) × Int) :=
  bif decide ((l_p0.length : Int) > 16) then (some ([], 3)) else (bnd (m_slices_ContainsFunc__api_Field_api_Field_f49 l_p0) fun r1 => bif r1 then (some ([], 1)) else (bnd (loopM (τ := List Int) (fun (s1 : List Int × Int) => bif decide (s1.2 < (l_p0.length : Int)) then (bnd (elt l_p0 s1.2) fun x1 => bnd (m_fields_encode x1) fun r2 => bnd (app 1 s1.1 r2) fun l1 => some (.next (l1, IntKind.wrap .i64 (s1.2 + 1)))) else (some (.done s1.1))) ([], 0)) fun o1 => bnd (app 1 o1 [193]) fun l2 => some (l2, 0)))

theorem c_fields_EncodeList {l_p0 : (List T_Field)} {A1 : Option Addr} {c1 : Nat} {r : ((List Int) × Int)} (h : m_fields_EncodeList l_p0 = some r) :
    Fun Tryd.prog 30 [.slice A1 l_p0.length c1] [.ro (SlL e_Field A1 c1 l_p0)] (fun v_ F_ => ∃ (A1 : Option Addr) (c1 : Nat), v_ = .tuple #[.slice A1 r.1.length c1, .int .i64 r.2] ∧ F_ = [.res (OwnL eu8 5 A1 c1 r.1)]) := by
  unfold m_fields_EncodeList at h
  refine Fun.intro Tryd.func30 rfl rfl rfl fun w R => ?_
  refine St.seq ?_
  refine St.region ?_
  refine St.p rfl rfl ?_
  refine St.p rfl rfl ?_
  refine St.done ?_
  refine St.thenN ?_
  refine St.prune (Γ' := [(0, _)]) ⟨rfl, trivial⟩ (.k .z) ?_
  refine St.seq ?_
  refine St.block ?_
  refine St.seq ?_
  refine St.region ?_
  iterate 4 refine St.p rfl rfl ?_
  refine St.done ?_
  refine St.thenN ?_
  refine St.prune (Γ' := [(0, _), (7, _)]) ⟨rfl, rfl, trivial⟩ (.k .z) ?_
  refine St.cond _ rfl (fun hb1 => ?_) (fun hb1 => ?_)
  · replace h := bif_t hb1 h
    refine St.seq ?_
    refine St.region ?_
    refine St.p rfl rfl ?_
    refine St.p rfl rfl ?_
    refine St.done ?_
    refine St.thenN ?_
    refine St.prune (Γ' := [(2, _), (3, _)]) ⟨rfl, rfl, trivial⟩ (.d .z) ?_
    refine St.ret ?_
    repeat (first | refine St.thenR ?_ | refine St.blkR ?_)
    refine St.asrt (fun _ w => w.nilL eu8 5) ?_
    injection h with h
    subst h
    exact St.finR Tryd.results30 (.tmp rfl (.tmp rfl .nil)) rfl [.res (OwnL eu8 5 none 0 ([] : List Int))] ⟨none, 0, rfl, rfl⟩ (fun _ w => ((.k .z) : Keep _ _).sat w)
  · replace h := bif_f hb1 h
    refine St.seq ?_
    refine St.region ?_
    refine St.p rfl rfl ?_
    obtain ⟨r1, hr1, h⟩ := bnd_e h
    refine St.callV (c_slices_ContainsFunc__api_Field_api_Field_f49 hr1) ent48 rfl rfl rfl rfl ⟨(.head _), trivial⟩ ?_
    refine St.p rfl rfl ?_
    refine St.done ?_
    refine St.thenN ?_
    refine St.prune (Γ' := [(0, _), (11, _)]) ⟨rfl, rfl, trivial⟩ (.k .z) ?_
    refine St.cond _ rfl (fun hb2 => ?_) (fun hb2 => ?_)
    · replace h := bif_t hb2 h
      refine St.seq ?_
      refine St.region ?_
      refine St.p rfl rfl ?_
      refine St.p rfl rfl ?_
      refine St.done ?_
      refine St.thenN ?_
      refine St.prune (Γ' := [(2, _), (3, _)]) ⟨rfl, rfl, trivial⟩ (.d .z) ?_
      refine St.ret ?_
      repeat (first | refine St.thenR ?_ | refine St.blkR ?_)
      refine St.asrt (fun _ w => w.nilL eu8 5) ?_
      injection h with h
      subst h
      exact St.finR Tryd.results30 (.tmp rfl (.tmp rfl .nil)) rfl [.res (OwnL eu8 5 none 0 ([] : List Int))] ⟨none, 0, rfl, rfl⟩ (fun _ w => ((.k .z) : Keep _ _).sat w)
    · replace h := bif_f hb2 h
      refine St.skip ?_
      refine St.blkN ?_
      refine St.thenN ?_
      refine St.prune (Γ' := [(0, _)]) ⟨rfl, trivial⟩ (.k .z) ?_
      refine St.seq ?_
      refine St.region ?_
      refine St.p rfl rfl ?_
      refine St.done ?_
      refine St.thenN ?_
      refine St.seq ?_
      refine St.seq ?_
      refine St.region ?_
      iterate 3 refine St.p rfl rfl ?_
      refine St.done ?_
      refine St.thenN ?_
      refine St.prune (Γ' := [(4, _), (14, _), (15, _), (16, _)]) ⟨rfl, rfl, rfl, rfl, trivial⟩ (.k .z) ?_
      refine St.asrt (fun _ w => w.nilL eu8 5) ?_
      obtain ⟨o1, hl1, h⟩ := bnd_e h
      refine St.cutE (fun (e2 : Option Addr × Nat) => [(4, .slice e2.1 o1.length e2.2)]) (fun e2 => .res (OwnL eu8 5 e2.1 e2.2 o1) :: R) ?_ ?_
      · refine St.block ?_
        refine St.loop hl1 (fun (s1 : List Int × Int) (e1 : Option Addr × Nat) => [(4, .slice e1.1 s1.1.length e1.2), (14, .slice A1 l_p0.length c1), (15, .int .i64 (l_p0.length : Int)), (16, .int .i64 s1.2)]) (fun s1 e1 => .res (OwnL eu8 5 e1.1 e1.2 s1.1) :: .ro (SlL e_Field A1 c1 l_p0) :: R) (fun _ _ => True) (none, 0) trivial ⟨rfl, rfl, rfl, rfl, trivial⟩ (fun _ w => ((.k (.k .z)) : Keep _ _).sat w) ?_
        rintro s1 ⟨A2, c2⟩ - hit1
        obtain ⟨st1, hm1, hd1⟩ := iter_e hit1
        have h1 := hm1
        refine St.seq ?_
        refine St.region ?_
        refine St.p rfl rfl ?_
        refine St.done ?_
        refine St.thenN ?_
        refine St.seq ?_
        refine St.cond _ rfl (fun hb3 => ?_) (fun hb3 => ?_)
        · replace h1 := bif_t hb3 h1
          refine St.skip ?_
          refine St.thenN ?_
          refine St.prune (Γ' := [(4, _), (14, _), (15, _), (16, _)]) ⟨rfl, rfl, rfl, rfl, trivial⟩ (.k (.k .z)) ?_
          refine St.seq ?_
          refine St.block ?_
          refine St.seq ?_
          refine St.region ?_
          obtain ⟨x1, hx1, h1⟩ := bnd_e h1
          refine St.ixL hx1 rfl rfl rfl (.tail _ (.head _)) rfl rfl rfl rfl rfl fun b1 ob1 => ?_
          refine St.load ob1 0 rfl rfl (.head _) rfl rfl ?_
          refine St.alloc rfl rfl fun g1 => ?_
          refine St.store 0 rfl rfl rfl rfl rfl rfl .z rfl ?_
          refine St.done ?_
          refine St.thenN ?_
          refine St.prune (Γ' := [(4, _), (6, _), (14, _), (15, _), (16, _)]) ⟨rfl, rfl, rfl, rfl, rfl, trivial⟩ (.k (.d (.k (.k .z)))) ?_
          refine St.region ?_
          refine St.p rfl rfl ?_
          refine St.loadB 0 rfl rfl (.head _) rfl rfl ?_
          obtain ⟨r2, hr2, h1⟩ := bnd_e h1
          refine St.call (c_fields_encode hr2) ent37 rfl rfl rfl (fun _ w => w) ?_
          rintro _ _ ⟨A4, c4, rfl, rfl⟩
          refine St.asrt (F' := .res (OwnL eu8 5 A4 c4 r2) :: .res (Box g1 23 [.int .i64 x1.Kind, .string x1.Value]) :: .res (OwnL eu8 5 A2 c2 s1.1) :: .ro (SlL e_Field A1 c1 l_p0) :: R) (fun _ w => w) ?_
          refine St.asrt (fun _ w => (w.front .z).meltL) ?_
          obtain ⟨l1, hl1, h1⟩ := bnd_e h1
          refine St.app (E := eu8) hl1 rfl rfl rfl (.s (.s .z)) rfl rfl rfl rfl rfl rfl rfl rfl (srcL (.head _)) rfl rfl fun A5 c5 => ?_
          refine St.p rfl rfl ?_
          refine St.done ?_
          refine St.blkN ?_
          refine St.thenN ?_
          refine St.prune (Γ' := [(4, _), (14, _), (15, _), (16, _)]) ⟨rfl, rfl, rfl, rfl, trivial⟩ (.k (.d (.d (.k .z)))) ?_
          refine St.region ?_
          refine St.p rfl rfl ?_
          refine St.p rfl rfl ?_
          refine St.done ?_
          injection h1 with h1
          subst h1
          refine St.thenN ?_
          exact St.again _ (A5, c5) hm1 trivial ⟨rfl, rfl, rfl, rfl, trivial⟩ (fun _ w => ((.k (.k .z)) : Keep _ _).sat w)
        · replace h1 := bif_f hb3 h1
          refine St.exit ?_
          repeat (first | refine St.thenX ?_ | refine St.blkMiss rfl ?_)
          refine St.blkHit ?_
          injection h1 with h1
          subst h1
          have ho := hd1 _ rfl
          subst ho
          refine St.thenN ?_
          exact St.hereE (A2, c2) ⟨rfl, trivial⟩ (fun _ w => ((.k (.d .z)) : Keep _ _).sat w)
      · rintro ⟨A3, c3⟩
        refine St.seq ?_
        refine St.region ?_
        refine St.p rfl rfl ?_
        refine St.buildSlice rfl rfl rfl rfl rfl rfl rfl rfl fun g2 => ?_
        obtain ⟨l2, hl2, h⟩ := bnd_e h
        refine St.app (E := eu8) hl2 rfl rfl rfl (.s .z) rfl rfl rfl rfl rfl rfl rfl rfl (srcB (.head _) rfl rfl) rfl rfl fun A6 c6 => ?_
        refine St.p rfl rfl ?_
        refine St.p rfl rfl ?_
        refine St.done ?_
        refine St.thenN ?_
        refine St.prune (Γ' := [(2, _), (3, _)]) ⟨rfl, rfl, trivial⟩ (.k (.d .z)) ?_
        refine St.ret ?_
        repeat (first | refine St.thenR ?_ | refine St.blkR ?_)
        injection h with h
        subst h
        exact St.finR Tryd.results30 (.tmp rfl (.tmp rfl .nil)) rfl [.res (OwnL eu8 5 A6 c6 l2)] ⟨A6, c6, rfl, rfl⟩ (fun _ w => ((.k .z) : Keep _ _).sat w)

theorem ent32 : Ent Tryd.prog 32 := ⟨_, Tryd.func32, by kernel_rfl, by kernel_rfl⟩

noncomputable def m_fields_DecodeList (b_p0 : (List Int)) : Option ((List T_Field) × Int × Int) :=
  bnd (loopM (τ := ((List T_Field) × Int × Int) ⊕ Unit) (fun (s1 : List T_Field × Int) => bnd (sub b_p0 s1.2 (b_p0.length : Int)) fun l1 => bnd (m_fields_Decode l1) fun r1 => bif (r1.2.2.2 != 0) then (some (.done (.inl ([], 0, r1.2.2.2)))) else (bif r1.2.2.1 then (some (.done (.inl (s1.1, IntKind.wrap .i64 (s1.2 + r1.2.1), 0)))) else (bif ((s1.1.length : Int) == 16) then (some (.done (.inl ([], 0, 3)))) else (bnd (app 24 s1.1 [r1.1]) fun l2 => some (.next (l2, IntKind.wrap .i64 (s1.2 + r1.2.1))))))) ([], 0)) fun o1 => retOr o1 fun o2 => none

theorem c_fields_DecodeList {b_p0 : (List Int)} {A1 : Option Addr} {c1 : Nat} {r : ((List T_Field) × Int × Int)} (h : m_fields_DecodeList b_p0 = some r) :
    Fun Tryd.prog 32 [.slice A1 b_p0.length c1] [.ro (SlL eu8 A1 c1 b_p0)] (fun v_ F_ => ∃ (A1 : Option Addr) (c1 : Nat), v_ = .tuple #[.slice A1 r.1.length c1, .int .i64 r.2.1, .int .i64 r.2.2] ∧ F_ = [.res (OwnL e_Field 23 A1 c1 r.1)]) := by
  unfold m_fields_DecodeList at h
  refine Fun.intro Tryd.func32 rfl rfl rfl fun w R => ?_
  refine St.seq ?_
  refine St.region ?_
  iterate 3 refine St.p rfl rfl ?_
  refine St.done ?_
  refine St.thenN ?_
  refine St.prune (Γ' := [(0, _), (2, _), (3, _)]) ⟨rfl, rfl, rfl, trivial⟩ (.k .z) ?_
  refine St.asrt (fun _ w => w.nilL e_Field 23) ?_
  obtain ⟨o1, hl1, h⟩ := bnd_e h
  refine St.selfThen ?_
  refine St.cutI (fun (o2 : Unit) (e2 : Unit) => []) (fun o2 e2 => R) (fun o2 => o1 = .inr o2) ?_ ?_
  · refine St.block ?_
    refine St.loop hl1 (fun (s1 : List T_Field × Int) (e1 : Option Addr × Nat) => [(0, .slice A1 b_p0.length c1), (2, .slice e1.1 s1.1.length e1.2), (3, .int .i64 s1.2)]) (fun s1 e1 => .res (OwnL e_Field 23 e1.1 e1.2 s1.1) :: .ro (SlL eu8 A1 c1 b_p0) :: R) (fun _ _ => True) (none, 0) trivial ⟨rfl, rfl, rfl, trivial⟩ (fun _ w => ((.k (.k .z)) : Keep _ _).sat w) ?_
    rintro s1 ⟨A2, c2⟩ - hit1
    obtain ⟨st1, hm1, hd1⟩ := iter_e hit1
    have h1 := hm1
    refine St.block ?_
    refine St.seq ?_
    refine St.region ?_
    refine St.p rfl rfl ?_
    refine St.p rfl rfl ?_
    obtain ⟨l1, hl1, h1⟩ := bnd_e h1
    refine St.sub (E := (cod eu8)) rfl rfl (.tail _ (.head _)) rfl rfl rfl rfl rfl rfl rfl hl1 fun A3 c3 => ?_
    obtain ⟨r1, hr1, h1⟩ := bnd_e h1
    refine St.callV (c_fields_Decode hr1) ent27 rfl rfl rfl rfl ⟨(.head _), trivial⟩ ?_
    iterate 5 refine St.p rfl rfl ?_
    refine St.alloc rfl rfl fun g1 => ?_
    refine St.store 0 rfl rfl rfl rfl rfl rfl .z rfl ?_
    iterate 3 refine St.p rfl rfl ?_
    refine St.done ?_
    refine St.thenN ?_
    refine St.prune (Γ' := [(0, _), (2, _), (3, _), (5, _), (6, _), (7, _), (8, _)]) ⟨rfl, rfl, rfl, rfl, rfl, rfl, rfl, trivial⟩ (.k (.d (.k (.k .z)))) ?_
    refine St.seq ?_
    refine St.block ?_
    refine St.seq ?_
    refine St.region ?_
    iterate 3 refine St.p rfl rfl ?_
    refine St.done ?_
    refine St.thenN ?_
    refine St.prune (Γ' := [(0, _), (2, _), (3, _), (5, _), (6, _), (7, _), (8, _), (18, _)]) ⟨rfl, rfl, rfl, rfl, rfl, rfl, rfl, rfl, trivial⟩ (.k (.k (.k .z))) ?_
    refine St.cond _ rfl (fun hb1 => ?_) (fun hb1 => ?_)
    · replace h1 := bif_t hb1 h1
      refine St.seq ?_
      refine St.region ?_
      iterate 4 refine St.p rfl rfl ?_
      refine St.done ?_
      refine St.thenN ?_
      refine St.prune (Γ' := [(2, _), (3, _), (4, _)]) ⟨rfl, rfl, rfl, trivial⟩ (.d (.d (.d .z))) ?_
      refine St.ret ?_
      repeat (first | refine St.thenR ?_ | refine St.blkR ?_)
      refine St.asrt (fun _ w => w.nilL e_Field 23) ?_
      injection h1 with h1
      subst h1
      have ho := hd1 _ rfl
      subst ho
      have h : some _ = some _ := h
      injection h with h
      subst h
      exact St.finR Tryd.results32 (.tmp rfl (.tmp rfl (.tmp rfl .nil))) rfl [.res (OwnL e_Field 23 none 0 ([] : List T_Field))] ⟨none, 0, rfl, rfl⟩ (fun _ w => ((.k .z) : Keep _ _).sat w)
    · replace h1 := bif_f hb1 h1
      refine St.seq ?_
      refine St.region ?_
      refine St.p rfl rfl ?_
      refine St.p rfl rfl ?_
      refine St.done ?_
      refine St.thenN ?_
      refine St.prune (Γ' := [(0, _), (2, _), (3, _), (5, _), (6, _), (22, _)]) ⟨rfl, rfl, rfl, rfl, rfl, rfl, trivial⟩ (.k (.k (.k .z))) ?_
      refine St.cond _ rfl (fun hb2 => ?_) (fun hb2 => ?_)
      · replace h1 := bif_t hb2 h1
        refine St.seq ?_
        refine St.region ?_
        iterate 7 refine St.p rfl rfl ?_
        refine St.done ?_
        refine St.thenN ?_
        refine St.prune (Γ' := [(2, _), (3, _), (4, _)]) ⟨rfl, rfl, rfl, trivial⟩ (.d (.k (.d .z))) ?_
        refine St.ret ?_
        repeat (first | refine St.thenR ?_ | refine St.blkR ?_)
        injection h1 with h1
        subst h1
        have ho := hd1 _ rfl
        subst ho
        have h : some _ = some _ := h
        injection h with h
        subst h
        exact St.finR Tryd.results32 (.tmp rfl (.tmp rfl (.tmp rfl .nil))) rfl [.res (OwnL e_Field 23 A2 c2 s1.1)] ⟨A2, c2, rfl, rfl⟩ (fun _ w => ((.k .z) : Keep _ _).sat w)
      · replace h1 := bif_f hb2 h1
        refine St.seq ?_
        refine St.region ?_
        iterate 4 refine St.p rfl rfl ?_
        refine St.done ?_
        refine St.thenN ?_
        refine St.prune (Γ' := [(0, _), (2, _), (3, _), (5, _), (6, _), (28, _)]) ⟨rfl, rfl, rfl, rfl, rfl, rfl, trivial⟩ (.k (.k (.k .z))) ?_
        refine St.cond _ rfl (fun hb3 => ?_) (fun hb3 => ?_)
        · replace h1 := bif_t hb3 h1
          refine St.seq ?_
          refine St.region ?_
          iterate 3 refine St.p rfl rfl ?_
          refine St.done ?_
          refine St.thenN ?_
          refine St.prune (Γ' := [(2, _), (3, _), (4, _)]) ⟨rfl, rfl, rfl, trivial⟩ (.d (.d (.d .z))) ?_
          refine St.ret ?_
          repeat (first | refine St.thenR ?_ | refine St.blkR ?_)
          refine St.asrt (fun _ w => w.nilL e_Field 23) ?_
          injection h1 with h1
          subst h1
          have ho := hd1 _ rfl
          subst ho
          have h : some _ = some _ := h
          injection h with h
          subst h
          exact St.finR Tryd.results32 (.tmp rfl (.tmp rfl (.tmp rfl .nil))) rfl [.res (OwnL e_Field 23 none 0 ([] : List T_Field))] ⟨none, 0, rfl, rfl⟩ (fun _ w => ((.k .z) : Keep _ _).sat w)
        · replace h1 := bif_f hb3 h1
          refine St.skip ?_
          refine St.blkN ?_
          refine St.thenN ?_
          refine St.prune (Γ' := [(0, _), (2, _), (3, _), (5, _), (6, _)]) ⟨rfl, rfl, rfl, rfl, rfl, trivial⟩ (.k (.k (.k .z))) ?_
          refine St.region ?_
          refine St.p rfl rfl ?_
          refine St.loadB 0 rfl rfl (.head _) rfl rfl ?_
          refine St.buildSlice rfl rfl rfl rfl rfl rfl rfl rfl fun g2 => ?_
          obtain ⟨l2, hl2, h1⟩ := bnd_e h1
          refine St.app (E := e_Field) hl2 rfl rfl rfl (.s (.s .z)) rfl rfl rfl rfl rfl rfl rfl rfl (srcB (.head _) rfl rfl) rfl rfl fun A4 c4 => ?_
          iterate 5 refine St.p rfl rfl ?_
          refine St.done ?_
          refine St.blkN ?_
          injection h1 with h1
          subst h1
          refine St.thenN ?_
          exact St.again _ (A4, c4) hm1 trivial ⟨rfl, rfl, rfl, trivial⟩ (fun _ w => ((.k (.d (.d (.k .z)))) : Keep _ _).sat w)
  · rintro o2 e2 ho
    subst ho
    have h : _ = some _ := h
    have h : none = some _ := h
    cases h

theorem ent34 : Ent Tryd.prog 34 := ⟨_, Tryd.func34, by kernel_rfl, by kernel_rfl⟩

noncomputable def m_ref02_SameList (a_p0 : (List T_Field)) (b_p1 : (List T_Field)) : Option Bool :=
  bif ((a_p0.length : Int) != (b_p1.length : Int)) then (some false) else (bnd (loopM (τ := Bool ⊕ Unit) (fun (s1 : Int) => bif decide (s1 < (a_p0.length : Int)) then (bnd (elt a_p0 s1) fun x1 => bnd (elt b_p1 s1) fun x2 => bnd (m_ref02_Same x1 x2) fun r1 => bif !r1 then (some (.done (.inl false))) else (some (.next (IntKind.wrap .i64 (s1 + 1))))) else (some (.done (.inr ())))) 0) fun o1 => retOr o1 fun o2 => some true)

theorem c_ref02_SameList {a_p0 : (List T_Field)} {b_p1 : (List T_Field)} {A1 : Option Addr} {c1 : Nat} {A2 : Option Addr} {c2 : Nat} {r : Bool} (h : m_ref02_SameList a_p0 b_p1 = some r) :
    Fun Tryd.prog 34 [.slice A1 a_p0.length c1, .slice A2 b_p1.length c2] [.ro (SlL e_Field A1 c1 a_p0), .ro (SlL e_Field A2 c2 b_p1)] (Val (.bool r)) := by
  unfold m_ref02_SameList at h
  refine Fun.intro Tryd.func34 rfl rfl rfl fun w R => ?_
  refine St.seq ?_
  refine St.region ?_
  refine St.p rfl rfl ?_
  refine St.done ?_
  refine St.thenN ?_
  refine St.prune (Γ' := [(0, _), (1, _)]) ⟨rfl, rfl, trivial⟩ (.k (.k .z)) ?_
  refine St.seq ?_
  refine St.seq ?_
  refine St.region ?_
  iterate 5 refine St.p rfl rfl ?_
  refine St.done ?_
  refine St.thenN ?_
  refine St.prune (Γ' := [(0, _), (1, _), (10, _)]) ⟨rfl, rfl, rfl, trivial⟩ (.k (.k .z)) ?_
  refine St.cond _ rfl (fun hb1 => ?_) (fun hb1 => ?_)
  · replace h := bif_t hb1 h
    refine St.seq ?_
    refine St.region ?_
    refine St.p rfl rfl ?_
    refine St.done ?_
    refine St.thenN ?_
    refine St.prune (Γ' := [(4, _)]) ⟨rfl, trivial⟩ (.d (.d .z)) ?_
    refine St.ret ?_
    repeat (first | refine St.thenR ?_ | refine St.blkR ?_)
    injection h with h
    subst h
    exact St.finR Tryd.results34 (.tmp rfl .nil) rfl [] ⟨rfl, rfl⟩ (fun _ w => (.z : Keep _ _).sat w)
  · replace h := bif_f hb1 h
    refine St.skip ?_
    refine St.thenN ?_
    refine St.prune (Γ' := [(0, _), (1, _)]) ⟨rfl, rfl, trivial⟩ (.k (.k .z)) ?_
    refine St.seq ?_
    refine St.seq ?_
    refine St.region ?_
    refine St.p rfl rfl ?_
    refine St.done ?_
    refine St.thenN ?_
    obtain ⟨o1, hl1, h⟩ := bnd_e h
    refine St.cutI (fun (o2 : Unit) (e2 : Unit) => []) (fun o2 e2 => R) (fun o2 => o1 = .inr o2) ?_ ?_
    · refine St.block ?_
      refine St.loop hl1 (fun (s1 : Int) (e1 : Unit) => [(0, .slice A1 a_p0.length c1), (1, .slice A2 b_p1.length c2), (5, .int .i64 s1)]) (fun s1 e1 => .ro (SlL e_Field A1 c1 a_p0) :: .ro (SlL e_Field A2 c2 b_p1) :: R) (fun _ _ => True) () trivial ⟨rfl, rfl, rfl, trivial⟩ (fun _ w => ((.k (.k .z)) : Keep _ _).sat w) ?_
      rintro s1 e1 - hit1
      obtain ⟨st1, hm1, hd1⟩ := iter_e hit1
      have h1 := hm1
      refine St.seq ?_
      refine St.seq ?_
      refine St.region ?_
      iterate 4 refine St.p rfl rfl ?_
      refine St.done ?_
      refine St.thenN ?_
      refine St.prune (Γ' := [(0, _), (1, _), (5, _), (14, _)]) ⟨rfl, rfl, rfl, rfl, trivial⟩ (.k (.k .z)) ?_
      refine St.cond _ rfl (fun hb2 => ?_) (fun hb2 => ?_)
      · replace h1 := bif_t hb2 h1
        refine St.skip ?_
        refine St.thenN ?_
        refine St.prune (Γ' := [(0, _), (1, _), (5, _)]) ⟨rfl, rfl, rfl, trivial⟩ (.k (.k .z)) ?_
        refine St.seq ?_
        refine St.block ?_
        refine St.seq ?_
        refine St.regionF mixed (by kernel_rfl) ?_
        refine St.p rfl rfl ?_
        refine St.p rfl rfl ?_
        obtain ⟨x1, hx1, h1⟩ := bnd_e h1
        refine St.ixL hx1 rfl rfl rfl (.head _) rfl rfl rfl rfl rfl fun b1 ob1 => ?_
        refine St.load ob1 0 rfl rfl (.head _) rfl rfl ?_
        refine St.p rfl rfl ?_
        refine St.p rfl rfl ?_
        obtain ⟨x2, hx2, h1⟩ := bnd_e h1
        refine St.ixL hx2 rfl rfl rfl (.tail _ (.tail _ (.head _))) rfl rfl rfl rfl rfl fun b2 ob2 => ?_
        refine St.load ob2 0 rfl rfl (.head _) rfl rfl ?_
        obtain ⟨r1, hr1, h1⟩ := bnd_e h1
        refine St.callV (c_ref02_Same hr1) ent24 rfl rfl rfl rfl trivial ?_
        refine St.p rfl rfl ?_
        refine St.doneQ ?_
        refine St.thenN ?_
        refine St.prune (Γ' := [(0, _), (1, _), (5, _), (26, _)]) ⟨rfl, rfl, rfl, rfl, trivial⟩ (.d (.d (.k (.k .z)))) ?_
        refine St.cond _ rfl (fun hb3 => ?_) (fun hb3 => ?_)
        · replace h1 := bif_t hb3 h1
          refine St.seq ?_
          refine St.region ?_
          refine St.p rfl rfl ?_
          refine St.done ?_
          refine St.thenN ?_
          refine St.prune (Γ' := [(4, _)]) ⟨rfl, trivial⟩ (.d (.d .z)) ?_
          refine St.ret ?_
          repeat (first | refine St.thenR ?_ | refine St.blkR ?_)
          injection h1 with h1
          subst h1
          have ho := hd1 _ rfl
          subst ho
          have h : some _ = some _ := h
          injection h with h
          subst h
          exact St.finR Tryd.results34 (.tmp rfl .nil) rfl [] ⟨rfl, rfl⟩ (fun _ w => (.z : Keep _ _).sat w)
        · replace h1 := bif_f hb3 h1
          refine St.skip ?_
          refine St.blkN ?_
          refine St.thenN ?_
          refine St.prune (Γ' := [(0, _), (1, _), (5, _)]) ⟨rfl, rfl, rfl, trivial⟩ (.k (.k .z)) ?_
          refine St.region ?_
          iterate 3 refine St.p rfl rfl ?_
          refine St.done ?_
          injection h1 with h1
          subst h1
          refine St.thenN ?_
          exact St.again _ () hm1 trivial ⟨rfl, rfl, rfl, trivial⟩ (fun _ w => ((.k (.k .z)) : Keep _ _).sat w)
      · replace h1 := bif_f hb2 h1
        refine St.exit ?_
        repeat (first | refine St.thenX ?_ | refine St.blkMiss rfl ?_)
        refine St.blkHit ?_
        injection h1 with h1
        subst h1
        have ho := hd1 _ rfl
        subst ho
        refine St.thenN ?_
        exact St.hereI () () rfl trivial (fun _ w => ((.d (.d .z)) : Keep _ _).sat w)
    · rintro o2 e2 ho
      subst ho
      have h : _ = some _ := h
      refine St.seq ?_
      refine St.region ?_
      refine St.p rfl rfl ?_
      refine St.done ?_
      refine St.thenN ?_
      refine St.ret ?_
      repeat (first | refine St.thenR ?_ | refine St.blkR ?_)
      injection h with h
      subst h
      exact St.finR Tryd.results34 (.tmp rfl .nil) rfl [] ⟨rfl, rfl⟩ (fun _ w => (.z : Keep _ _).sat w)

end Go.Proofs.YtfddmgagikeieaaDoor
