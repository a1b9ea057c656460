/-
  Models of functions of the program, and that the functions compute them.
  Conditions: none.
-/
import Derived.Test.YtcjhemblnemhfaaGen1
namespace Go.Proofs.Ytcjhemblnemhfaa
open Go
set_option linter.unusedVariables false

set_option maxHeartbeats 4000000 in
theorem c_ref27_Name {s_p0 : ByteArray} {r : Bool} (h : m_ref27_Name s_p0 = some r) :
    Fun Try.prog 58 [.string s_p0] [] (Val (.bool r)) := by
  unfold m_ref27_Name at h
  refine Fun.intro Try.func58 rfl rfl rfl fun w R => ?_
  refine St.seq ?_
  refine St.region ?_
  refine St.p rfl rfl ?_
  refine St.done ?_
  refine St.thenN ?_
  refine St.prune (Γ' := [(0, _)]) ⟨rfl, trivial⟩ .z ?_
  refine St.seq ?_
  refine St.seq ?_
  obtain ⟨o1, hj1, h⟩ := bnd_e h
  refine St.cutE (fun (e1 : Unit) => [(0, .string s_p0), (21, .bool o1)]) (fun e1 => R) ?_ ?_
  · refine St.region ?_
    iterate 4 refine St.p rfl rfl ?_
    refine St.gSplit (dj := 7) _ rfl (fun hb1 => ?_) (fun hb1 => ?_)
    · replace hj1 := bif_t hb1 hj1
      refine St.gOff (dj := 7) rfl rfl rfl rfl ?_
      refine St.gOff (dj := 7) rfl rfl rfl rfl ?_
      refine St.gOff (dj := 7) rfl rfl rfl rfl ?_
      refine St.p rfl rfl ?_
      refine St.p rfl rfl ?_
      refine St.gOff (dj := 12) rfl rfl rfl rfl ?_
      refine St.gOff (dj := 12) rfl rfl rfl rfl ?_
      refine St.gOff (dj := 12) rfl rfl rfl rfl ?_
      refine St.p rfl rfl ?_
      refine St.p rfl rfl ?_
      refine St.gOff (dj := 17) rfl rfl rfl rfl ?_
      refine St.gOff (dj := 17) rfl rfl rfl rfl ?_
      refine St.gOff (dj := 17) rfl rfl rfl rfl ?_
      refine St.p rfl rfl ?_
      refine St.done ?_
      injection hj1 with hj1
      subst hj1
      refine St.thenN ?_
      exact St.hereE () ⟨rfl, rfl, trivial⟩ (fun _ w => (.z : Keep _ _).sat w)
    · replace hj1 := bif_f hb1 hj1
      refine St.gOn (dj := 7) rfl rfl ?_
      refine St.p rfl rfl ?_
      refine St.gOn (dj := 7) rfl rfl ?_
      refine St.p rfl rfl ?_
      refine St.gOn (dj := 7) rfl rfl ?_
      iterate 3 refine St.p rfl rfl ?_
      refine St.gSplit (dj := 12) _ rfl (fun hb2 => ?_) (fun hb2 => ?_)
      · replace hj1 := bif_t hb2 hj1
        refine St.gOff (dj := 12) rfl rfl rfl rfl ?_
        refine St.gOff (dj := 12) rfl rfl rfl rfl ?_
        refine St.gOff (dj := 12) rfl rfl rfl rfl ?_
        refine St.p rfl rfl ?_
        refine St.p rfl rfl ?_
        refine St.gOff (dj := 17) rfl rfl rfl rfl ?_
        refine St.gOff (dj := 17) rfl rfl rfl rfl ?_
        refine St.gOff (dj := 17) rfl rfl rfl rfl ?_
        refine St.p rfl rfl ?_
        refine St.done ?_
        injection hj1 with hj1
        subst hj1
        refine St.thenN ?_
        exact St.hereE () ⟨rfl, rfl, trivial⟩ (fun _ w => (.z : Keep _ _).sat w)
      · replace hj1 := bif_f hb2 hj1
        refine St.gOn (dj := 12) rfl rfl ?_
        refine St.p rfl rfl ?_
        refine St.gOn (dj := 12) rfl rfl ?_
        obtain ⟨y1, hy1, hj1⟩ := bnd_e hj1
        refine St.eltS rfl rfl rfl rfl rfl hy1 ?_
        refine St.gOn (dj := 12) rfl rfl ?_
        iterate 3 refine St.p rfl rfl ?_
        refine St.gSplit (dj := 17) _ rfl (fun hb3 => ?_) (fun hb3 => ?_)
        · replace hj1 := bif_t hb3 hj1
          refine St.gOff (dj := 17) rfl rfl rfl rfl ?_
          refine St.gOff (dj := 17) rfl rfl rfl rfl ?_
          refine St.gOff (dj := 17) rfl rfl rfl rfl ?_
          refine St.p rfl rfl ?_
          refine St.done ?_
          injection hj1 with hj1
          subst hj1
          refine St.thenN ?_
          exact St.hereE () ⟨rfl, rfl, trivial⟩ (fun _ w => (.z : Keep _ _).sat w)
        · replace hj1 := bif_f hb3 hj1
          refine St.gOn (dj := 17) rfl rfl ?_
          refine St.p rfl rfl ?_
          refine St.gOn (dj := 17) rfl rfl ?_
          refine St.eltS rfl rfl rfl rfl rfl hy1 ?_
          refine St.gOn (dj := 17) rfl rfl ?_
          refine St.p rfl rfl ?_
          refine St.p rfl rfl ?_
          refine St.done ?_
          injection hj1 with hj1
          subst hj1
          refine St.thenN ?_
          exact St.hereE () ⟨rfl, rfl, trivial⟩ (fun _ w => (.z : Keep _ _).sat w)
  · rintro e1
    refine St.cond _ rfl (fun hb4 => ?_) (fun hb4 => ?_)
    · replace h := bif_t hb4 h
      refine St.seq ?_
      refine St.region ?_
      refine St.p rfl rfl ?_
      refine St.done ?_
      refine St.thenN ?_
      refine St.prune (Γ' := [(2, _)]) ⟨rfl, trivial⟩ .z ?_
      refine St.ret ?_
      repeat (first | refine St.thenR ?_ | refine St.blkR ?_)
      injection h with h
      subst h
      exact St.finR Try.results58 (.tmp rfl .nil) rfl [] ⟨rfl, rfl⟩ (fun _ w => (.z : Keep _ _).sat w)
    · replace h := bif_f hb4 h
      refine St.skip ?_
      refine St.thenN ?_
      refine St.prune (Γ' := [(0, _)]) ⟨rfl, trivial⟩ .z ?_
      refine St.seq ?_
      refine St.seq ?_
      refine St.region ?_
      refine St.p rfl rfl ?_
      refine St.done ?_
      refine St.thenN ?_
      obtain ⟨o2, hl1, h⟩ := bnd_e h
      refine St.cutI (fun (o3 : Unit) (e3 : Unit) => []) (fun o3 e3 => R) (fun o3 => o2 = .inr o3) ?_ ?_
      · refine St.block ?_
        refine St.loop hl1 (fun (s1 : Int) (e2 : Unit) => [(0, .string s_p0), (3, .int .i64 s1)]) (fun s1 e2 => R) (fun _ _ => True) () trivial ⟨rfl, rfl, trivial⟩ (fun _ w => (.z : Keep _ _).sat w) ?_
        rintro s1 e2 - hit1
        obtain ⟨st1, hm1, hd1⟩ := iter_e hit1
        have h1 := hm1
        refine St.seq ?_
        refine St.seq ?_
        refine St.region ?_
        iterate 4 refine St.p rfl rfl ?_
        refine St.done ?_
        refine St.thenN ?_
        refine St.prune (Γ' := [(0, _), (3, _), (25, _)]) ⟨rfl, rfl, rfl, trivial⟩ .z ?_
        refine St.cond _ rfl (fun hb5 => ?_) (fun hb5 => ?_)
        · replace h1 := bif_t hb5 h1
          refine St.skip ?_
          refine St.thenN ?_
          refine St.prune (Γ' := [(0, _), (3, _)]) ⟨rfl, rfl, trivial⟩ .z ?_
          refine St.seq ?_
          refine St.block ?_
          refine St.seq ?_
          obtain ⟨o4, hj2, h1⟩ := bnd_e h1
          refine St.cutE (fun (e4 : Unit) => [(0, .string s_p0), (3, .int .i64 s1), (56, .bool o4)]) (fun e4 => R) ?_ ?_
          · refine St.region ?_
            refine St.p rfl rfl ?_
            refine St.p rfl rfl ?_
            obtain ⟨y2, hy2, hj2⟩ := bnd_e hj2
            refine St.eltS rfl rfl rfl rfl rfl hy2 ?_
            refine St.p rfl rfl ?_
            refine St.p rfl rfl ?_
            refine St.gSplit (dj := 32) _ rfl (fun hb6 => ?_) (fun hb6 => ?_)
            · replace hj2 := bif_t hb6 hj2
              refine St.gOn (dj := 32) rfl rfl ?_
              refine St.p rfl rfl ?_
              refine St.gOn (dj := 32) rfl rfl ?_
              refine St.p rfl rfl ?_
              refine St.gOn (dj := 32) rfl rfl ?_
              refine St.eltS rfl rfl rfl rfl rfl hy2 ?_
              refine St.gOn (dj := 32) rfl rfl ?_
              iterate 3 refine St.p rfl rfl ?_
              refine St.gSplit (dj := 38) _ rfl (fun hb7 => ?_) (fun hb7 => ?_)
              · replace hj2 := bif_t hb7 hj2
                refine St.gOff (dj := 38) rfl rfl rfl rfl ?_
                refine St.gOff (dj := 38) rfl rfl rfl rfl ?_
                refine St.gOff (dj := 38) rfl rfl rfl rfl ?_
                refine St.gOff (dj := 38) rfl rfl rfl rfl ?_
                refine St.gOff (dj := 38) rfl rfl rfl rfl ?_
                refine St.gOff (dj := 43) rfl rfl rfl rfl ?_
                refine St.gOff (dj := 43) rfl rfl rfl rfl ?_
                refine St.gOff (dj := 43) rfl rfl rfl rfl ?_
                refine St.gOff (dj := 43) rfl rfl rfl rfl ?_
                refine St.gOff (dj := 38) rfl rfl rfl rfl ?_
                refine St.p rfl rfl ?_
                refine St.p rfl rfl ?_
                refine St.gOff (dj := 50) rfl rfl rfl rfl ?_
                refine St.gOff (dj := 50) rfl rfl rfl rfl ?_
                refine St.gOff (dj := 50) rfl rfl rfl rfl ?_
                refine St.gOff (dj := 50) rfl rfl rfl rfl ?_
                refine St.p rfl rfl ?_
                refine St.p rfl rfl ?_
                refine St.done ?_
                injection hj2 with hj2
                subst hj2
                refine St.thenN ?_
                exact St.hereE () ⟨rfl, rfl, rfl, trivial⟩ (fun _ w => (.z : Keep _ _).sat w)
              · replace hj2 := bif_f hb7 hj2
                refine St.gOn (dj := 38) rfl rfl ?_
                refine St.p rfl rfl ?_
                refine St.gOn (dj := 38) rfl rfl ?_
                refine St.p rfl rfl ?_
                refine St.gOn (dj := 38) rfl rfl ?_
                refine St.eltS rfl rfl rfl rfl rfl hy2 ?_
                refine St.gOn (dj := 38) rfl rfl ?_
                refine St.p rfl rfl ?_
                refine St.gOn (dj := 38) rfl rfl ?_
                refine St.p rfl rfl ?_
                refine St.gSplit (dj := 43) _ rfl (fun hb8 => ?_) (fun hb8 => ?_)
                · replace hj2 := bif_t hb8 hj2
                  refine St.gOn (dj := 43) rfl rfl ?_
                  refine St.p rfl rfl ?_
                  refine St.gOn (dj := 43) rfl rfl ?_
                  refine St.p rfl rfl ?_
                  refine St.gOn (dj := 43) rfl rfl ?_
                  refine St.eltS rfl rfl rfl rfl rfl hy2 ?_
                  refine St.gOn (dj := 43) rfl rfl ?_
                  refine St.p rfl rfl ?_
                  refine St.gOn (dj := 38) rfl rfl ?_
                  iterate 3 refine St.p rfl rfl ?_
                  refine St.gSplit (dj := 50) _ rfl (fun hb9 => ?_) (fun hb9 => ?_)
                  · replace hj2 := bif_t hb9 hj2
                    refine St.gOff (dj := 50) rfl rfl rfl rfl ?_
                    refine St.gOff (dj := 50) rfl rfl rfl rfl ?_
                    refine St.gOff (dj := 50) rfl rfl rfl rfl ?_
                    refine St.gOff (dj := 50) rfl rfl rfl rfl ?_
                    refine St.p rfl rfl ?_
                    refine St.p rfl rfl ?_
                    refine St.done ?_
                    injection hj2 with hj2
                    subst hj2
                    refine St.thenN ?_
                    exact St.hereE () ⟨rfl, rfl, rfl, trivial⟩ (fun _ w => (.z : Keep _ _).sat w)
                  · replace hj2 := bif_f hb9 hj2
                    refine St.gOn (dj := 50) rfl rfl ?_
                    refine St.p rfl rfl ?_
                    refine St.gOn (dj := 50) rfl rfl ?_
                    refine St.p rfl rfl ?_
                    refine St.gOn (dj := 50) rfl rfl ?_
                    refine St.eltS rfl rfl rfl rfl rfl hy2 ?_
                    refine St.gOn (dj := 50) rfl rfl ?_
                    iterate 3 refine St.p rfl rfl ?_
                    refine St.done ?_
                    injection hj2 with hj2
                    subst hj2
                    refine St.thenN ?_
                    exact St.hereE () ⟨rfl, rfl, rfl, trivial⟩ (fun _ w => (.z : Keep _ _).sat w)
                · replace hj2 := bif_f hb8 hj2
                  refine St.gOff (dj := 43) rfl rfl rfl rfl ?_
                  refine St.gOff (dj := 43) rfl rfl rfl rfl ?_
                  refine St.gOff (dj := 43) rfl rfl rfl rfl ?_
                  refine St.gOff (dj := 43) rfl rfl rfl rfl ?_
                  refine St.gOn (dj := 38) rfl rfl ?_
                  iterate 3 refine St.p rfl rfl ?_
                  refine St.gOn (dj := 50) rfl rfl ?_
                  refine St.p rfl rfl ?_
                  refine St.gOn (dj := 50) rfl rfl ?_
                  refine St.p rfl rfl ?_
                  refine St.gOn (dj := 50) rfl rfl ?_
                  refine St.eltS rfl rfl rfl rfl rfl hy2 ?_
                  refine St.gOn (dj := 50) rfl rfl ?_
                  iterate 3 refine St.p rfl rfl ?_
                  refine St.done ?_
                  injection hj2 with hj2
                  subst hj2
                  refine St.thenN ?_
                  exact St.hereE () ⟨rfl, rfl, rfl, trivial⟩ (fun _ w => (.z : Keep _ _).sat w)
            · replace hj2 := bif_f hb6 hj2
              refine St.gOff (dj := 32) rfl rfl rfl rfl ?_
              refine St.gOff (dj := 32) rfl rfl rfl rfl ?_
              refine St.gOff (dj := 32) rfl rfl rfl rfl ?_
              refine St.gOff (dj := 32) rfl rfl rfl rfl ?_
              refine St.p rfl rfl ?_
              refine St.p rfl rfl ?_
              refine St.gOn (dj := 38) rfl rfl ?_
              refine St.p rfl rfl ?_
              refine St.gOn (dj := 38) rfl rfl ?_
              refine St.p rfl rfl ?_
              refine St.gOn (dj := 38) rfl rfl ?_
              refine St.eltS rfl rfl rfl rfl rfl hy2 ?_
              refine St.gOn (dj := 38) rfl rfl ?_
              refine St.p rfl rfl ?_
              refine St.gOn (dj := 38) rfl rfl ?_
              refine St.p rfl rfl ?_
              refine St.gSplit (dj := 43) _ rfl (fun hb10 => ?_) (fun hb10 => ?_)
              · replace hj2 := bif_t hb10 hj2
                refine St.gOn (dj := 43) rfl rfl ?_
                refine St.p rfl rfl ?_
                refine St.gOn (dj := 43) rfl rfl ?_
                refine St.p rfl rfl ?_
                refine St.gOn (dj := 43) rfl rfl ?_
                refine St.eltS rfl rfl rfl rfl rfl hy2 ?_
                refine St.gOn (dj := 43) rfl rfl ?_
                refine St.p rfl rfl ?_
                refine St.gOn (dj := 38) rfl rfl ?_
                iterate 3 refine St.p rfl rfl ?_
                refine St.gSplit (dj := 50) _ rfl (fun hb11 => ?_) (fun hb11 => ?_)
                · replace hj2 := bif_t hb11 hj2
                  refine St.gOff (dj := 50) rfl rfl rfl rfl ?_
                  refine St.gOff (dj := 50) rfl rfl rfl rfl ?_
                  refine St.gOff (dj := 50) rfl rfl rfl rfl ?_
                  refine St.gOff (dj := 50) rfl rfl rfl rfl ?_
                  refine St.p rfl rfl ?_
                  refine St.p rfl rfl ?_
                  refine St.done ?_
                  injection hj2 with hj2
                  subst hj2
                  refine St.thenN ?_
                  exact St.hereE () ⟨rfl, rfl, rfl, trivial⟩ (fun _ w => (.z : Keep _ _).sat w)
                · replace hj2 := bif_f hb11 hj2
                  refine St.gOn (dj := 50) rfl rfl ?_
                  refine St.p rfl rfl ?_
                  refine St.gOn (dj := 50) rfl rfl ?_
                  refine St.p rfl rfl ?_
                  refine St.gOn (dj := 50) rfl rfl ?_
                  refine St.eltS rfl rfl rfl rfl rfl hy2 ?_
                  refine St.gOn (dj := 50) rfl rfl ?_
                  iterate 3 refine St.p rfl rfl ?_
                  refine St.done ?_
                  injection hj2 with hj2
                  subst hj2
                  refine St.thenN ?_
                  exact St.hereE () ⟨rfl, rfl, rfl, trivial⟩ (fun _ w => (.z : Keep _ _).sat w)
              · replace hj2 := bif_f hb10 hj2
                refine St.gOff (dj := 43) rfl rfl rfl rfl ?_
                refine St.gOff (dj := 43) rfl rfl rfl rfl ?_
                refine St.gOff (dj := 43) rfl rfl rfl rfl ?_
                refine St.gOff (dj := 43) rfl rfl rfl rfl ?_
                refine St.gOn (dj := 38) rfl rfl ?_
                iterate 3 refine St.p rfl rfl ?_
                refine St.gOn (dj := 50) rfl rfl ?_
                refine St.p rfl rfl ?_
                refine St.gOn (dj := 50) rfl rfl ?_
                refine St.p rfl rfl ?_
                refine St.gOn (dj := 50) rfl rfl ?_
                refine St.eltS rfl rfl rfl rfl rfl hy2 ?_
                refine St.gOn (dj := 50) rfl rfl ?_
                iterate 3 refine St.p rfl rfl ?_
                refine St.done ?_
                injection hj2 with hj2
                subst hj2
                refine St.thenN ?_
                exact St.hereE () ⟨rfl, rfl, rfl, trivial⟩ (fun _ w => (.z : Keep _ _).sat w)
          · rintro e4
            refine St.cond _ rfl (fun hb12 => ?_) (fun hb12 => ?_)
            · replace h1 := bif_t hb12 h1
              refine St.seq ?_
              refine St.region ?_
              refine St.p rfl rfl ?_
              refine St.done ?_
              refine St.thenN ?_
              refine St.prune (Γ' := [(2, _)]) ⟨rfl, trivial⟩ .z ?_
              refine St.ret ?_
              repeat (first | refine St.thenR ?_ | refine St.blkR ?_)
              injection h1 with h1
              subst h1
              have ho := hd1 _ rfl
              subst ho
              have h : some _ = some _ := h
              injection h with h
              subst h
              exact St.finR Try.results58 (.tmp rfl .nil) rfl [] ⟨rfl, rfl⟩ (fun _ w => (.z : Keep _ _).sat w)
            · replace h1 := bif_f hb12 h1
              refine St.skip ?_
              refine St.blkN ?_
              refine St.thenN ?_
              refine St.prune (Γ' := [(0, _), (3, _)]) ⟨rfl, rfl, trivial⟩ .z ?_
              refine St.region ?_
              iterate 3 refine St.p rfl rfl ?_
              refine St.done ?_
              injection h1 with h1
              subst h1
              refine St.thenN ?_
              exact St.again _ () hm1 trivial ⟨rfl, rfl, trivial⟩ (fun _ w => (.z : Keep _ _).sat w)
        · replace h1 := bif_f hb5 h1
          refine St.exit ?_
          repeat (first | refine St.thenX ?_ | refine St.blkMiss rfl ?_)
          refine St.blkHit ?_
          injection h1 with h1
          subst h1
          have ho := hd1 _ rfl
          subst ho
          refine St.thenN ?_
          exact St.hereI () () rfl trivial (fun _ w => (.z : Keep _ _).sat w)
      · rintro o3 e3 ho
        subst ho
        have h : _ = some _ := h
        refine St.seq ?_
        refine St.region ?_
        refine St.p rfl rfl ?_
        refine St.done ?_
        refine St.thenN ?_
        refine St.ret ?_
        repeat (first | refine St.thenR ?_ | refine St.blkR ?_)
        injection h with h
        subst h
        exact St.finR Try.results58 (.tmp rfl .nil) rfl [] ⟨rfl, rfl⟩ (fun _ w => (.z : Keep _ _).sat w)

theorem ent73 : Ent Try.prog 73 := ⟨_, Try.func73, by kernel_rfl, by kernel_rfl⟩

noncomputable def m_ref27_Valid (v_p0 : T_Version) : Option Bool :=
  bnd ((bif decide (v_p0.Major ≥ 0) then (bif decide (v_p0.Major ≤ 999) then (bif decide (v_p0.Minor ≥ 0) then (bif decide (v_p0.Minor ≤ 999) then (bif decide (v_p0.Patch ≥ 0) then (some (decide (v_p0.Patch ≤ 999))) else (some false)) else (some false)) else (some false)) else (some false)) else (some false) : Option Bool)) fun o1 => some o1

theorem c_ref27_Valid {v_p0 : T_Version} {r : Bool} (h : m_ref27_Valid v_p0 = some r) :
    Fun Try.prog 73 [.agg #[.int .i64 v_p0.Major, .int .i64 v_p0.Minor, .int .i64 v_p0.Patch]] [] (Val (.bool r)) := by
  unfold m_ref27_Valid at h
  refine Fun.intro Try.func73 rfl rfl rfl fun w R => ?_
  refine St.seq ?_
  refine St.region ?_
  refine St.box rfl rfl fun g1 => ?_
  refine St.p rfl rfl ?_
  refine St.done ?_
  refine St.thenN ?_
  refine St.prune (Γ' := [(1, _)]) ⟨rfl, trivial⟩ (.k .z) ?_
  refine St.seq ?_
  obtain ⟨o1, hj1, h⟩ := bnd_e h
  refine St.cutE (fun (e1 : Unit) => [(2, .bool o1)]) (fun e1 => R) ?_ ?_
  · refine St.region ?_
    refine St.p rfl rfl ?_
    refine St.loadB 0 rfl rfl (.head _) rfl rfl ?_
    refine St.p rfl rfl ?_
    refine St.p rfl rfl ?_
    refine St.gSplit (dj := 6) _ rfl (fun hb1 => ?_) (fun hb1 => ?_)
    · replace hj1 := bif_t hb1 hj1
      refine St.gOn (dj := 6) rfl rfl ?_
      refine St.p rfl rfl ?_
      refine St.gOn (dj := 6) rfl rfl ?_
      refine St.loadB 0 rfl rfl (.head _) rfl rfl ?_
      refine St.gOn (dj := 6) rfl rfl ?_
      iterate 3 refine St.p rfl rfl ?_
      refine St.gSplit (dj := 11) _ rfl (fun hb2 => ?_) (fun hb2 => ?_)
      · replace hj1 := bif_t hb2 hj1
        refine St.gOn (dj := 11) rfl rfl ?_
        refine St.p rfl rfl ?_
        refine St.gOn (dj := 11) rfl rfl ?_
        refine St.loadB 1 rfl rfl (.head _) rfl rfl ?_
        refine St.gOn (dj := 11) rfl rfl ?_
        iterate 3 refine St.p rfl rfl ?_
        refine St.gSplit (dj := 16) _ rfl (fun hb3 => ?_) (fun hb3 => ?_)
        · replace hj1 := bif_t hb3 hj1
          refine St.gOn (dj := 16) rfl rfl ?_
          refine St.p rfl rfl ?_
          refine St.gOn (dj := 16) rfl rfl ?_
          refine St.loadB 1 rfl rfl (.head _) rfl rfl ?_
          refine St.gOn (dj := 16) rfl rfl ?_
          iterate 3 refine St.p rfl rfl ?_
          refine St.gSplit (dj := 21) _ rfl (fun hb4 => ?_) (fun hb4 => ?_)
          · replace hj1 := bif_t hb4 hj1
            refine St.gOn (dj := 21) rfl rfl ?_
            refine St.p rfl rfl ?_
            refine St.gOn (dj := 21) rfl rfl ?_
            refine St.loadB 2 rfl rfl (.head _) rfl rfl ?_
            refine St.gOn (dj := 21) rfl rfl ?_
            iterate 3 refine St.p rfl rfl ?_
            refine St.gSplit (dj := 26) _ rfl (fun hb5 => ?_) (fun hb5 => ?_)
            · replace hj1 := bif_t hb5 hj1
              refine St.gOn (dj := 26) rfl rfl ?_
              refine St.p rfl rfl ?_
              refine St.gOn (dj := 26) rfl rfl ?_
              refine St.loadB 2 rfl rfl (.head _) rfl rfl ?_
              refine St.gOn (dj := 26) rfl rfl ?_
              iterate 3 refine St.p rfl rfl ?_
              refine St.done ?_
              injection hj1 with hj1
              subst hj1
              refine St.thenN ?_
              exact St.hereE () ⟨rfl, trivial⟩ (fun _ w => ((.d .z) : Keep _ _).sat w)
            · replace hj1 := bif_f hb5 hj1
              refine St.gOff (dj := 26) rfl rfl rfl rfl ?_
              refine St.gOff (dj := 26) rfl rfl rfl rfl ?_
              refine St.gOff (dj := 26) rfl rfl rfl rfl ?_
              refine St.p rfl rfl ?_
              refine St.p rfl rfl ?_
              refine St.done ?_
              injection hj1 with hj1
              subst hj1
              refine St.thenN ?_
              exact St.hereE () ⟨rfl, trivial⟩ (fun _ w => ((.d .z) : Keep _ _).sat w)
          · replace hj1 := bif_f hb4 hj1
            refine St.gOff (dj := 21) rfl rfl rfl rfl ?_
            refine St.gOff (dj := 21) rfl rfl rfl rfl ?_
            refine St.gOff (dj := 21) rfl rfl rfl rfl ?_
            refine St.p rfl rfl ?_
            refine St.p rfl rfl ?_
            refine St.gOff (dj := 26) rfl rfl rfl rfl ?_
            refine St.gOff (dj := 26) rfl rfl rfl rfl ?_
            refine St.gOff (dj := 26) rfl rfl rfl rfl ?_
            refine St.p rfl rfl ?_
            refine St.p rfl rfl ?_
            refine St.done ?_
            injection hj1 with hj1
            subst hj1
            refine St.thenN ?_
            exact St.hereE () ⟨rfl, trivial⟩ (fun _ w => ((.d .z) : Keep _ _).sat w)
        · replace hj1 := bif_f hb3 hj1
          refine St.gOff (dj := 16) rfl rfl rfl rfl ?_
          refine St.gOff (dj := 16) rfl rfl rfl rfl ?_
          refine St.gOff (dj := 16) rfl rfl rfl rfl ?_
          refine St.p rfl rfl ?_
          refine St.p rfl rfl ?_
          refine St.gOff (dj := 21) rfl rfl rfl rfl ?_
          refine St.gOff (dj := 21) rfl rfl rfl rfl ?_
          refine St.gOff (dj := 21) rfl rfl rfl rfl ?_
          refine St.p rfl rfl ?_
          refine St.p rfl rfl ?_
          refine St.gOff (dj := 26) rfl rfl rfl rfl ?_
          refine St.gOff (dj := 26) rfl rfl rfl rfl ?_
          refine St.gOff (dj := 26) rfl rfl rfl rfl ?_
          refine St.p rfl rfl ?_
          refine St.p rfl rfl ?_
          refine St.done ?_
          injection hj1 with hj1
          subst hj1
          refine St.thenN ?_
          exact St.hereE () ⟨rfl, trivial⟩ (fun _ w => ((.d .z) : Keep _ _).sat w)
      · replace hj1 := bif_f hb2 hj1
        refine St.gOff (dj := 11) rfl rfl rfl rfl ?_
        refine St.gOff (dj := 11) rfl rfl rfl rfl ?_
        refine St.gOff (dj := 11) rfl rfl rfl rfl ?_
        refine St.p rfl rfl ?_
        refine St.p rfl rfl ?_
        refine St.gOff (dj := 16) rfl rfl rfl rfl ?_
        refine St.gOff (dj := 16) rfl rfl rfl rfl ?_
        refine St.gOff (dj := 16) rfl rfl rfl rfl ?_
        refine St.p rfl rfl ?_
        refine St.p rfl rfl ?_
        refine St.gOff (dj := 21) rfl rfl rfl rfl ?_
        refine St.gOff (dj := 21) rfl rfl rfl rfl ?_
        refine St.gOff (dj := 21) rfl rfl rfl rfl ?_
        refine St.p rfl rfl ?_
        refine St.p rfl rfl ?_
        refine St.gOff (dj := 26) rfl rfl rfl rfl ?_
        refine St.gOff (dj := 26) rfl rfl rfl rfl ?_
        refine St.gOff (dj := 26) rfl rfl rfl rfl ?_
        refine St.p rfl rfl ?_
        refine St.p rfl rfl ?_
        refine St.done ?_
        injection hj1 with hj1
        subst hj1
        refine St.thenN ?_
        exact St.hereE () ⟨rfl, trivial⟩ (fun _ w => ((.d .z) : Keep _ _).sat w)
    · replace hj1 := bif_f hb1 hj1
      refine St.gOff (dj := 6) rfl rfl rfl rfl ?_
      refine St.gOff (dj := 6) rfl rfl rfl rfl ?_
      refine St.gOff (dj := 6) rfl rfl rfl rfl ?_
      refine St.p rfl rfl ?_
      refine St.p rfl rfl ?_
      refine St.gOff (dj := 11) rfl rfl rfl rfl ?_
      refine St.gOff (dj := 11) rfl rfl rfl rfl ?_
      refine St.gOff (dj := 11) rfl rfl rfl rfl ?_
      refine St.p rfl rfl ?_
      refine St.p rfl rfl ?_
      refine St.gOff (dj := 16) rfl rfl rfl rfl ?_
      refine St.gOff (dj := 16) rfl rfl rfl rfl ?_
      refine St.gOff (dj := 16) rfl rfl rfl rfl ?_
      refine St.p rfl rfl ?_
      refine St.p rfl rfl ?_
      refine St.gOff (dj := 21) rfl rfl rfl rfl ?_
      refine St.gOff (dj := 21) rfl rfl rfl rfl ?_
      refine St.gOff (dj := 21) rfl rfl rfl rfl ?_
      refine St.p rfl rfl ?_
      refine St.p rfl rfl ?_
      refine St.gOff (dj := 26) rfl rfl rfl rfl ?_
      refine St.gOff (dj := 26) rfl rfl rfl rfl ?_
      refine St.gOff (dj := 26) rfl rfl rfl rfl ?_
      refine St.p rfl rfl ?_
      refine St.p rfl rfl ?_
      refine St.done ?_
      injection hj1 with hj1
      subst hj1
      refine St.thenN ?_
      exact St.hereE () ⟨rfl, trivial⟩ (fun _ w => ((.d .z) : Keep _ _).sat w)
  · rintro e1
    refine St.ret ?_
    repeat (first | refine St.thenR ?_ | refine St.blkR ?_)
    injection h with h
    subst h
    exact St.finR Try.results73 (.tmp rfl .nil) rfl [] ⟨rfl, rfl⟩ (fun _ w => (.z : Keep _ _).sat w)

theorem ent54 : Ent Try.prog 54 := ⟨_, Try.func54, by kernel_rfl, by kernel_rfl⟩

noncomputable def m_ref28_Right (i_p0 : T_Image) : Option Bool :=
  bnd ((bnd (m_ref27_Name i_p0.Name) fun r1 => bif r1 then (bnd (m_ref27_Valid i_p0.Version) fun r2 => bif r2 then (bif decide ((i_p0.Data.length : Int) ≥ 1) then (some (decide ((i_p0.Data.length : Int) ≤ 512))) else (some false)) else (some false)) else (some false) : Option Bool)) fun o1 => some o1

theorem c_ref28_Right {i_p0 : T_Image} {A1 : Option Addr} {c1 : Nat} {r : Bool} (h : m_ref28_Right i_p0 = some r) :
    Fun Try.prog 54 [.agg (bx_T_Image i_p0 A1 c1).toArray] [.ro (SlL eu8 A1 c1 i_p0.Data)] (Val (.bool r)) := by
  unfold m_ref28_Right at h
  refine Fun.intro Try.func54 rfl rfl rfl fun w R => ?_
  refine St.seq ?_
  refine St.region ?_
  refine St.box rfl rfl fun g1 => ?_
  refine St.p rfl rfl ?_
  refine St.done ?_
  refine St.thenN ?_
  refine St.prune (Γ' := [(1, _)]) ⟨rfl, trivial⟩ (.k (.k .z)) ?_
  refine St.seq ?_
  obtain ⟨o1, hj1, h⟩ := bnd_e h
  refine St.cutE (fun (e1 : Unit) => [(2, .bool o1)]) (fun e1 => R) ?_ ?_
  · refine St.region ?_
    refine St.p rfl rfl ?_
    refine St.loadB 0 rfl rfl (.head _) rfl rfl ?_
    obtain ⟨r1, hr1, hj1⟩ := bnd_e hj1
    refine St.callV (c_ref27_Name hr1) ent58 rfl rfl rfl rfl trivial ?_
    refine St.p rfl rfl ?_
    refine St.gSplit (dj := 6) _ rfl (fun hb1 => ?_) (fun hb1 => ?_)
    · replace hj1 := bif_t hb1 hj1
      refine St.gOn (dj := 6) rfl rfl ?_
      refine St.p rfl rfl ?_
      refine St.gOn (dj := 6) rfl rfl ?_
      refine St.loadB 1 rfl rfl (.head _) rfl rfl ?_
      refine St.gOn (dj := 6) rfl rfl ?_
      obtain ⟨r2, hr2, hj1⟩ := bnd_e hj1
      refine St.callV (c_ref27_Valid hr2) ent73 rfl rfl rfl rfl trivial ?_
      refine St.p rfl rfl ?_
      refine St.p rfl rfl ?_
      refine St.gSplit (dj := 11) _ rfl (fun hb2 => ?_) (fun hb2 => ?_)
      · replace hj1 := bif_t hb2 hj1
        refine St.gOn (dj := 11) rfl rfl ?_
        refine St.p rfl rfl ?_
        refine St.gOn (dj := 11) rfl rfl ?_
        refine St.loadB 4 rfl rfl (.head _) rfl rfl ?_
        refine St.gOn (dj := 11) rfl rfl ?_
        refine St.p rfl rfl ?_
        refine St.gOn (dj := 11) rfl rfl ?_
        iterate 3 refine St.p rfl rfl ?_
        refine St.gSplit (dj := 17) _ rfl (fun hb3 => ?_) (fun hb3 => ?_)
        · replace hj1 := bif_t hb3 hj1
          refine St.gOn (dj := 17) rfl rfl ?_
          refine St.p rfl rfl ?_
          refine St.gOn (dj := 17) rfl rfl ?_
          refine St.loadB 4 rfl rfl (.head _) rfl rfl ?_
          refine St.gOn (dj := 17) rfl rfl ?_
          refine St.p rfl rfl ?_
          refine St.gOn (dj := 17) rfl rfl ?_
          iterate 3 refine St.p rfl rfl ?_
          refine St.done ?_
          injection hj1 with hj1
          subst hj1
          refine St.thenN ?_
          exact St.hereE () ⟨rfl, trivial⟩ (fun _ w => ((.d (.d .z)) : Keep _ _).sat w)
        · replace hj1 := bif_f hb3 hj1
          refine St.gOff (dj := 17) rfl rfl rfl rfl ?_
          refine St.gOff (dj := 17) rfl rfl rfl rfl ?_
          refine St.gOff (dj := 17) rfl rfl rfl rfl ?_
          refine St.gOff (dj := 17) rfl rfl rfl rfl ?_
          refine St.p rfl rfl ?_
          refine St.p rfl rfl ?_
          refine St.done ?_
          injection hj1 with hj1
          subst hj1
          refine St.thenN ?_
          exact St.hereE () ⟨rfl, trivial⟩ (fun _ w => ((.d (.d .z)) : Keep _ _).sat w)
      · replace hj1 := bif_f hb2 hj1
        refine St.gOff (dj := 11) rfl rfl rfl rfl ?_
        refine St.gOff (dj := 11) rfl rfl rfl rfl ?_
        refine St.gOff (dj := 11) rfl rfl rfl rfl ?_
        refine St.gOff (dj := 11) rfl rfl rfl rfl ?_
        refine St.p rfl rfl ?_
        refine St.p rfl rfl ?_
        refine St.gOff (dj := 17) rfl rfl rfl rfl ?_
        refine St.gOff (dj := 17) rfl rfl rfl rfl ?_
        refine St.gOff (dj := 17) rfl rfl rfl rfl ?_
        refine St.gOff (dj := 17) rfl rfl rfl rfl ?_
        refine St.p rfl rfl ?_
        refine St.p rfl rfl ?_
        refine St.done ?_
        injection hj1 with hj1
        subst hj1
        refine St.thenN ?_
        exact St.hereE () ⟨rfl, trivial⟩ (fun _ w => ((.d (.d .z)) : Keep _ _).sat w)
    · replace hj1 := bif_f hb1 hj1
      refine St.gOff (dj := 6) rfl rfl rfl rfl ?_
      refine St.gOff (dj := 6) rfl rfl rfl rfl ?_
      refine St.gOff (dj := 6) rfl rfl rfl rfl ?_
      refine St.p rfl rfl ?_
      refine St.p rfl rfl ?_
      refine St.gOff (dj := 11) rfl rfl rfl rfl ?_
      refine St.gOff (dj := 11) rfl rfl rfl rfl ?_
      refine St.gOff (dj := 11) rfl rfl rfl rfl ?_
      refine St.gOff (dj := 11) rfl rfl rfl rfl ?_
      refine St.p rfl rfl ?_
      refine St.p rfl rfl ?_
      refine St.gOff (dj := 17) rfl rfl rfl rfl ?_
      refine St.gOff (dj := 17) rfl rfl rfl rfl ?_
      refine St.gOff (dj := 17) rfl rfl rfl rfl ?_
      refine St.gOff (dj := 17) rfl rfl rfl rfl ?_
      refine St.p rfl rfl ?_
      refine St.p rfl rfl ?_
      refine St.done ?_
      injection hj1 with hj1
      subst hj1
      refine St.thenN ?_
      exact St.hereE () ⟨rfl, trivial⟩ (fun _ w => ((.d (.d .z)) : Keep _ _).sat w)
  · rintro e1
    refine St.ret ?_
    repeat (first | refine St.thenR ?_ | refine St.blkR ?_)
    injection h with h
    subst h
    exact St.finR Try.results54 (.tmp rfl .nil) rfl [] ⟨rfl, rfl⟩ (fun _ w => (.z : Keep _ _).sat w)

theorem ent57 : Ent Try.prog 57 := ⟨_, Try.func57, by kernel_rfl, by kernel_rfl⟩

noncomputable def m_ref29_Image (i_p0 : T_Image) : Option T_Image :=
  bnd (app 1 ([]) i_p0.Data) fun l1 => some (⟨i_p0.Name, i_p0.Version, l1⟩ : T_Image)

theorem c_ref29_Image {i_p0 : T_Image} {A1 : Option Addr} {c1 : Nat} {r : T_Image} (h : m_ref29_Image i_p0 = some r) :
    Fun Try.prog 57 [.agg (bx_T_Image i_p0 A1 c1).toArray] [.ro (SlL eu8 A1 c1 i_p0.Data)] (fun v_ F_ => ∃ (A1 : Option Addr) (c1 : Nat), v_ = .agg (bx_T_Image r A1 c1).toArray ∧ F_ = [.ro (SlL eu8 A1 c1 r.Data)]) := by
  unfold m_ref29_Image at h
  refine Fun.intro Try.func57 rfl rfl rfl fun w R => ?_
  refine St.seq ?_
  refine St.region ?_
  refine St.box rfl rfl fun g1 => ?_
  refine St.alloc rfl rfl fun g2 => ?_
  refine St.done ?_
  refine St.thenN ?_
  refine St.prune (Γ' := [(1, _), (2, _)]) ⟨rfl, rfl, trivial⟩ (.k (.k (.k .z))) ?_
  refine St.seq ?_
  refine St.region ?_
  refine St.p rfl rfl ?_
  refine St.loadB 4 rfl rfl (.tail _ (.head _)) rfl rfl ?_
  refine St.asrt (fun _ w => w.nilL eu8 5) ?_
  obtain ⟨l1, hl1, h⟩ := bnd_e h
  refine St.app (E := eu8) hl1 rfl rfl rfl .z rfl rfl rfl rfl rfl rfl rfl rfl (srcL (.tail _ (.tail _ (.tail _ (.head _))))) rfl rfl fun A2 c2 => ?_
  refine St.p rfl rfl ?_
  refine St.store 4 rfl rfl rfl rfl rfl rfl (.s (.s .z)) rfl ?_
  refine St.done ?_
  refine St.thenN ?_
  refine St.prune (Γ' := [(1, _), (2, _)]) ⟨rfl, rfl, trivial⟩ (.k (.k (.k (.d .z)))) ?_
  refine St.seq ?_
  refine St.region ?_
  refine St.loadB 0 rfl rfl (.head _) rfl rfl ?_
  refine St.store 0 rfl rfl rfl rfl rfl rfl (.s (.s .z)) rfl ?_
  refine St.done ?_
  refine St.thenN ?_
  refine St.prune (Γ' := [(2, _)]) ⟨rfl, trivial⟩ (.k (.d (.k .z))) ?_
  refine St.ret ?_
  repeat (first | refine St.thenR ?_ | refine St.blkR ?_)
  refine St.asrt (fun _ w => (w.front (.s .z)).meltL) ?_
  injection h with h
  subst h
  exact St.finR Try.results57 (.cell rfl (.tail _ (.head _)) rfl .nil) rfl [.ro (SlL eu8 A2 c2 l1)] ⟨A2, c2, rfl, rfl⟩ (fun _ w => ((.k (.d (.d .z))) : Keep _ _).sat (Sat.dup (G := [.ro (SlL eu8 A2 c2 l1)]) rfl ⟨(.head _), trivial⟩ w))

theorem ent74 : Ent Try.prog 74 := ⟨_, Try.func74, by kernel_rfl, by kernel_rfl⟩

noncomputable def m_ref28_name (s_p0 : ByteArray) : Option (List Int) :=
  bnd (app 1 ([IntKind.wrap .u8 (s_p0.size : Int)]) (bytesOf s_p0)) fun l1 => some l1

theorem c_ref28_name {s_p0 : ByteArray} {r : (List Int)} (h : m_ref28_name s_p0 = some r) :
    Fun Try.prog 74 [.string s_p0] [] (fun v_ F_ => ∃ (A1 : Option Addr) (c1 : Nat), v_ = .slice A1 r.length c1 ∧ F_ = [.res (OwnL eu8 5 A1 c1 r)]) := by
  unfold m_ref28_name at h
  refine Fun.intro Try.func74 rfl rfl rfl fun w R => ?_
  refine St.seq ?_
  refine St.region ?_
  refine St.p rfl rfl ?_
  refine St.done ?_
  refine St.thenN ?_
  refine St.prune (Γ' := [(0, _)]) ⟨rfl, trivial⟩ .z ?_
  refine St.seq ?_
  refine St.region ?_
  iterate 3 refine St.p rfl rfl ?_
  refine St.buildSlice rfl rfl rfl rfl rfl rfl rfl rfl fun g1 => ?_
  refine St.p rfl rfl ?_
  refine St.asrt (fun _ w => (w.front .z).litL (E := eu8) (e := 5) [IntKind.wrap .u8 (s_p0.size : Int)] rfl rfl) ?_
  obtain ⟨l1, hl1, h⟩ := bnd_e h
  refine St.app (E := eu8) hl1 rfl rfl rfl .z rfl rfl rfl rfl rfl rfl rfl (by simp [bytesOf, ByteArray.toList_eq]) (srcS s_p0) rfl rfl fun A1 c1 => ?_
  refine St.p rfl rfl ?_
  refine St.done ?_
  refine St.thenN ?_
  refine St.prune (Γ' := [(2, _)]) ⟨rfl, trivial⟩ (.k .z) ?_
  refine St.ret ?_
  repeat (first | refine St.thenR ?_ | refine St.blkR ?_)
  injection h with h
  subst h
  exact St.finR Try.results74 (.tmp rfl .nil) rfl [.res (OwnL eu8 5 A1 c1 l1)] ⟨A1, c1, rfl, rfl⟩ (fun _ w => ((.k .z) : Keep _ _).sat w)

theorem ent76 : Ent Try.prog 76 := ⟨_, Try.func76, by kernel_rfl, by kernel_rfl⟩

noncomputable def m_ref28_two (n_p0 : Int) : Option (List Int) :=
  some ([IntKind.wrap .u8 (iShr .i64 n_p0 8), IntKind.wrap .u8 n_p0])

theorem c_ref28_two {n_p0 : Int} {r : (List Int)} (h : m_ref28_two n_p0 = some r) :
    Fun Try.prog 76 [.int .i64 n_p0] [] (fun v_ F_ => ∃ (A1 : Option Addr) (c1 : Nat), v_ = .slice A1 r.length c1 ∧ F_ = [.res (OwnL eu8 5 A1 c1 r)]) := by
  unfold m_ref28_two at h
  refine Fun.intro Try.func76 rfl rfl rfl fun w R => ?_
  refine St.seq ?_
  refine St.region ?_
  refine St.p rfl rfl ?_
  refine St.done ?_
  refine St.thenN ?_
  refine St.prune (Γ' := [(0, _)]) ⟨rfl, trivial⟩ .z ?_
  refine St.seq ?_
  refine St.region ?_
  iterate 5 refine St.p rfl rfl ?_
  refine St.buildSlice rfl rfl rfl rfl rfl rfl rfl rfl fun g1 => ?_
  refine St.p rfl rfl ?_
  refine St.done ?_
  refine St.thenN ?_
  refine St.prune (Γ' := [(2, _)]) ⟨rfl, trivial⟩ (.k .z) ?_
  refine St.ret ?_
  repeat (first | refine St.thenR ?_ | refine St.blkR ?_)
  refine St.asrt (fun _ w => (w.front .z).litL (E := eu8) (e := 5) [IntKind.wrap .u8 (iShr .i64 n_p0 8), IntKind.wrap .u8 n_p0] rfl rfl) ?_
  injection h with h
  subst h
  exact St.finR Try.results76 (.tmp rfl .nil) rfl [.res (OwnL eu8 5 (some ⟨g1, 0, none⟩) ([IntKind.wrap .u8 (iShr .i64 n_p0 8), IntKind.wrap .u8 n_p0] : List Int).length ([IntKind.wrap .u8 (iShr .i64 n_p0 8), IntKind.wrap .u8 n_p0]))] ⟨(some ⟨g1, 0, none⟩), ([IntKind.wrap .u8 (iShr .i64 n_p0 8), IntKind.wrap .u8 n_p0] : List Int).length, rfl, rfl⟩ (fun _ w => ((.k .z) : Keep _ _).sat w)

theorem ent75 : Ent Try.prog 75 := ⟨_, Try.func75, by kernel_rfl, by kernel_rfl⟩

noncomputable def m_ref28_version (v_p0 : T_Version) : Option (List Int) :=
  bnd (m_ref28_two v_p0.Major) fun r1 => bnd (m_ref28_two v_p0.Minor) fun r2 => bnd (app 1 r1 r2) fun l1 => bnd (m_ref28_two v_p0.Patch) fun r3 => bnd (app 1 l1 r3) fun l2 => some l2

theorem c_ref28_version {v_p0 : T_Version} {r : (List Int)} (h : m_ref28_version v_p0 = some r) :
    Fun Try.prog 75 [.agg #[.int .i64 v_p0.Major, .int .i64 v_p0.Minor, .int .i64 v_p0.Patch]] [] (fun v_ F_ => ∃ (A1 : Option Addr) (c1 : Nat), v_ = .slice A1 r.length c1 ∧ F_ = [.res (OwnL eu8 5 A1 c1 r)]) := by
  unfold m_ref28_version at h
  refine Fun.intro Try.func75 rfl rfl rfl fun w R => ?_
  refine St.seq ?_
  refine St.region ?_
  refine St.box rfl rfl fun g1 => ?_
  refine St.p rfl rfl ?_
  refine St.done ?_
  refine St.thenN ?_
  refine St.prune (Γ' := [(1, _)]) ⟨rfl, trivial⟩ (.k .z) ?_
  refine St.seq ?_
  refine St.regionX (iL [(.fl, 0), (.fx, 1), (.fl, 3), (.fl, 4), (.fl, 7), (.fl, 8), (.ef, 2), (.ef, 5), (.ef, 6), (.ef, 9), (.ef, 10), (.fl, 11)] .nil) (.res (Box g1 28 [.int .i64 v_p0.Major, .int .i64 v_p0.Minor, .int .i64 v_p0.Patch]) :: R) mixed (by kernel_rfl) (fun _ w => ((.k .z) : Keep _ _).sat w) ?_
  refine St.xfl (fun _ h => h) (Rd.p rfl) rfl ?_
  refine St.xfx (Rd.loadB 0 rfl (.head _) rfl rfl) rfl ?_
  refine St.xfl (fun _ h => h) (Rd.p rfl) rfl ?_
  refine St.xfl (fun _ h => h) (Rd.loadB 1 rfl (.head _) rfl rfl) rfl ?_
  refine St.xfl (fun _ h => h) (Rd.p rfl) rfl ?_
  refine St.xfl (fun _ h => h) (Rd.loadB 2 rfl (.head _) rfl rfl) rfl ?_
  refine St.xef ?_
  obtain ⟨r1, hr1, h⟩ := bnd_e h
  refine St.call (c_ref28_two hr1) ent76 rfl rfl rfl (fun _ w => w) ?_
  rintro _ _ ⟨A1, c1, rfl, rfl⟩
  refine St.asrt (F' := .res (OwnL eu8 5 A1 c1 r1) :: .res (Box g1 28 [.int .i64 v_p0.Major, .int .i64 v_p0.Minor, .int .i64 v_p0.Patch]) :: R) (fun _ w => w) ?_
  refine St.xk (fun _ w => ((.d (.k .z)) : Keep _ _).sat w) ?_
  refine St.xef ?_
  obtain ⟨r2, hr2, h⟩ := bnd_e h
  refine St.call (c_ref28_two hr2) ent76 rfl rfl rfl (fun _ w => w) ?_
  rintro _ _ ⟨A2, c2, rfl, rfl⟩
  refine St.asrt (F' := .res (OwnL eu8 5 A2 c2 r2) :: .res (OwnL eu8 5 A1 c1 r1) :: .res (Box g1 28 [.int .i64 v_p0.Major, .int .i64 v_p0.Minor, .int .i64 v_p0.Patch]) :: R) (fun _ w => w) ?_
  refine St.xk (fun _ w => ((.d (.d (.k .z))) : Keep _ _).sat w) ?_
  refine St.xef ?_
  refine St.asrt (fun _ w => (w.front .z).meltL) ?_
  obtain ⟨l1, hl1, h⟩ := bnd_e h
  refine St.app (E := eu8) hl1 rfl rfl rfl (.s .z) rfl rfl rfl rfl rfl rfl rfl rfl (srcL (.head _)) rfl rfl fun A3 c3 => ?_
  refine St.xk (fun _ w => ((.d (.d (.k .z))) : Keep _ _).sat w) ?_
  refine St.xef ?_
  obtain ⟨r3, hr3, h⟩ := bnd_e h
  refine St.call (c_ref28_two hr3) ent76 rfl rfl rfl (fun _ w => w) ?_
  rintro _ _ ⟨A4, c4, rfl, rfl⟩
  refine St.asrt (F' := .res (OwnL eu8 5 A4 c4 r3) :: .res (OwnL eu8 5 A3 c3 l1) :: .ro (SlL eu8 A2 c2 r2) :: .res (Box g1 28 [.int .i64 v_p0.Major, .int .i64 v_p0.Minor, .int .i64 v_p0.Patch]) :: R) (fun _ w => w) ?_
  refine St.xk (fun _ w => ((.d (.d (.d (.k .z)))) : Keep _ _).sat w) ?_
  refine St.xef ?_
  refine St.asrt (fun _ w => (w.front .z).meltL) ?_
  obtain ⟨l2, hl2, h⟩ := bnd_e h
  refine St.app (E := eu8) hl2 rfl rfl rfl (.s .z) rfl rfl rfl rfl rfl rfl rfl rfl (srcL (.head _)) rfl rfl fun A5 c5 => ?_
  refine St.xk (fun _ w => ((.d (.d (.d (.k .z)))) : Keep _ _).sat w) ?_
  refine St.xfl (fun _ h => h) (Rd.p rfl) rfl ?_
  refine St.xdone ?_
  refine St.thenN ?_
  refine St.prune (Γ' := [(2, _)]) ⟨rfl, trivial⟩ (.k (.d (.d (.d .z)))) ?_
  refine St.ret ?_
  repeat (first | refine St.thenR ?_ | refine St.blkR ?_)
  injection h with h
  subst h
  exact St.finR Try.results75 (.tmp rfl .nil) rfl [.res (OwnL eu8 5 A5 c5 l2)] ⟨A5, c5, rfl, rfl⟩ (fun _ w => ((.k .z) : Keep _ _).sat w)

theorem ent56 : Ent Try.prog 56 := ⟨_, Try.func56, by kernel_rfl, by kernel_rfl⟩

noncomputable def m_ref28_image (i_p0 : T_Image) : Option (List Int) :=
  bnd (m_ref28_name i_p0.Name) fun r1 => bnd (m_ref28_version i_p0.Version) fun r2 => bnd (app 1 r1 r2) fun l1 => bnd (m_ref28_two (i_p0.Data.length : Int)) fun r3 => bnd (app 1 l1 r3) fun l2 => bnd (app 1 l2 i_p0.Data) fun l3 => some l3

theorem c_ref28_image {i_p0 : T_Image} {A1 : Option Addr} {c1 : Nat} {r : (List Int)} (h : m_ref28_image i_p0 = some r) :
    Fun Try.prog 56 [.agg (bx_T_Image i_p0 A1 c1).toArray] [.ro (SlL eu8 A1 c1 i_p0.Data)] (fun v_ F_ => ∃ (A1 : Option Addr) (c1 : Nat), v_ = .slice A1 r.length c1 ∧ F_ = [.res (OwnL eu8 5 A1 c1 r)]) := by
  unfold m_ref28_image at h
  refine Fun.intro Try.func56 rfl rfl rfl fun w R => ?_
  refine St.seq ?_
  refine St.region ?_
  refine St.box rfl rfl fun g1 => ?_
  refine St.p rfl rfl ?_
  refine St.done ?_
  refine St.thenN ?_
  refine St.prune (Γ' := [(1, _)]) ⟨rfl, trivial⟩ (.k (.k .z)) ?_
  refine St.seq ?_
  refine St.regionX (iL [(.fl, 0), (.fx, 1), (.fl, 3), (.fl, 4), (.ef, 2), (.ef, 5), (.ef, 6), (.fl, 7)] .nil) (.res (Box g1 30 (bx_T_Image i_p0 A1 c1)) :: .ro (SlL eu8 A1 c1 i_p0.Data) :: R) mixed (by kernel_rfl) (fun _ w => ((.k (.k .z)) : Keep _ _).sat w) ?_
  refine St.xfl (fun _ h => h) (Rd.p rfl) rfl ?_
  refine St.xfx (Rd.loadB 0 rfl (.head _) rfl rfl) rfl ?_
  refine St.xfl (fun _ h => h) (Rd.p rfl) rfl ?_
  refine St.xfl (fun _ h => h) (Rd.loadB 1 rfl (.head _) rfl rfl) rfl ?_
  refine St.xef ?_
  obtain ⟨r1, hr1, h⟩ := bnd_e h
  refine St.call (c_ref28_name hr1) ent74 rfl rfl rfl (fun _ w => w) ?_
  rintro _ _ ⟨A2, c2, rfl, rfl⟩
  refine St.asrt (F' := .res (OwnL eu8 5 A2 c2 r1) :: .res (Box g1 30 (bx_T_Image i_p0 A1 c1)) :: .ro (SlL eu8 A1 c1 i_p0.Data) :: R) (fun _ w => w) ?_
  refine St.xk (fun _ w => ((.d (.k (.k .z))) : Keep _ _).sat w) ?_
  refine St.xef ?_
  obtain ⟨r2, hr2, h⟩ := bnd_e h
  refine St.call (c_ref28_version hr2) ent75 rfl rfl rfl (fun _ w => w) ?_
  rintro _ _ ⟨A3, c3, rfl, rfl⟩
  refine St.asrt (F' := .res (OwnL eu8 5 A3 c3 r2) :: .res (OwnL eu8 5 A2 c2 r1) :: .res (Box g1 30 (bx_T_Image i_p0 A1 c1)) :: .ro (SlL eu8 A1 c1 i_p0.Data) :: R) (fun _ w => w) ?_
  refine St.xk (fun _ w => ((.d (.d (.k (.k .z)))) : Keep _ _).sat w) ?_
  refine St.xef ?_
  refine St.asrt (fun _ w => (w.front .z).meltL) ?_
  obtain ⟨l1, hl1, h⟩ := bnd_e h
  refine St.app (E := eu8) hl1 rfl rfl rfl (.s .z) rfl rfl rfl rfl rfl rfl rfl rfl (srcL (.head _)) rfl rfl fun A4 c4 => ?_
  refine St.xk (fun _ w => ((.d (.d (.k (.k .z)))) : Keep _ _).sat w) ?_
  refine St.xfl (fun _ h => h) (Rd.p rfl) rfl ?_
  refine St.xdone ?_
  refine St.thenN ?_
  refine St.prune (Γ' := [(1, _), (3, _)]) ⟨rfl, rfl, trivial⟩ (.k (.d (.k (.k .z)))) ?_
  refine St.seq ?_
  refine St.region ?_
  refine St.p rfl rfl ?_
  refine St.p rfl rfl ?_
  refine St.loadB 4 rfl rfl (.tail _ (.head _)) rfl rfl ?_
  refine St.p rfl rfl ?_
  obtain ⟨r3, hr3, h⟩ := bnd_e h
  refine St.call (c_ref28_two hr3) ent76 rfl rfl rfl (fun _ w => w) ?_
  rintro _ _ ⟨A5, c5, rfl, rfl⟩
  refine St.asrt (F' := .res (OwnL eu8 5 A5 c5 r3) :: .res (OwnL eu8 5 A4 c4 l1) :: .res (Box g1 30 (bx_T_Image i_p0 A1 c1)) :: .ro (SlL eu8 A1 c1 i_p0.Data) :: R) (fun _ w => w) ?_
  refine St.asrt (fun _ w => (w.front .z).meltL) ?_
  obtain ⟨l2, hl2, h⟩ := bnd_e h
  refine St.app (E := eu8) hl2 rfl rfl rfl (.s .z) rfl rfl rfl rfl rfl rfl rfl rfl (srcL (.head _)) rfl rfl fun A6 c6 => ?_
  refine St.p rfl rfl ?_
  refine St.done ?_
  refine St.thenN ?_
  refine St.prune (Γ' := [(1, _), (3, _)]) ⟨rfl, rfl, trivial⟩ (.k (.d (.k (.k .z)))) ?_
  refine St.seq ?_
  refine St.region ?_
  refine St.p rfl rfl ?_
  refine St.p rfl rfl ?_
  refine St.loadB 4 rfl rfl (.tail _ (.head _)) rfl rfl ?_
  obtain ⟨l3, hl3, h⟩ := bnd_e h
  refine St.app (E := eu8) hl3 rfl rfl rfl .z rfl rfl rfl rfl rfl rfl rfl rfl (srcL (.tail _ (.tail _ (.head _)))) rfl rfl fun A7 c7 => ?_
  refine St.p rfl rfl ?_
  refine St.done ?_
  refine St.thenN ?_
  refine St.prune (Γ' := [(2, _)]) ⟨rfl, trivial⟩ (.k (.d (.d .z))) ?_
  refine St.ret ?_
  repeat (first | refine St.thenR ?_ | refine St.blkR ?_)
  injection h with h
  subst h
  exact St.finR Try.results56 (.tmp rfl .nil) rfl [.res (OwnL eu8 5 A7 c7 l3)] ⟨A7, c7, rfl, rfl⟩ (fun _ w => ((.k .z) : Keep _ _).sat w)

theorem ent55 : Ent Try.prog 55 := ⟨_, Try.func55, by kernel_rfl, by kernel_rfl⟩

noncomputable def m_ref01_CRC32 (b_p0 : (List Int)) : Option Int :=
  bnd (loopM (τ := Int) (fun (s1 : Int × Int) => bif decide (s1.2 < (b_p0.length : Int)) then (bnd (elt b_p0 s1.2) fun x1 => bnd (loopM (τ := Int) (fun (s2 : Int × Int) => bif decide (s2.2 < 8) then (bif ((s2.1.tmod 2) == 1) then (some (.next (iXor .u32 (IntKind.wrap .u32 (s2.1.tdiv 2)) 3988292384, IntKind.wrap .i64 (s2.2 + 1)))) else (some (.next (IntKind.wrap .u32 (s2.1.tdiv 2), IntKind.wrap .i64 (s2.2 + 1))))) else (some (.done s2.1))) (iXor .u32 s1.1 (IntKind.wrap .u32 x1), 0)) fun o2 => some (.next (o2, IntKind.wrap .i64 (s1.2 + 1)))) else (some (.done s1.1))) (4294967295, 0)) fun o1 => some (IntKind.wrap .u32 (4294967295 - o1))

theorem c_ref01_CRC32 {b_p0 : (List Int)} {A1 : Option Addr} {c1 : Nat} {r : Int} (h : m_ref01_CRC32 b_p0 = some r) :
    Fun Try.prog 55 [.slice A1 b_p0.length c1] [.ro (SlL eu8 A1 c1 b_p0)] (Val (.int .u32 r)) := by
  unfold m_ref01_CRC32 at h
  refine Fun.intro Try.func55 rfl rfl rfl fun w R => ?_
  refine St.seq ?_
  refine St.region ?_
  refine St.p rfl rfl ?_
  refine St.done ?_
  refine St.thenN ?_
  refine St.prune (Γ' := [(0, _)]) ⟨rfl, trivial⟩ (.k .z) ?_
  refine St.seq ?_
  refine St.region ?_
  refine St.p rfl rfl ?_
  refine St.done ?_
  refine St.thenN ?_
  refine St.seq ?_
  refine St.seq ?_
  refine St.region ?_
  refine St.p rfl rfl ?_
  refine St.done ?_
  refine St.thenN ?_
  obtain ⟨o1, hl1, h⟩ := bnd_e h
  refine St.cutE (fun (e2 : Unit) => [(3, .int .u32 o1)]) (fun e2 => R) ?_ ?_
  · refine St.block ?_
    refine St.loop hl1 (fun (s1 : Int × Int) (e1 : Unit) => [(0, .slice A1 b_p0.length c1), (3, .int .u32 s1.1), (4, .int .i64 s1.2)]) (fun s1 e1 => .ro (SlL eu8 A1 c1 b_p0) :: R) (fun _ _ => True) () trivial ⟨rfl, rfl, rfl, trivial⟩ (fun _ w => ((.k .z) : Keep _ _).sat w) ?_
    rintro s1 e1 - hit1
    obtain ⟨st1, hm1, hd1⟩ := iter_e hit1
    have h1 := hm1
    refine St.seq ?_
    refine St.seq ?_
    refine St.region ?_
    iterate 4 refine St.p rfl rfl ?_
    refine St.done ?_
    refine St.thenN ?_
    refine St.prune (Γ' := [(0, _), (3, _), (4, _), (10, _)]) ⟨rfl, rfl, rfl, rfl, trivial⟩ (.k .z) ?_
    refine St.cond _ rfl (fun hb1 => ?_) (fun hb1 => ?_)
    · replace h1 := bif_t hb1 h1
      refine St.skip ?_
      refine St.thenN ?_
      refine St.prune (Γ' := [(0, _), (3, _), (4, _)]) ⟨rfl, rfl, rfl, trivial⟩ (.k .z) ?_
      refine St.seq ?_
      refine St.block ?_
      refine St.seq ?_
      refine St.region ?_
      iterate 3 refine St.p rfl rfl ?_
      obtain ⟨x1, hx1, h1⟩ := bnd_e h1
      refine St.ixL hx1 rfl rfl rfl (.head _) rfl rfl rfl rfl rfl fun b1 ob1 => ?_
      refine St.load ob1 0 rfl rfl (.head _) rfl rfl ?_
      iterate 3 refine St.p rfl rfl ?_
      refine St.done ?_
      refine St.thenN ?_
      refine St.prune (Γ' := [(0, _), (3, _), (4, _)]) ⟨rfl, rfl, rfl, trivial⟩ (.d (.k .z)) ?_
      refine St.seq ?_
      refine St.region ?_
      refine St.p rfl rfl ?_
      refine St.done ?_
      refine St.thenN ?_
      obtain ⟨o2, hl2, h1⟩ := bnd_e h1
      refine St.selfThen ?_
      refine St.cutE (fun (e4 : Unit) => [(0, .slice A1 b_p0.length c1), (3, .int .u32 o2), (4, .int .i64 s1.2)]) (fun e4 => .ro (SlL eu8 A1 c1 b_p0) :: R) ?_ ?_
      · refine St.block ?_
        refine St.loop hl2 (fun (s2 : Int × Int) (e3 : Unit) => [(0, .slice A1 b_p0.length c1), (3, .int .u32 s2.1), (4, .int .i64 s1.2), (5, .int .i64 s2.2)]) (fun s2 e3 => .ro (SlL eu8 A1 c1 b_p0) :: R) (fun _ _ => True) () trivial ⟨rfl, rfl, rfl, rfl, trivial⟩ (fun _ w => ((.k .z) : Keep _ _).sat w) ?_
        rintro s2 e3 - hit2
        obtain ⟨st2, hm2, hd2⟩ := iter_e hit2
        have h2 := hm2
        refine St.seq ?_
        refine St.seq ?_
        refine St.region ?_
        refine St.p rfl rfl ?_
        refine St.p rfl rfl ?_
        refine St.done ?_
        refine St.thenN ?_
        refine St.prune (Γ' := [(0, _), (3, _), (4, _), (5, _), (21, _)]) ⟨rfl, rfl, rfl, rfl, rfl, trivial⟩ (.k .z) ?_
        refine St.cond _ rfl (fun hb2 => ?_) (fun hb2 => ?_)
        · replace h2 := bif_t hb2 h2
          refine St.skip ?_
          refine St.thenN ?_
          refine St.prune (Γ' := [(0, _), (3, _), (4, _), (5, _)]) ⟨rfl, rfl, rfl, rfl, trivial⟩ (.k .z) ?_
          refine St.seq ?_
          refine St.block ?_
          refine St.seq ?_
          refine St.region ?_
          iterate 3 refine St.p rfl rfl ?_
          refine St.done ?_
          refine St.thenN ?_
          refine St.prune (Γ' := [(0, _), (3, _), (4, _), (5, _), (6, _)]) ⟨rfl, rfl, rfl, rfl, rfl, trivial⟩ (.k .z) ?_
          refine St.seq ?_
          refine St.region ?_
          iterate 3 refine St.p rfl rfl ?_
          refine St.done ?_
          refine St.thenN ?_
          refine St.prune (Γ' := [(0, _), (3, _), (4, _), (5, _), (6, _)]) ⟨rfl, rfl, rfl, rfl, rfl, trivial⟩ (.k .z) ?_
          refine St.seq ?_
          refine St.region ?_
          refine St.p rfl rfl ?_
          refine St.p rfl rfl ?_
          refine St.done ?_
          refine St.thenN ?_
          refine St.prune (Γ' := [(0, _), (3, _), (4, _), (5, _), (29, _)]) ⟨rfl, rfl, rfl, rfl, rfl, trivial⟩ (.k .z) ?_
          refine St.cond _ rfl (fun hb3 => ?_) (fun hb3 => ?_)
          · replace h2 := bif_t hb3 h2
            refine St.region ?_
            iterate 3 refine St.p rfl rfl ?_
            refine St.done ?_
            refine St.blkN ?_
            refine St.thenN ?_
            refine St.prune (Γ' := [(0, _), (3, _), (4, _), (5, _)]) ⟨rfl, rfl, rfl, rfl, trivial⟩ (.k .z) ?_
            refine St.region ?_
            iterate 3 refine St.p rfl rfl ?_
            refine St.done ?_
            injection h2 with h2
            subst h2
            refine St.thenN ?_
            exact St.again _ () hm2 trivial ⟨rfl, rfl, rfl, rfl, trivial⟩ (fun _ w => ((.k .z) : Keep _ _).sat w)
          · replace h2 := bif_f hb3 h2
            refine St.skip ?_
            refine St.blkN ?_
            refine St.thenN ?_
            refine St.prune (Γ' := [(0, _), (3, _), (4, _), (5, _)]) ⟨rfl, rfl, rfl, rfl, trivial⟩ (.k .z) ?_
            refine St.region ?_
            iterate 3 refine St.p rfl rfl ?_
            refine St.done ?_
            injection h2 with h2
            subst h2
            refine St.thenN ?_
            exact St.again _ () hm2 trivial ⟨rfl, rfl, rfl, rfl, trivial⟩ (fun _ w => ((.k .z) : Keep _ _).sat w)
        · replace h2 := bif_f hb2 h2
          refine St.exit ?_
          repeat (first | refine St.thenX ?_ | refine St.blkMiss rfl ?_)
          refine St.blkHit ?_
          injection h2 with h2
          subst h2
          have ho := hd2 _ rfl
          subst ho
          refine St.thenN ?_
          exact St.hereE () ⟨rfl, rfl, rfl, trivial⟩ (fun _ w => ((.k .z) : Keep _ _).sat w)
      · rintro e4
        refine St.blkN ?_
        refine St.thenN ?_
        refine St.region ?_
        iterate 3 refine St.p rfl rfl ?_
        refine St.done ?_
        injection h1 with h1
        subst h1
        refine St.thenN ?_
        exact St.again _ () hm1 trivial ⟨rfl, rfl, rfl, trivial⟩ (fun _ w => ((.k .z) : Keep _ _).sat w)
    · replace h1 := bif_f hb1 h1
      refine St.exit ?_
      repeat (first | refine St.thenX ?_ | refine St.blkMiss rfl ?_)
      refine St.blkHit ?_
      injection h1 with h1
      subst h1
      have ho := hd1 _ rfl
      subst ho
      refine St.thenN ?_
      exact St.hereE () ⟨rfl, trivial⟩ (fun _ w => ((.d .z) : Keep _ _).sat w)
  · rintro e2
    refine St.seq ?_
    refine St.region ?_
    iterate 3 refine St.p rfl rfl ?_
    refine St.done ?_
    refine St.thenN ?_
    refine St.prune (Γ' := [(2, _)]) ⟨rfl, trivial⟩ .z ?_
    refine St.ret ?_
    repeat (first | refine St.thenR ?_ | refine St.blkR ?_)
    injection h with h
    subst h
    exact St.finR Try.results55 (.tmp rfl .nil) rfl [] ⟨rfl, rfl⟩ (fun _ w => (.z : Keep _ _).sat w)

theorem ent28 : Ent Try.prog 28 := ⟨_, Try.func28, by kernel_rfl, by kernel_rfl⟩

noncomputable def m_ref28_Sum (i_p0 : T_Image) : Option Int :=
  bnd (m_ref28_Right i_p0) fun r1 => bif !r1 then (some 0) else (bnd (m_ref28_image i_p0) fun r2 => bnd (m_ref01_CRC32 r2) fun r3 => some r3)

theorem c_ref28_Sum {i_p0 : T_Image} {A1 : Option Addr} {c1 : Nat} {r : Int} (h : m_ref28_Sum i_p0 = some r) :
    Fun Try.prog 28 [.agg (bx_T_Image i_p0 A1 c1).toArray] [.ro (SlL eu8 A1 c1 i_p0.Data)] (Val (.int .u32 r)) := by
  unfold m_ref28_Sum at h
  refine Fun.intro Try.func28 rfl rfl rfl fun w R => ?_
  refine St.seq ?_
  refine St.region ?_
  refine St.box rfl rfl fun g1 => ?_
  refine St.p rfl rfl ?_
  refine St.done ?_
  refine St.thenN ?_
  refine St.prune (Γ' := [(1, _)]) ⟨rfl, trivial⟩ (.k (.k .z)) ?_
  refine St.seq ?_
  refine St.seq ?_
  refine St.region ?_
  refine St.loadB 0 rfl rfl (.head _) rfl rfl ?_
  obtain ⟨r1, hr1, h⟩ := bnd_e h
  refine St.callV (c_ref28_Right hr1) ent54 rfl rfl rfl rfl ⟨(.tail _ (.head _)), trivial⟩ ?_
  refine St.p rfl rfl ?_
  refine St.done ?_
  refine St.thenN ?_
  refine St.prune (Γ' := [(1, _), (5, _)]) ⟨rfl, rfl, trivial⟩ (.k (.k .z)) ?_
  refine St.cond _ rfl (fun hb1 => ?_) (fun hb1 => ?_)
  · replace h := bif_t hb1 h
    refine St.seq ?_
    refine St.region ?_
    refine St.p rfl rfl ?_
    refine St.done ?_
    refine St.thenN ?_
    refine St.prune (Γ' := [(2, _)]) ⟨rfl, trivial⟩ (.d (.d .z)) ?_
    refine St.ret ?_
    repeat (first | refine St.thenR ?_ | refine St.blkR ?_)
    injection h with h
    subst h
    exact St.finR Try.results28 (.tmp rfl .nil) rfl [] ⟨rfl, rfl⟩ (fun _ w => (.z : Keep _ _).sat w)
  · replace h := bif_f hb1 h
    refine St.skip ?_
    refine St.thenN ?_
    refine St.prune (Γ' := [(1, _)]) ⟨rfl, trivial⟩ (.k (.k .z)) ?_
    refine St.seq ?_
    refine St.region ?_
    refine St.loadB 0 rfl rfl (.head _) rfl rfl ?_
    obtain ⟨r2, hr2, h⟩ := bnd_e h
    refine St.call (c_ref28_image hr2) ent56 rfl rfl rfl (fun _ w => Sat.dup (G := [.ro (SlL eu8 A1 c1 i_p0.Data)]) rfl ⟨(.tail _ (.head _)), trivial⟩ w) ?_
    rintro _ _ ⟨A2, c2, rfl, rfl⟩
    refine St.asrt (F' := .res (OwnL eu8 5 A2 c2 r2) :: .res (Box g1 30 (bx_T_Image i_p0 A1 c1)) :: .ro (SlL eu8 A1 c1 i_p0.Data) :: R) (fun _ w => w) ?_
    refine St.asrt (fun _ w => (w.front .z).meltL) ?_
    obtain ⟨r3, hr3, h⟩ := bnd_e h
    refine St.callV (c_ref01_CRC32 hr3) ent55 rfl rfl rfl rfl ⟨(.head _), trivial⟩ ?_
    refine St.p rfl rfl ?_
    refine St.done ?_
    refine St.thenN ?_
    refine St.prune (Γ' := [(2, _)]) ⟨rfl, trivial⟩ (.d (.d (.d .z))) ?_
    refine St.ret ?_
    repeat (first | refine St.thenR ?_ | refine St.blkR ?_)
    injection h with h
    subst h
    exact St.finR Try.results28 (.tmp rfl .nil) rfl [] ⟨rfl, rfl⟩ (fun _ w => (.z : Keep _ _).sat w)

theorem ent29 : Ent Try.prog 29 := ⟨_, Try.func29, by kernel_rfl, by kernel_rfl⟩

noncomputable def m_ref29_New (i_p0 : T_Image) : Option (T_Device × Int) :=
  bnd (m_ref28_Right i_p0) fun r1 => bif !r1 then (some ((⟨⟨#[]⟩, (⟨(⟨(⟨⟨#[]⟩, (⟨0, 0, 0⟩ : T_Version), []⟩ : T_Image), 0⟩ : T_Slot), (⟨(⟨⟨#[]⟩, (⟨0, 0, 0⟩ : T_Version), []⟩ : T_Image), 0⟩ : T_Slot)⟩ : (Arr2 T_Slot)), 0, 0, false⟩ : T_Device), 1)) else (bnd (m_ref29_Image i_p0) fun r2 => bnd (m_ref28_Sum i_p0) fun r3 => some ((⟨i_p0.Name, (⟨(⟨r2, r3⟩ : T_Slot), (⟨(⟨⟨#[]⟩, (⟨0, 0, 0⟩ : T_Version), []⟩ : T_Image), 0⟩ : T_Slot)⟩ : (Arr2 T_Slot)), 0, 0, false⟩ : T_Device), 0))

theorem c_ref29_New {i_p0 : T_Image} {A1 : Option Addr} {c1 : Nat} {r : (T_Device × Int)} (h : m_ref29_New i_p0 = some r) :
    Fun Try.prog 29 [.agg (bx_T_Image i_p0 A1 c1).toArray] [.ro (SlL eu8 A1 c1 i_p0.Data)] (fun v_ F_ => ∃ (A1 : Option Addr) (c1 : Nat) (A2 : Option Addr) (c2 : Nat), v_ = .tuple #[.agg (bx_T_Device r.1 A1 c1 A2 c2).toArray, .int .i64 r.2] ∧ F_ = [.ro (SlL eu8 A1 c1 r.1.Slots.e0.Image.Data), .ro (SlL eu8 A2 c2 r.1.Slots.e1.Image.Data)]) := by
  unfold m_ref29_New at h
  refine Fun.intro Try.func29 rfl rfl rfl fun w R => ?_
  refine St.seq ?_
  refine St.region ?_
  refine St.box rfl rfl fun g1 => ?_
  refine St.alloc rfl rfl fun g2 => ?_
  refine St.p rfl rfl ?_
  refine St.done ?_
  refine St.thenN ?_
  refine St.prune (Γ' := [(1, _), (2, _)]) ⟨rfl, rfl, trivial⟩ (.k (.k (.k .z))) ?_
  refine St.seq ?_
  refine St.seq ?_
  refine St.region ?_
  refine St.loadB 0 rfl rfl (.tail _ (.head _)) rfl rfl ?_
  obtain ⟨r1, hr1, h⟩ := bnd_e h
  refine St.callV (c_ref28_Right hr1) ent54 rfl rfl rfl rfl ⟨(.tail _ (.tail _ (.head _))), trivial⟩ ?_
  refine St.p rfl rfl ?_
  refine St.done ?_
  refine St.thenN ?_
  refine St.prune (Γ' := [(1, _), (2, _), (7, _)]) ⟨rfl, rfl, rfl, trivial⟩ (.k (.k (.k .z))) ?_
  refine St.cond _ rfl (fun hb1 => ?_) (fun hb1 => ?_)
  · replace h := bif_t hb1 h
    refine St.seq ?_
    refine St.region ?_
    refine St.p rfl rfl ?_
    refine St.store 0 rfl rfl rfl rfl rfl rfl .z rfl ?_
    refine St.p rfl rfl ?_
    refine St.done ?_
    refine St.thenN ?_
    refine St.prune (Γ' := [(2, _), (3, _)]) ⟨rfl, rfl, trivial⟩ (.k (.d (.d .z))) ?_
    refine St.ret ?_
    repeat (first | refine St.thenR ?_ | refine St.blkR ?_)
    refine St.asrt (fun _ w => w.nilSl (cod eu8)) ?_
    refine St.asrt (fun _ w => w.nilSl (cod eu8)) ?_
    injection h with h
    subst h
    exact St.finR Try.results29 (.cell rfl (.tail _ (.tail _ (.head _))) rfl (.tmp rfl .nil)) rfl [.ro (SlL eu8 none 0 ([] : List Int)), .ro (SlL eu8 none 0 ([] : List Int))] ⟨none, 0, none, 0, rfl, rfl⟩ (fun _ w => ((.k (.k (.d (.d (.d .z))))) : Keep _ _).sat (Sat.dup (G := [.ro (SlL eu8 none 0 ([] : List Int)), .ro (SlL eu8 none 0 ([] : List Int))]) rfl ⟨(.head _), (.head _), trivial⟩ w))
  · replace h := bif_f hb1 h
    refine St.skip ?_
    refine St.thenN ?_
    refine St.prune (Γ' := [(1, _), (2, _)]) ⟨rfl, rfl, trivial⟩ (.k (.k (.k .z))) ?_
    refine St.seq ?_
    refine St.region ?_
    refine St.p rfl rfl ?_
    refine St.loadB 0 rfl rfl (.tail _ (.head _)) rfl rfl ?_
    refine St.p rfl rfl ?_
    refine St.alloc rfl rfl fun g3 => ?_
    refine St.store 0 rfl rfl rfl rfl rfl rfl .z rfl ?_
    refine St.done ?_
    refine St.thenN ?_
    refine St.prune (Γ' := [(1, _), (2, _), (4, _)]) ⟨rfl, rfl, rfl, trivial⟩ (.k (.k (.k (.k .z)))) ?_
    refine St.seq ?_
    refine St.regionX (iL [(.fx, 0), (.fl, 2), (.fl, 5), (.ef, 1), (.qc, 3), (.fl, 4), (.fl, 6), (.ef, 7)] .nil) (.res (Box g2 35 [.string (⟨#[]⟩), .string (⟨#[]⟩), .int .i64 0, .int .i64 0, .int .i64 0, .slice none 0 0, .int .u32 0, .string (⟨#[]⟩), .int .i64 0, .int .i64 0, .int .i64 0, .slice none 0 0, .int .u32 0, .int .i64 0, .int .i64 0, .bool false]) :: .res (Box g1 30 (bx_T_Image i_p0 A1 c1)) :: .ro (SlL eu8 A1 c1 i_p0.Data) :: R) mixed (by kernel_rfl) (fun _ w => ((.d (.k (.k (.k .z)))) : Keep _ _).sat w) ?_
    refine St.xfx (Rd.loadB 0 rfl (.tail _ (.tail _ (.head _))) rfl rfl) rfl ?_
    refine St.xfl (fun _ h => h) (Rd.loadB 0 rfl (.tail _ (.head _)) rfl rfl) rfl ?_
    refine St.xfl (fun _ h => h) (Rd.p rfl) rfl ?_
    refine St.xef ?_
    obtain ⟨r2, hr2, h⟩ := bnd_e h
    refine St.call (c_ref29_Image hr2) ent57 rfl rfl rfl (fun _ w => Sat.dup (G := [.ro (SlL eu8 A1 c1 i_p0.Data)]) rfl ⟨(.tail _ (.tail _ (.tail _ (.head _)))), trivial⟩ w) ?_
    rintro _ _ ⟨A2, c2, rfl, rfl⟩
    refine St.asrt (F' := .ro (SlL eu8 A2 c2 r2.Data) :: .res (Box g3 35 [.string i_p0.Name, .string (⟨#[]⟩), .int .i64 0, .int .i64 0, .int .i64 0, .slice none 0 0, .int .u32 0, .string (⟨#[]⟩), .int .i64 0, .int .i64 0, .int .i64 0, .slice none 0 0, .int .u32 0, .int .i64 0, .int .i64 0, .bool false]) :: .res (Box g2 35 [.string (⟨#[]⟩), .string (⟨#[]⟩), .int .i64 0, .int .i64 0, .int .i64 0, .slice none 0 0, .int .u32 0, .string (⟨#[]⟩), .int .i64 0, .int .i64 0, .int .i64 0, .slice none 0 0, .int .u32 0, .int .i64 0, .int .i64 0, .bool false]) :: .res (Box g1 30 (bx_T_Image i_p0 A1 c1)) :: .ro (SlL eu8 A1 c1 i_p0.Data) :: R) (fun _ w => w) ?_
    refine St.xk (fun _ w => ((.d (.d (.k (.k (.k .z))))) : Keep _ _).sat w) ?_
    obtain ⟨r3, hr3, h⟩ := bnd_e h
    refine St.xqc (fun _ h => h) (c_ref28_Sum hr3) ent28 rfl rfl rfl rfl ⟨(.tail _ (.tail _ (.head _))), trivial⟩ ?_
    refine St.xfl (fun _ h => h) (Rd.p rfl) rfl ?_
    refine St.xfl (fun _ h => h) (Rd.p rfl) rfl ?_
    refine St.xef ?_
    refine St.store 1 rfl rfl rfl rfl rfl rfl (.s .z) rfl ?_
    refine St.xk (fun _ w => ((.d (.d (.k (.k (.k .z))))) : Keep _ _).sat w) ?_
    refine St.xdone ?_
    refine St.thenN ?_
    refine St.prune (Γ' := [(2, _), (4, _)]) ⟨rfl, rfl, trivial⟩ (.k (.k (.k (.d (.d .z))))) ?_
    refine St.seq ?_
    refine St.region ?_
    refine St.loadB 0 rfl rfl (.head _) rfl rfl ?_
    refine St.store 0 rfl rfl rfl rfl rfl rfl (.s (.s .z)) rfl ?_
    refine St.p rfl rfl ?_
    refine St.done ?_
    refine St.thenN ?_
    refine St.prune (Γ' := [(2, _), (3, _)]) ⟨rfl, rfl, trivial⟩ (.k (.d (.k .z))) ?_
    refine St.ret ?_
    repeat (first | refine St.thenR ?_ | refine St.blkR ?_)
    refine St.asrt (fun _ w => w.nilSl (cod eu8)) ?_
    injection h with h
    subst h
    exact St.finR Try.results29 (.cell rfl (.tail _ (.head _)) rfl (.tmp rfl .nil)) rfl [.ro (SlL eu8 A2 c2 r2.Data), .ro (SlL eu8 none 0 ([] : List Int))] ⟨A2, c2, none, 0, rfl, rfl⟩ (fun _ w => ((.k (.k (.d (.d (.d .z))))) : Keep _ _).sat (Sat.dup (G := [.ro (SlL eu8 A2 c2 r2.Data), .ro (SlL eu8 none 0 ([] : List Int))]) rfl ⟨(.tail _ (.tail _ (.head _))), (.head _), trivial⟩ w))

theorem ent59 : Ent Try.prog 59 := ⟨_, Try.func59, by kernel_rfl, by kernel_rfl⟩

noncomputable def m_ref29_bit (n_p0 : Int) : Option Bool :=
  bnd ((bif (n_p0 == 0) then (some true) else (some (n_p0 == 1)) : Option Bool)) fun o1 => some o1

theorem c_ref29_bit {n_p0 : Int} {r : Bool} (h : m_ref29_bit n_p0 = some r) :
    Fun Try.prog 59 [.int .i64 n_p0] [] (Val (.bool r)) := by
  unfold m_ref29_bit at h
  refine Fun.intro Try.func59 rfl rfl rfl fun w R => ?_
  refine St.seq ?_
  refine St.region ?_
  refine St.p rfl rfl ?_
  refine St.done ?_
  refine St.thenN ?_
  refine St.prune (Γ' := [(0, _)]) ⟨rfl, trivial⟩ .z ?_
  refine St.seq ?_
  obtain ⟨o1, hj1, h⟩ := bnd_e h
  refine St.cutE (fun (e1 : Unit) => [(2, .bool o1)]) (fun e1 => R) ?_ ?_
  · refine St.region ?_
    iterate 3 refine St.p rfl rfl ?_
    refine St.gSplit (dj := 5) _ rfl (fun hb1 => ?_) (fun hb1 => ?_)
    · replace hj1 := bif_t hb1 hj1
      refine St.gOff (dj := 5) rfl rfl rfl rfl ?_
      refine St.gOff (dj := 5) rfl rfl rfl rfl ?_
      refine St.p rfl rfl ?_
      refine St.p rfl rfl ?_
      refine St.done ?_
      injection hj1 with hj1
      subst hj1
      refine St.thenN ?_
      exact St.hereE () ⟨rfl, trivial⟩ (fun _ w => (.z : Keep _ _).sat w)
    · replace hj1 := bif_f hb1 hj1
      refine St.gOn (dj := 5) rfl rfl ?_
      refine St.p rfl rfl ?_
      refine St.gOn (dj := 5) rfl rfl ?_
      iterate 3 refine St.p rfl rfl ?_
      refine St.done ?_
      injection hj1 with hj1
      subst hj1
      refine St.thenN ?_
      exact St.hereE () ⟨rfl, trivial⟩ (fun _ w => (.z : Keep _ _).sat w)
  · rintro e1
    refine St.ret ?_
    repeat (first | refine St.thenR ?_ | refine St.blkR ?_)
    injection h with h
    subst h
    exact St.finR Try.results59 (.tmp rfl .nil) rfl [] ⟨rfl, rfl⟩ (fun _ w => (.z : Keep _ _).sat w)

theorem ent34 : Ent Try.prog 34 := ⟨_, Try.func34, by kernel_rfl, by kernel_rfl⟩

noncomputable def m_ref29_Whole (s_p0 : T_Slot) : Option Bool :=
  bnd ((bnd (m_ref28_Right s_p0.Image) fun r1 => bif r1 then (bnd (m_ref28_Sum s_p0.Image) fun r2 => some (r2 == s_p0.Sum)) else (some false) : Option Bool)) fun o1 => some o1

theorem c_ref29_Whole {s_p0 : T_Slot} {A1 : Option Addr} {c1 : Nat} {r : Bool} (h : m_ref29_Whole s_p0 = some r) :
    Fun Try.prog 34 [.agg (bx_T_Slot s_p0 A1 c1).toArray] [.ro (SlL eu8 A1 c1 s_p0.Image.Data)] (Val (.bool r)) := by
  unfold m_ref29_Whole at h
  refine Fun.intro Try.func34 rfl rfl rfl fun w R => ?_
  refine St.seq ?_
  refine St.region ?_
  refine St.box rfl rfl fun g1 => ?_
  refine St.p rfl rfl ?_
  refine St.done ?_
  refine St.thenN ?_
  refine St.prune (Γ' := [(1, _)]) ⟨rfl, trivial⟩ (.k (.k .z)) ?_
  refine St.seq ?_
  obtain ⟨o1, hj1, h⟩ := bnd_e h
  refine St.cutE (fun (e1 : Unit) => [(2, .bool o1)]) (fun e1 => R) ?_ ?_
  · refine St.regionF mixed (by kernel_rfl) ?_
    refine St.p rfl rfl ?_
    refine St.loadB 0 rfl rfl (.head _) rfl rfl ?_
    obtain ⟨r1, hr1, hj1⟩ := bnd_e hj1
    refine St.callV (c_ref28_Right hr1) ent54 rfl rfl rfl rfl ⟨(.tail _ (.head _)), trivial⟩ ?_
    refine St.p rfl rfl ?_
    refine St.gSplit (dj := 6) _ rfl (fun hb1 => ?_) (fun hb1 => ?_)
    · replace hj1 := bif_t hb1 hj1
      refine St.gOn (dj := 6) rfl rfl ?_
      refine St.p rfl rfl ?_
      refine St.gOn (dj := 6) rfl rfl ?_
      refine St.loadB 0 rfl rfl (.head _) rfl rfl ?_
      refine St.gOn (dj := 6) rfl rfl ?_
      obtain ⟨r2, hr2, hj1⟩ := bnd_e hj1
      refine St.callV (c_ref28_Sum hr2) ent28 rfl rfl rfl rfl ⟨(.tail _ (.head _)), trivial⟩ ?_
      refine St.gOn (dj := 6) rfl rfl ?_
      refine St.p rfl rfl ?_
      refine St.gOn (dj := 6) rfl rfl ?_
      refine St.loadB 5 rfl rfl (.head _) rfl rfl ?_
      refine St.gOn (dj := 6) rfl rfl ?_
      iterate 3 refine St.p rfl rfl ?_
      refine St.doneQ ?_
      injection hj1 with hj1
      subst hj1
      refine St.thenN ?_
      exact St.hereE () ⟨rfl, trivial⟩ (fun _ w => ((.d (.d .z)) : Keep _ _).sat w)
    · replace hj1 := bif_f hb1 hj1
      refine St.gOff (dj := 6) rfl rfl rfl rfl ?_
      refine St.gOff (dj := 6) rfl rfl rfl rfl ?_
      refine St.gOff (dj := 6) rfl rfl rfl rfl ?_
      refine St.gOff (dj := 6) rfl rfl rfl rfl ?_
      refine St.gOff (dj := 6) rfl rfl rfl rfl ?_
      refine St.gOff (dj := 6) rfl rfl rfl rfl ?_
      refine St.p rfl rfl ?_
      refine St.p rfl rfl ?_
      refine St.doneQ ?_
      injection hj1 with hj1
      subst hj1
      refine St.thenN ?_
      exact St.hereE () ⟨rfl, trivial⟩ (fun _ w => ((.d (.d .z)) : Keep _ _).sat w)
  · rintro e1
    refine St.ret ?_
    repeat (first | refine St.thenR ?_ | refine St.blkR ?_)
    injection h with h
    subst h
    exact St.finR Try.results34 (.tmp rfl .nil) rfl [] ⟨rfl, rfl⟩ (fun _ w => (.z : Keep _ _).sat w)

theorem ent60 : Ent Try.prog 60 := ⟨_, Try.func60, by kernel_rfl, by kernel_rfl⟩

noncomputable def m_ref29_good (s_p0 : T_Slot) (name : ByteArray) : Option Bool :=
  bnd ((bnd (m_ref29_Whole s_p0) fun r1 => bif r1 then (some (s_p0.Image.Name.toList == name.toList)) else (some false) : Option Bool)) fun o1 => some o1

theorem c_ref29_good {s_p0 : T_Slot} {name : ByteArray} {A1 : Option Addr} {c1 : Nat} {r : Bool} (h : m_ref29_good s_p0 name = some r) :
    Fun Try.prog 60 [.agg (bx_T_Slot s_p0 A1 c1).toArray, .string name] [.ro (SlL eu8 A1 c1 s_p0.Image.Data)] (Val (.bool r)) := by
  unfold m_ref29_good at h
  refine Fun.intro Try.func60 rfl rfl rfl fun w R => ?_
  refine St.seq ?_
  refine St.region ?_
  refine St.box rfl rfl fun g1 => ?_
  refine St.p rfl rfl ?_
  refine St.done ?_
  refine St.thenN ?_
  refine St.prune (Γ' := [(1, _), (2, _)]) ⟨rfl, rfl, trivial⟩ (.k (.k .z)) ?_
  refine St.seq ?_
  obtain ⟨o1, hj1, h⟩ := bnd_e h
  refine St.cutE (fun (e1 : Unit) => [(4, .bool o1)]) (fun e1 => R) ?_ ?_
  · refine St.region ?_
    refine St.loadB 0 rfl rfl (.head _) rfl rfl ?_
    obtain ⟨r1, hr1, hj1⟩ := bnd_e hj1
    refine St.callV (c_ref29_Whole hr1) ent34 rfl rfl rfl rfl ⟨(.tail _ (.head _)), trivial⟩ ?_
    refine St.p rfl rfl ?_
    refine St.gSplit (dj := 7) _ rfl (fun hb1 => ?_) (fun hb1 => ?_)
    · replace hj1 := bif_t hb1 hj1
      refine St.gOn (dj := 7) rfl rfl ?_
      refine St.p rfl rfl ?_
      refine St.gOn (dj := 7) rfl rfl ?_
      refine St.p rfl rfl ?_
      refine St.gOn (dj := 7) rfl rfl ?_
      refine St.loadB 0 rfl rfl (.head _) rfl rfl ?_
      refine St.gOn (dj := 7) rfl rfl ?_
      refine St.p rfl rfl ?_
      refine St.gOn (dj := 7) rfl rfl ?_
      iterate 3 refine St.p rfl rfl ?_
      refine St.done ?_
      injection hj1 with hj1
      subst hj1
      refine St.thenN ?_
      exact St.hereE () ⟨rfl, trivial⟩ (fun _ w => ((.d (.d .z)) : Keep _ _).sat w)
    · replace hj1 := bif_f hb1 hj1
      refine St.gOff (dj := 7) rfl rfl rfl rfl ?_
      refine St.gOff (dj := 7) rfl rfl rfl rfl ?_
      refine St.gOff (dj := 7) rfl rfl rfl rfl ?_
      refine St.gOff (dj := 7) rfl rfl rfl rfl ?_
      refine St.gOff (dj := 7) rfl rfl rfl rfl ?_
      refine St.p rfl rfl ?_
      refine St.p rfl rfl ?_
      refine St.done ?_
      injection hj1 with hj1
      subst hj1
      refine St.thenN ?_
      exact St.hereE () ⟨rfl, trivial⟩ (fun _ w => ((.d (.d .z)) : Keep _ _).sat w)
  · rintro e1
    refine St.ret ?_
    repeat (first | refine St.thenR ?_ | refine St.blkR ?_)
    injection h with h
    subst h
    exact St.finR Try.results60 (.tmp rfl .nil) rfl [] ⟨rfl, rfl⟩ (fun _ w => (.z : Keep _ _).sat w)

theorem ent30 : Ent Try.prog 30 := ⟨_, Try.func30, by kernel_rfl, by kernel_rfl⟩

noncomputable def m_ref29_Valid (d_p0 : T_Device) : Option Bool :=
  bnd ((bnd (m_ref27_Name d_p0.Name) fun r1 => bif !r1 then (some true) else (bnd (m_ref29_bit d_p0.Active) fun r2 => bif !r2 then (some true) else (bnd (m_ref29_bit d_p0.Running) fun r3 => bif !r3 then (some true) else (bnd (elt [d_p0.Slots.e0, d_p0.Slots.e1] d_p0.Active) fun x1 => bnd (m_ref29_good x1 d_p0.Name) fun r4 => bif !r4 then (some true) else (bnd (elt [d_p0.Slots.e0, d_p0.Slots.e1] d_p0.Running) fun x2 => bnd (m_ref29_good x2 d_p0.Name) fun r5 => some (!r5))))) : Option Bool)) fun o1 => bif o1 then (some false) else (bnd ((bif !d_p0.Trial then (some true) else (bif (d_p0.Running == d_p0.Active) then (bnd (elt [d_p0.Slots.e0, d_p0.Slots.e1] (IntKind.wrap .i64 (1 - d_p0.Active))) fun x3 => bnd (m_ref29_good x3 d_p0.Name) fun r6 => some r6) else (some false)) : Option Bool)) fun o2 => some o2)

set_option maxHeartbeats 4000000 in
theorem c_ref29_Valid {d_p0 : T_Device} {A1 : Option Addr} {c1 : Nat} {A2 : Option Addr} {c2 : Nat} {r : Bool} (h : m_ref29_Valid d_p0 = some r) :
    Fun Try.prog 30 [.agg (bx_T_Device d_p0 A1 c1 A2 c2).toArray] [.ro (SlL eu8 A1 c1 d_p0.Slots.e0.Image.Data), .ro (SlL eu8 A2 c2 d_p0.Slots.e1.Image.Data)] (Val (.bool r)) := by
  unfold m_ref29_Valid at h
  refine Fun.intro Try.func30 rfl rfl rfl fun w R => ?_
  refine St.seq ?_
  refine St.region ?_
  refine St.box rfl rfl fun g1 => ?_
  refine St.p rfl rfl ?_
  refine St.done ?_
  refine St.thenN ?_
  refine St.prune (Γ' := [(1, _)]) ⟨rfl, trivial⟩ (.k (.k (.k .z))) ?_
  refine St.seq ?_
  refine St.seq ?_
  obtain ⟨o1, hj1, h⟩ := bnd_e h
  refine St.cutE (fun (e1 : Unit) => [(1, .pointer (some ⟨g1, 0, none⟩)), (40, .bool o1)]) (fun e1 => .res (Box g1 35 (bx_T_Device d_p0 A1 c1 A2 c2)) :: .ro (SlL eu8 A1 c1 d_p0.Slots.e0.Image.Data) :: .ro (SlL eu8 A2 c2 d_p0.Slots.e1.Image.Data) :: R) ?_ ?_
  · refine St.regionF mixed (by kernel_rfl) ?_
    refine St.p rfl rfl ?_
    refine St.loadB 0 rfl rfl (.head _) rfl rfl ?_
    obtain ⟨r1, hr1, hj1⟩ := bnd_e hj1
    refine St.callV (c_ref27_Name hr1) ent58 rfl rfl rfl rfl trivial ?_
    refine St.p rfl rfl ?_
    refine St.p rfl rfl ?_
    refine St.gSplit (dj := 7) _ rfl (fun hb1 => ?_) (fun hb1 => ?_)
    · replace hj1 := bif_t hb1 hj1
      refine St.gOff (dj := 7) rfl rfl rfl rfl ?_
      refine St.gOff (dj := 7) rfl rfl rfl rfl ?_
      refine St.gOff (dj := 7) rfl rfl rfl rfl ?_
      refine St.gOff (dj := 7) rfl rfl rfl rfl ?_
      refine St.p rfl rfl ?_
      refine St.p rfl rfl ?_
      refine St.gOff (dj := 13) rfl rfl rfl rfl ?_
      refine St.gOff (dj := 13) rfl rfl rfl rfl ?_
      refine St.gOff (dj := 13) rfl rfl rfl rfl ?_
      refine St.gOff (dj := 13) rfl rfl rfl rfl ?_
      refine St.p rfl rfl ?_
      refine St.p rfl rfl ?_
      refine St.gOff (dj := 19) rfl rfl rfl rfl ?_
      refine St.gOff (dj := 19) rfl rfl rfl rfl ?_
      refine St.gOff (dj := 19) rfl rfl rfl rfl ?_
      refine St.gOff (dj := 19) rfl rfl rfl rfl ?_
      refine St.gOff (dj := 19) rfl rfl rfl rfl ?_
      refine St.gOff (dj := 19) rfl rfl rfl rfl ?_
      refine St.gOff (dj := 19) rfl rfl rfl rfl ?_
      refine St.gOff (dj := 19) rfl rfl rfl rfl ?_
      refine St.gOff (dj := 19) rfl rfl rfl rfl ?_
      refine St.p rfl rfl ?_
      refine St.p rfl rfl ?_
      refine St.gOff (dj := 30) rfl rfl rfl rfl ?_
      refine St.gOff (dj := 30) rfl rfl rfl rfl ?_
      refine St.gOff (dj := 30) rfl rfl rfl rfl ?_
      refine St.gOff (dj := 30) rfl rfl rfl rfl ?_
      refine St.gOff (dj := 30) rfl rfl rfl rfl ?_
      refine St.gOff (dj := 30) rfl rfl rfl rfl ?_
      refine St.gOff (dj := 30) rfl rfl rfl rfl ?_
      refine St.gOff (dj := 30) rfl rfl rfl rfl ?_
      refine St.gOff (dj := 30) rfl rfl rfl rfl ?_
      refine St.p rfl rfl ?_
      refine St.doneQ ?_
      injection hj1 with hj1
      subst hj1
      refine St.thenN ?_
      exact St.hereE () ⟨rfl, rfl, trivial⟩ (fun _ w => ((.k (.k (.k .z))) : Keep _ _).sat w)
    · replace hj1 := bif_f hb1 hj1
      refine St.gOn (dj := 7) rfl rfl ?_
      refine St.p rfl rfl ?_
      refine St.gOn (dj := 7) rfl rfl ?_
      refine St.loadB 13 rfl rfl (.head _) rfl rfl ?_
      refine St.gOn (dj := 7) rfl rfl ?_
      obtain ⟨r2, hr2, hj1⟩ := bnd_e hj1
      refine St.callV (c_ref29_bit hr2) ent59 rfl rfl rfl rfl trivial ?_
      refine St.gOn (dj := 7) rfl rfl ?_
      iterate 3 refine St.p rfl rfl ?_
      refine St.gSplit (dj := 13) _ rfl (fun hb2 => ?_) (fun hb2 => ?_)
      · replace hj1 := bif_t hb2 hj1
        refine St.gOff (dj := 13) rfl rfl rfl rfl ?_
        refine St.gOff (dj := 13) rfl rfl rfl rfl ?_
        refine St.gOff (dj := 13) rfl rfl rfl rfl ?_
        refine St.gOff (dj := 13) rfl rfl rfl rfl ?_
        refine St.p rfl rfl ?_
        refine St.p rfl rfl ?_
        refine St.gOff (dj := 19) rfl rfl rfl rfl ?_
        refine St.gOff (dj := 19) rfl rfl rfl rfl ?_
        refine St.gOff (dj := 19) rfl rfl rfl rfl ?_
        refine St.gOff (dj := 19) rfl rfl rfl rfl ?_
        refine St.gOff (dj := 19) rfl rfl rfl rfl ?_
        refine St.gOff (dj := 19) rfl rfl rfl rfl ?_
        refine St.gOff (dj := 19) rfl rfl rfl rfl ?_
        refine St.gOff (dj := 19) rfl rfl rfl rfl ?_
        refine St.gOff (dj := 19) rfl rfl rfl rfl ?_
        refine St.p rfl rfl ?_
        refine St.p rfl rfl ?_
        refine St.gOff (dj := 30) rfl rfl rfl rfl ?_
        refine St.gOff (dj := 30) rfl rfl rfl rfl ?_
        refine St.gOff (dj := 30) rfl rfl rfl rfl ?_
        refine St.gOff (dj := 30) rfl rfl rfl rfl ?_
        refine St.gOff (dj := 30) rfl rfl rfl rfl ?_
        refine St.gOff (dj := 30) rfl rfl rfl rfl ?_
        refine St.gOff (dj := 30) rfl rfl rfl rfl ?_
        refine St.gOff (dj := 30) rfl rfl rfl rfl ?_
        refine St.gOff (dj := 30) rfl rfl rfl rfl ?_
        refine St.p rfl rfl ?_
        refine St.doneQ ?_
        injection hj1 with hj1
        subst hj1
        refine St.thenN ?_
        exact St.hereE () ⟨rfl, rfl, trivial⟩ (fun _ w => ((.k (.k (.k .z))) : Keep _ _).sat w)
      · replace hj1 := bif_f hb2 hj1
        refine St.gOn (dj := 13) rfl rfl ?_
        refine St.p rfl rfl ?_
        refine St.gOn (dj := 13) rfl rfl ?_
        refine St.loadB 14 rfl rfl (.head _) rfl rfl ?_
        refine St.gOn (dj := 13) rfl rfl ?_
        obtain ⟨r3, hr3, hj1⟩ := bnd_e hj1
        refine St.callV (c_ref29_bit hr3) ent59 rfl rfl rfl rfl trivial ?_
        refine St.gOn (dj := 13) rfl rfl ?_
        iterate 3 refine St.p rfl rfl ?_
        refine St.gSplit (dj := 19) _ rfl (fun hb3 => ?_) (fun hb3 => ?_)
        · replace hj1 := bif_t hb3 hj1
          refine St.gOff (dj := 19) rfl rfl rfl rfl ?_
          refine St.gOff (dj := 19) rfl rfl rfl rfl ?_
          refine St.gOff (dj := 19) rfl rfl rfl rfl ?_
          refine St.gOff (dj := 19) rfl rfl rfl rfl ?_
          refine St.gOff (dj := 19) rfl rfl rfl rfl ?_
          refine St.gOff (dj := 19) rfl rfl rfl rfl ?_
          refine St.gOff (dj := 19) rfl rfl rfl rfl ?_
          refine St.gOff (dj := 19) rfl rfl rfl rfl ?_
          refine St.gOff (dj := 19) rfl rfl rfl rfl ?_
          refine St.p rfl rfl ?_
          refine St.p rfl rfl ?_
          refine St.gOff (dj := 30) rfl rfl rfl rfl ?_
          refine St.gOff (dj := 30) rfl rfl rfl rfl ?_
          refine St.gOff (dj := 30) rfl rfl rfl rfl ?_
          refine St.gOff (dj := 30) rfl rfl rfl rfl ?_
          refine St.gOff (dj := 30) rfl rfl rfl rfl ?_
          refine St.gOff (dj := 30) rfl rfl rfl rfl ?_
          refine St.gOff (dj := 30) rfl rfl rfl rfl ?_
          refine St.gOff (dj := 30) rfl rfl rfl rfl ?_
          refine St.gOff (dj := 30) rfl rfl rfl rfl ?_
          refine St.p rfl rfl ?_
          refine St.doneQ ?_
          injection hj1 with hj1
          subst hj1
          refine St.thenN ?_
          exact St.hereE () ⟨rfl, rfl, trivial⟩ (fun _ w => ((.k (.k (.k .z))) : Keep _ _).sat w)
        · replace hj1 := bif_f hb3 hj1
          refine St.gOn (dj := 19) rfl rfl ?_
          refine St.p rfl rfl ?_
          refine St.gOn (dj := 19) rfl rfl ?_
          refine St.loadB 13 rfl rfl (.head _) rfl rfl ?_
          refine St.gOn (dj := 19) rfl rfl ?_
          refine St.p rfl rfl ?_
          refine St.gOn (dj := 19) rfl rfl ?_
          obtain ⟨x1, hx1, hj1⟩ := bnd_e hj1
          refine St.ixP (sz := 6) hx1 rfl rfl rfl rfl rfl rfl rfl rfl ?_
          refine St.gOn (dj := 19) rfl rfl ?_
          refine St.ldP (ls := l_T_Slot) 0 [.string d_p0.Name] [.int .i64 d_p0.Active, .int .i64 d_p0.Running, .bool d_p0.Trial] [(d_p0.Slots.e0, ((A1, c1), ())), (d_p0.Slots.e1, ((A2, c2), ()))] (fun ex => .agg (bx_T_Slot x1 ex.1.1 ex.1.2).toArray) hx1 rfl rfl (.head _) rfl rfl rfl ⟨(.tail _ (.head _)), (.tail _ (.tail _ (.head _))), trivial⟩ rfl (fun _ => rfl) fun ex1 => ?_
          obtain ⟨⟨A3, c3⟩, _⟩ := ex1
          refine St.asrt (F' := .ro (SlL eu8 A3 c3 x1.Image.Data) :: .res (Box g1 35 (bx_T_Device d_p0 A1 c1 A2 c2)) :: .ro (SlL eu8 A1 c1 d_p0.Slots.e0.Image.Data) :: .ro (SlL eu8 A2 c2 d_p0.Slots.e1.Image.Data) :: R) (fun _ w => w) ?_
          refine St.gOn (dj := 19) rfl rfl ?_
          refine St.p rfl rfl ?_
          refine St.gOn (dj := 19) rfl rfl ?_
          refine St.loadB 0 rfl rfl (.tail _ (.head _)) rfl rfl ?_
          refine St.gOn (dj := 19) rfl rfl ?_
          obtain ⟨r4, hr4, hj1⟩ := bnd_e hj1
          refine St.callV (c_ref29_good hr4) ent60 rfl rfl rfl rfl ⟨(.head _), trivial⟩ ?_
          refine St.gOn (dj := 19) rfl rfl ?_
          iterate 3 refine St.p rfl rfl ?_
          refine St.gSplit (dj := 30) _ rfl (fun hb4 => ?_) (fun hb4 => ?_)
          · replace hj1 := bif_t hb4 hj1
            refine St.gOff (dj := 30) rfl rfl rfl rfl ?_
            refine St.gOff (dj := 30) rfl rfl rfl rfl ?_
            refine St.gOff (dj := 30) rfl rfl rfl rfl ?_
            refine St.gOff (dj := 30) rfl rfl rfl rfl ?_
            refine St.gOff (dj := 30) rfl rfl rfl rfl ?_
            refine St.gOff (dj := 30) rfl rfl rfl rfl ?_
            refine St.gOff (dj := 30) rfl rfl rfl rfl ?_
            refine St.gOff (dj := 30) rfl rfl rfl rfl ?_
            refine St.gOff (dj := 30) rfl rfl rfl rfl ?_
            refine St.p rfl rfl ?_
            refine St.doneQ ?_
            injection hj1 with hj1
            subst hj1
            refine St.thenN ?_
            exact St.hereE () ⟨rfl, rfl, trivial⟩ (fun _ w => ((.d (.k (.k (.k .z)))) : Keep _ _).sat w)
          · replace hj1 := bif_f hb4 hj1
            refine St.gOn (dj := 30) rfl rfl ?_
            refine St.p rfl rfl ?_
            refine St.gOn (dj := 30) rfl rfl ?_
            refine St.loadB 14 rfl rfl (.tail _ (.head _)) rfl rfl ?_
            refine St.gOn (dj := 30) rfl rfl ?_
            refine St.p rfl rfl ?_
            refine St.gOn (dj := 30) rfl rfl ?_
            obtain ⟨x2, hx2, hj1⟩ := bnd_e hj1
            refine St.ixP (sz := 6) hx2 rfl rfl rfl rfl rfl rfl rfl rfl ?_
            refine St.gOn (dj := 30) rfl rfl ?_
            refine St.ldP (ls := l_T_Slot) 0 [.string d_p0.Name] [.int .i64 d_p0.Active, .int .i64 d_p0.Running, .bool d_p0.Trial] [(d_p0.Slots.e0, ((A1, c1), ())), (d_p0.Slots.e1, ((A2, c2), ()))] (fun ex => .agg (bx_T_Slot x2 ex.1.1 ex.1.2).toArray) hx2 rfl rfl (.tail _ (.head _)) rfl rfl rfl ⟨(.tail _ (.tail _ (.head _))), (.tail _ (.tail _ (.tail _ (.head _)))), trivial⟩ rfl (fun _ => rfl) fun ex2 => ?_
            obtain ⟨⟨A4, c4⟩, _⟩ := ex2
            refine St.asrt (F' := .ro (SlL eu8 A4 c4 x2.Image.Data) :: .ro (SlL eu8 A3 c3 x1.Image.Data) :: .res (Box g1 35 (bx_T_Device d_p0 A1 c1 A2 c2)) :: .ro (SlL eu8 A1 c1 d_p0.Slots.e0.Image.Data) :: .ro (SlL eu8 A2 c2 d_p0.Slots.e1.Image.Data) :: R) (fun _ w => w) ?_
            refine St.gOn (dj := 30) rfl rfl ?_
            refine St.p rfl rfl ?_
            refine St.gOn (dj := 30) rfl rfl ?_
            refine St.loadB 0 rfl rfl (.tail _ (.tail _ (.head _))) rfl rfl ?_
            refine St.gOn (dj := 30) rfl rfl ?_
            obtain ⟨r5, hr5, hj1⟩ := bnd_e hj1
            refine St.callV (c_ref29_good hr5) ent60 rfl rfl rfl rfl ⟨(.head _), trivial⟩ ?_
            refine St.gOn (dj := 30) rfl rfl ?_
            refine St.p rfl rfl ?_
            refine St.p rfl rfl ?_
            refine St.doneQ ?_
            injection hj1 with hj1
            subst hj1
            refine St.thenN ?_
            exact St.hereE () ⟨rfl, rfl, trivial⟩ (fun _ w => ((.d (.d (.k (.k (.k .z))))) : Keep _ _).sat w)
  · rintro e1
    refine St.cond _ rfl (fun hb5 => ?_) (fun hb5 => ?_)
    · replace h := bif_t hb5 h
      refine St.seq ?_
      refine St.region ?_
      refine St.p rfl rfl ?_
      refine St.done ?_
      refine St.thenN ?_
      refine St.prune (Γ' := [(2, _)]) ⟨rfl, trivial⟩ (.d (.d (.d .z))) ?_
      refine St.ret ?_
      repeat (first | refine St.thenR ?_ | refine St.blkR ?_)
      injection h with h
      subst h
      exact St.finR Try.results30 (.tmp rfl .nil) rfl [] ⟨rfl, rfl⟩ (fun _ w => (.z : Keep _ _).sat w)
    · replace h := bif_f hb5 h
      refine St.skip ?_
      refine St.thenN ?_
      refine St.prune (Γ' := [(1, _)]) ⟨rfl, trivial⟩ (.k (.k (.k .z))) ?_
      refine St.seq ?_
      obtain ⟨o2, hj2, h⟩ := bnd_e h
      refine St.cutE (fun (e2 : Unit) => [(2, .bool o2)]) (fun e2 => R) ?_ ?_
      · refine St.regionF mixed (by kernel_rfl) ?_
        refine St.p rfl rfl ?_
        refine St.loadB 15 rfl rfl (.head _) rfl rfl ?_
        refine St.p rfl rfl ?_
        refine St.p rfl rfl ?_
        refine St.gSplit (dj := 44) _ rfl (fun hb6 => ?_) (fun hb6 => ?_)
        · replace hj2 := bif_t hb6 hj2
          refine St.gOff (dj := 44) rfl rfl rfl rfl ?_
          refine St.gOff (dj := 44) rfl rfl rfl rfl ?_
          refine St.gOff (dj := 44) rfl rfl rfl rfl ?_
          refine St.gOff (dj := 44) rfl rfl rfl rfl ?_
          refine St.gOff (dj := 44) rfl rfl rfl rfl ?_
          refine St.gOff (dj := 44) rfl rfl rfl rfl ?_
          refine St.gOff (dj := 50) rfl rfl rfl rfl ?_
          refine St.gOff (dj := 50) rfl rfl rfl rfl ?_
          refine St.gOff (dj := 50) rfl rfl rfl rfl ?_
          refine St.gOff (dj := 50) rfl rfl rfl rfl ?_
          refine St.gOff (dj := 50) rfl rfl rfl rfl ?_
          refine St.gOff (dj := 50) rfl rfl rfl rfl ?_
          refine St.gOff (dj := 50) rfl rfl rfl rfl ?_
          refine St.gOff (dj := 50) rfl rfl rfl rfl ?_
          refine St.gOff (dj := 50) rfl rfl rfl rfl ?_
          refine St.gOff (dj := 44) rfl rfl rfl rfl ?_
          refine St.p rfl rfl ?_
          refine St.p rfl rfl ?_
          refine St.doneQ ?_
          injection hj2 with hj2
          subst hj2
          refine St.thenN ?_
          exact St.hereE () ⟨rfl, trivial⟩ (fun _ w => ((.d (.d (.d .z))) : Keep _ _).sat w)
        · replace hj2 := bif_f hb6 hj2
          refine St.gOn (dj := 44) rfl rfl ?_
          refine St.p rfl rfl ?_
          refine St.gOn (dj := 44) rfl rfl ?_
          refine St.loadB 14 rfl rfl (.head _) rfl rfl ?_
          refine St.gOn (dj := 44) rfl rfl ?_
          refine St.p rfl rfl ?_
          refine St.gOn (dj := 44) rfl rfl ?_
          refine St.loadB 13 rfl rfl (.head _) rfl rfl ?_
          refine St.gOn (dj := 44) rfl rfl ?_
          refine St.p rfl rfl ?_
          refine St.gOn (dj := 44) rfl rfl ?_
          refine St.p rfl rfl ?_
          refine St.gSplit (dj := 50) _ rfl (fun hb7 => ?_) (fun hb7 => ?_)
          · replace hj2 := bif_t hb7 hj2
            refine St.gOn (dj := 50) rfl rfl ?_
            refine St.p rfl rfl ?_
            refine St.gOn (dj := 50) rfl rfl ?_
            refine St.loadB 13 rfl rfl (.head _) rfl rfl ?_
            refine St.gOn (dj := 50) rfl rfl ?_
            refine St.p rfl rfl ?_
            refine St.gOn (dj := 50) rfl rfl ?_
            refine St.p rfl rfl ?_
            refine St.gOn (dj := 50) rfl rfl ?_
            obtain ⟨x3, hx3, hj2⟩ := bnd_e hj2
            refine St.ixP (sz := 6) hx3 rfl rfl rfl rfl rfl rfl rfl rfl ?_
            refine St.gOn (dj := 50) rfl rfl ?_
            refine St.ldP (ls := l_T_Slot) 0 [.string d_p0.Name] [.int .i64 d_p0.Active, .int .i64 d_p0.Running, .bool d_p0.Trial] [(d_p0.Slots.e0, ((A1, c1), ())), (d_p0.Slots.e1, ((A2, c2), ()))] (fun ex => .agg (bx_T_Slot x3 ex.1.1 ex.1.2).toArray) hx3 rfl rfl (.head _) rfl rfl rfl ⟨(.tail _ (.head _)), (.tail _ (.tail _ (.head _))), trivial⟩ rfl (fun _ => rfl) fun ex3 => ?_
            obtain ⟨⟨A5, c5⟩, _⟩ := ex3
            refine St.asrt (F' := .ro (SlL eu8 A5 c5 x3.Image.Data) :: .res (Box g1 35 (bx_T_Device d_p0 A1 c1 A2 c2)) :: .ro (SlL eu8 A1 c1 d_p0.Slots.e0.Image.Data) :: .ro (SlL eu8 A2 c2 d_p0.Slots.e1.Image.Data) :: R) (fun _ w => w) ?_
            refine St.gOn (dj := 50) rfl rfl ?_
            refine St.p rfl rfl ?_
            refine St.gOn (dj := 50) rfl rfl ?_
            refine St.loadB 0 rfl rfl (.tail _ (.head _)) rfl rfl ?_
            refine St.gOn (dj := 50) rfl rfl ?_
            obtain ⟨r6, hr6, hj2⟩ := bnd_e hj2
            refine St.callV (c_ref29_good hr6) ent60 rfl rfl rfl rfl ⟨(.head _), trivial⟩ ?_
            refine St.gOn (dj := 44) rfl rfl ?_
            iterate 3 refine St.p rfl rfl ?_
            refine St.doneQ ?_
            injection hj2 with hj2
            subst hj2
            refine St.thenN ?_
            exact St.hereE () ⟨rfl, trivial⟩ (fun _ w => ((.d (.d (.d (.d .z)))) : Keep _ _).sat w)
          · replace hj2 := bif_f hb7 hj2
            refine St.gOff (dj := 50) rfl rfl rfl rfl ?_
            refine St.gOff (dj := 50) rfl rfl rfl rfl ?_
            refine St.gOff (dj := 50) rfl rfl rfl rfl ?_
            refine St.gOff (dj := 50) rfl rfl rfl rfl ?_
            refine St.gOff (dj := 50) rfl rfl rfl rfl ?_
            refine St.gOff (dj := 50) rfl rfl rfl rfl ?_
            refine St.gOff (dj := 50) rfl rfl rfl rfl ?_
            refine St.gOff (dj := 50) rfl rfl rfl rfl ?_
            refine St.gOff (dj := 50) rfl rfl rfl rfl ?_
            refine St.gOn (dj := 44) rfl rfl ?_
            iterate 3 refine St.p rfl rfl ?_
            refine St.doneQ ?_
            injection hj2 with hj2
            subst hj2
            refine St.thenN ?_
            exact St.hereE () ⟨rfl, trivial⟩ (fun _ w => ((.d (.d (.d .z))) : Keep _ _).sat w)
      · rintro e2
        refine St.ret ?_
        repeat (first | refine St.thenR ?_ | refine St.blkR ?_)
        injection h with h
        subst h
        exact St.finR Try.results30 (.tmp rfl .nil) rfl [] ⟨rfl, rfl⟩ (fun _ w => (.z : Keep _ _).sat w)

theorem ent61 : Ent Try.prog 61 := ⟨_, Try.func61, by kernel_rfl, by kernel_rfl⟩

noncomputable def m_ref29_settled (d_p0 : T_Device) : Option Int :=
  bnd (m_ref29_Valid d_p0) fun r1 => bif !r1 then (some 1) else (bnd ((bif (d_p0.Running != d_p0.Active) then (some true) else (some d_p0.Trial) : Option Bool)) fun o1 => bif o1 then (some 46) else (some 0))

theorem c_ref29_settled {d_p0 : T_Device} {A1 : Option Addr} {c1 : Nat} {A2 : Option Addr} {c2 : Nat} {r : Int} (h : m_ref29_settled d_p0 = some r) :
    Fun Try.prog 61 [.agg (bx_T_Device d_p0 A1 c1 A2 c2).toArray] [.ro (SlL eu8 A1 c1 d_p0.Slots.e0.Image.Data), .ro (SlL eu8 A2 c2 d_p0.Slots.e1.Image.Data)] (Val (.int .i64 r)) := by
  unfold m_ref29_settled at h
  refine Fun.intro Try.func61 rfl rfl rfl fun w R => ?_
  refine St.seq ?_
  refine St.region ?_
  refine St.box rfl rfl fun g1 => ?_
  refine St.p rfl rfl ?_
  refine St.done ?_
  refine St.thenN ?_
  refine St.prune (Γ' := [(1, _)]) ⟨rfl, trivial⟩ (.k (.k (.k .z))) ?_
  refine St.seq ?_
  refine St.block ?_
  refine St.seq ?_
  refine St.region ?_
  refine St.loadB 0 rfl rfl (.head _) rfl rfl ?_
  obtain ⟨r1, hr1, h⟩ := bnd_e h
  refine St.callV (c_ref29_Valid hr1) ent30 rfl rfl rfl rfl ⟨(.tail _ (.head _)), (.tail _ (.tail _ (.head _))), trivial⟩ ?_
  refine St.p rfl rfl ?_
  refine St.p rfl rfl ?_
  refine St.done ?_
  refine St.thenN ?_
  refine St.prune (Γ' := [(1, _), (3, _)]) ⟨rfl, rfl, trivial⟩ (.k (.k (.k .z))) ?_
  refine St.cond _ rfl (fun hb1 => ?_) (fun hb1 => ?_)
  · replace h := bif_t hb1 h
    refine St.seq ?_
    refine St.region ?_
    refine St.p rfl rfl ?_
    refine St.done ?_
    refine St.thenN ?_
    refine St.prune (Γ' := [(2, _)]) ⟨rfl, trivial⟩ (.d (.d (.d .z))) ?_
    refine St.ret ?_
    repeat (first | refine St.thenR ?_ | refine St.blkR ?_)
    injection h with h
    subst h
    exact St.finR Try.results61 (.tmp rfl .nil) rfl [] ⟨rfl, rfl⟩ (fun _ w => (.z : Keep _ _).sat w)
  · replace h := bif_f hb1 h
    refine St.seq ?_
    obtain ⟨o1, hj1, h⟩ := bnd_e h
    refine St.cutE (fun (e1 : Unit) => [(7, .bool o1)]) (fun e1 => R) ?_ ?_
    · refine St.region ?_
      refine St.p rfl rfl ?_
      refine St.loadB 14 rfl rfl (.head _) rfl rfl ?_
      refine St.p rfl rfl ?_
      refine St.loadB 13 rfl rfl (.head _) rfl rfl ?_
      refine St.p rfl rfl ?_
      refine St.p rfl rfl ?_
      refine St.gSplit (dj := 13) _ rfl (fun hb2 => ?_) (fun hb2 => ?_)
      · replace hj1 := bif_t hb2 hj1
        refine St.gOff (dj := 13) rfl rfl rfl rfl ?_
        refine St.gOff (dj := 13) rfl rfl rfl rfl ?_
        refine St.p rfl rfl ?_
        refine St.p rfl rfl ?_
        refine St.done ?_
        injection hj1 with hj1
        subst hj1
        refine St.thenN ?_
        exact St.hereE () ⟨rfl, trivial⟩ (fun _ w => ((.d (.d (.d .z))) : Keep _ _).sat w)
      · replace hj1 := bif_f hb2 hj1
        refine St.gOn (dj := 13) rfl rfl ?_
        refine St.p rfl rfl ?_
        refine St.gOn (dj := 13) rfl rfl ?_
        refine St.loadB 15 rfl rfl (.head _) rfl rfl ?_
        refine St.p rfl rfl ?_
        refine St.p rfl rfl ?_
        refine St.done ?_
        injection hj1 with hj1
        subst hj1
        refine St.thenN ?_
        exact St.hereE () ⟨rfl, trivial⟩ (fun _ w => ((.d (.d (.d .z))) : Keep _ _).sat w)
    · rintro e1
      refine St.cond _ rfl (fun hb3 => ?_) (fun hb3 => ?_)
      · replace h := bif_t hb3 h
        refine St.seq ?_
        refine St.region ?_
        refine St.p rfl rfl ?_
        refine St.done ?_
        refine St.thenN ?_
        refine St.prune (Γ' := [(2, _)]) ⟨rfl, trivial⟩ .z ?_
        refine St.ret ?_
        repeat (first | refine St.thenR ?_ | refine St.blkR ?_)
        injection h with h
        subst h
        exact St.finR Try.results61 (.tmp rfl .nil) rfl [] ⟨rfl, rfl⟩ (fun _ w => (.z : Keep _ _).sat w)
      · replace h := bif_f hb3 h
        refine St.skip ?_
        refine St.blkN ?_
        refine St.thenN ?_
        refine St.prune (Γ' := []) trivial .z ?_
        refine St.seq ?_
        refine St.region ?_
        refine St.p rfl rfl ?_
        refine St.done ?_
        refine St.thenN ?_
        refine St.ret ?_
        repeat (first | refine St.thenR ?_ | refine St.blkR ?_)
        injection h with h
        subst h
        exact St.finR Try.results61 (.tmp rfl .nil) rfl [] ⟨rfl, rfl⟩ (fun _ w => (.z : Keep _ _).sat w)

theorem ent52 : Ent Try.prog 52 := ⟨_, Try.func52, by kernel_rfl, by kernel_rfl⟩

noncomputable def m_ref29_Copy (d_p0 : T_Device) : Option T_Device :=
  bnd (m_ref29_Image d_p0.Slots.e0.Image) fun r1 => bnd (m_ref29_Image d_p0.Slots.e1.Image) fun r2 => some (⟨d_p0.Name, (⟨(⟨r1, d_p0.Slots.e0.Sum⟩ : T_Slot), (⟨r2, d_p0.Slots.e1.Sum⟩ : T_Slot)⟩ : (Arr2 T_Slot)), d_p0.Active, d_p0.Running, d_p0.Trial⟩ : T_Device)

theorem c_ref29_Copy {d_p0 : T_Device} {A1 : Option Addr} {c1 : Nat} {A2 : Option Addr} {c2 : Nat} {r : T_Device} (h : m_ref29_Copy d_p0 = some r) :
    Fun Try.prog 52 [.agg (bx_T_Device d_p0 A1 c1 A2 c2).toArray] [.ro (SlL eu8 A1 c1 d_p0.Slots.e0.Image.Data), .ro (SlL eu8 A2 c2 d_p0.Slots.e1.Image.Data)] (fun v_ F_ => ∃ (A1 : Option Addr) (c1 : Nat) (A2 : Option Addr) (c2 : Nat), v_ = .agg (bx_T_Device r A1 c1 A2 c2).toArray ∧ F_ = [.ro (SlL eu8 A1 c1 r.Slots.e0.Image.Data), .ro (SlL eu8 A2 c2 r.Slots.e1.Image.Data)]) := by
  unfold m_ref29_Copy at h
  refine Fun.intro Try.func52 rfl rfl rfl fun w R => ?_
  refine St.seq ?_
  refine St.region ?_
  refine St.box rfl rfl fun g1 => ?_
  refine St.alloc rfl rfl fun g2 => ?_
  refine St.done ?_
  refine St.thenN ?_
  refine St.prune (Γ' := [(1, _), (2, _)]) ⟨rfl, rfl, trivial⟩ (.k (.k (.k (.k .z)))) ?_
  refine St.seq ?_
  obtain ⟨r1, hr1, h⟩ := bnd_e h
  obtain ⟨r2, hr2, h⟩ := bnd_e h
  refine St.regionX (iL [(.fl, 0), (.fl, 1), (.fl, 2), (.fl, 5), (.fl, 6), (.fl, 7), (.fl, 10), (.fl, 14)] (.alt (iL [(.ef, 3)] (.alt (iL [(.ef, 4)] (iL [(.ef, 8), (.fl, 11), (.fl, 12)] (iL [(.ef, 9)] (iL [(.ef, 13), (.fl, 15), (.fl, 16)] (iL [(.ef, 17)] .nil))))) (iL [(.ef, 8)] (iL [(.ef, 4), (.fl, 11), (.fl, 12)] (iL [(.ef, 9)] (iL [(.ef, 13), (.fl, 15), (.fl, 16)] (iL [(.ef, 17)] .nil))))))) (iL [(.ef, 8)] (iL [(.ef, 3)] (iL [(.ef, 4), (.fl, 11), (.fl, 12)] (iL [(.ef, 9)] (iL [(.ef, 13), (.fl, 15), (.fl, 16)] (iL [(.ef, 17)] .nil)))))))) (.res (Box g2 35 [.string (⟨#[]⟩), .string (⟨#[]⟩), .int .i64 0, .int .i64 0, .int .i64 0, .slice none 0 0, .int .u32 0, .string (⟨#[]⟩), .int .i64 0, .int .i64 0, .int .i64 0, .slice none 0 0, .int .u32 0, .int .i64 0, .int .i64 0, .bool false]) :: .ro (SlL eu8 A1 c1 d_p0.Slots.e0.Image.Data) :: .ro (SlL eu8 A2 c2 d_p0.Slots.e1.Image.Data) :: R) mixed (by kernel_rfl) (fun _ w => ((.k (.d (.k (.k .z)))) : Keep _ _).sat w) ?_
  refine St.share (Y := ?Ynd1_0) (fun (e : Option Addr × Nat) => [(1, .pointer (some ⟨g1, 0, none⟩)), (2, .pointer (some ⟨g2, 0, none⟩)), (3, .pointer (some ⟨g1, 1, none⟩)), (4, .pointer (some ⟨g1, 1, none⟩)), (5, .pointer (some ⟨g1, 1, none⟩)), (6, .agg (bx_T_Image d_p0.Slots.e0.Image A1 c1).toArray), (7, .agg (bx_T_Image r1 e.1 e.2).toArray), (8, .pointer (some ⟨g1, 1, none⟩)), (9, .pointer (some ⟨g1, 7, none⟩)), (10, .pointer (some ⟨g1, 7, none⟩)), (11, .agg (bx_T_Image d_p0.Slots.e1.Image A2 c2).toArray), (13, .pointer (some ⟨g1, 1, none⟩)), (14, .pointer (some ⟨g1, 1, none⟩)), (15, .pointer (some ⟨g1, 1, none⟩)), (16, .pointer (some ⟨g1, 1, none⟩))]) (fun e => .ro (SlL eu8 e.1 e.2 r1.Data) :: .res (Box g2 35 [.string (⟨#[]⟩), .string (⟨#[]⟩), .int .i64 0, .int .i64 0, .int .i64 0, .slice none 0 0, .int .u32 0, .string (⟨#[]⟩), .int .i64 0, .int .i64 0, .int .i64 0, .slice none 0 0, .int .u32 0, .int .i64 0, .int .i64 0, .bool false]) :: .res (Box g1 35 (bx_T_Device d_p0 A1 c1 A2 c2)) :: .ro (SlL eu8 A1 c1 d_p0.Slots.e0.Image.Data) :: .ro (SlL eu8 A2 c2 d_p0.Slots.e1.Image.Data) :: R) (fun hnd1_0 => ?mnd1_0) ?tnd1_0
  case mnd1_0 =>
    refine St.share (Y := ?Ynd1_1) (fun (e : Unit) => [(1, .pointer (some ⟨g1, 0, none⟩)), (2, .pointer (some ⟨g2, 0, none⟩)), (3, .pointer (some ⟨g1, 1, none⟩)), (4, .pointer (some ⟨g1, 1, none⟩)), (5, .pointer (some ⟨g1, 1, none⟩)), (6, .agg (bx_T_Image d_p0.Slots.e0.Image A1 c1).toArray), (8, .pointer (some ⟨g1, 1, none⟩)), (9, .pointer (some ⟨g1, 7, none⟩)), (10, .pointer (some ⟨g1, 7, none⟩)), (11, .agg (bx_T_Image d_p0.Slots.e1.Image A2 c2).toArray), (13, .pointer (some ⟨g1, 1, none⟩)), (16, .pointer (some ⟨g1, 1, none⟩))]) (fun e => .res (Box g2 35 [.string (⟨#[]⟩), .string (⟨#[]⟩), .int .i64 0, .int .i64 0, .int .i64 0, .slice none 0 0, .int .u32 0, .string (⟨#[]⟩), .int .i64 0, .int .i64 0, .int .i64 0, .slice none 0 0, .int .u32 0, .int .i64 0, .int .i64 0, .bool false]) :: .res (Box g1 35 (bx_T_Device d_p0 A1 c1 A2 c2)) :: .ro (SlL eu8 A1 c1 d_p0.Slots.e0.Image.Data) :: .ro (SlL eu8 A2 c2 d_p0.Slots.e1.Image.Data) :: R) (fun hnd1_1 => ?mnd1_1) ?tnd1_1
    case mnd1_1 =>
      refine St.xfl (fun _ h => h) (Rd.p rfl) rfl ?_
      refine St.xfl (fun _ h => h) (Rd.p rfl) rfl ?_
      refine St.xfl (fun _ h => h) (Rd.p rfl) rfl ?_
      refine St.xfl (fun _ h => h) (Rd.p rfl) rfl ?_
      refine St.xfl (fun _ h => h) (Rd.p rfl) rfl ?_
      refine St.xfl (fun _ h => h) (Rd.p rfl) rfl ?_
      refine St.xfl (fun _ h => h) (Rd.p rfl) rfl ?_
      refine St.xfl (fun _ h => h) (Rd.p rfl) rfl ?_
      refine St.xalt ?_ ?_
      · refine St.xef ?_
        refine St.loadB 1 rfl rfl (.tail _ (.head _)) rfl rfl ?_
        refine St.xk (fun _ w => ((.k (.d (.k (.k .z)))) : Keep _ _).sat w) ?_
        refine St.xalt ?_ ?_
        · refine St.xef ?_
          refine St.call (c_ref29_Image hr1) ent57 rfl rfl rfl (fun _ w => Sat.dup (G := [.ro (SlL eu8 A1 c1 d_p0.Slots.e0.Image.Data)]) rfl ⟨(.tail _ (.tail _ (.head _))), trivial⟩ w) ?_
          rintro _ _ ⟨A3, c3, rfl, rfl⟩
          refine St.asrt (F' := .ro (SlL eu8 A3 c3 r1.Data) :: .res (Box g2 35 [.string (⟨#[]⟩), .string (⟨#[]⟩), .int .i64 0, .int .i64 0, .int .i64 0, .slice none 0 0, .int .u32 0, .string (⟨#[]⟩), .int .i64 0, .int .i64 0, .int .i64 0, .slice none 0 0, .int .u32 0, .int .i64 0, .int .i64 0, .bool false]) :: .res (Box g1 35 (bx_T_Device d_p0 A1 c1 A2 c2)) :: .ro (SlL eu8 A1 c1 d_p0.Slots.e0.Image.Data) :: .ro (SlL eu8 A2 c2 d_p0.Slots.e1.Image.Data) :: R) (fun _ w => w) ?_
          refine St.xk (fun _ w => ((.d (.k (.d (.k (.k .z))))) : Keep _ _).sat w) ?_
          refine St.xef ?_
          refine St.loadB 7 rfl rfl (.tail _ (.tail _ (.head _))) rfl rfl ?_
          refine St.xk (fun _ w => ((.d (.k (.d (.k (.k .z))))) : Keep _ _).sat w) ?_
          refine St.xfl (fun _ h => h) (Rd.p rfl) rfl ?_
          refine St.xfl (fun _ h => h) (Rd.p rfl) rfl ?_
          refine hnd1_0 _ _ (A3, c3) ?_ ?_
          · exact ⟨rfl, rfl, rfl, rfl, rfl, rfl, rfl, rfl, rfl, rfl, rfl, rfl, rfl, rfl, rfl, trivial⟩
          · exact fun _ w => ((.k (.k (.k (.k (.k .z))))) : Keep _ _).sat w
        · refine St.xef ?_
          refine St.loadB 7 rfl rfl (.tail _ (.head _)) rfl rfl ?_
          refine St.xk (fun _ w => ((.k (.d (.k (.k .z)))) : Keep _ _).sat w) ?_
          refine hnd1_1 _ _ () ?_ ?_
          · exact ⟨rfl, rfl, rfl, rfl, rfl, rfl, rfl, rfl, rfl, rfl, rfl, rfl, trivial⟩
          · exact fun _ w => ((.k (.k (.k (.k .z)))) : Keep _ _).sat w
      · refine St.xef ?_
        refine St.loadB 7 rfl rfl (.tail _ (.head _)) rfl rfl ?_
        refine St.xk (fun _ w => ((.k (.d (.k (.k .z)))) : Keep _ _).sat w) ?_
        refine St.xef ?_
        refine St.loadB 1 rfl rfl (.tail _ (.head _)) rfl rfl ?_
        refine St.xk (fun _ w => ((.k (.d (.k (.k .z)))) : Keep _ _).sat w) ?_
        refine hnd1_1 _ _ () ?_ ?_
        · exact ⟨rfl, rfl, rfl, rfl, rfl, rfl, rfl, rfl, rfl, rfl, rfl, rfl, trivial⟩
        · exact fun _ w => ((.k (.k (.k (.k .z)))) : Keep _ _).sat w
    case tnd1_1 =>
      rintro ⟨⟩
      refine St.asrt (F' := .res (Box g2 35 [.string (⟨#[]⟩), .string (⟨#[]⟩), .int .i64 0, .int .i64 0, .int .i64 0, .slice none 0 0, .int .u32 0, .string (⟨#[]⟩), .int .i64 0, .int .i64 0, .int .i64 0, .slice none 0 0, .int .u32 0, .int .i64 0, .int .i64 0, .bool false]) :: .res (Box g1 35 (bx_T_Device d_p0 A1 c1 A2 c2)) :: .ro (SlL eu8 A1 c1 d_p0.Slots.e0.Image.Data) :: .ro (SlL eu8 A2 c2 d_p0.Slots.e1.Image.Data) :: R) (fun _ w => w) ?_
      refine St.xef ?_
      refine St.call (c_ref29_Image hr1) ent57 rfl rfl rfl (fun _ w => Sat.dup (G := [.ro (SlL eu8 A1 c1 d_p0.Slots.e0.Image.Data)]) rfl ⟨(.tail _ (.tail _ (.head _))), trivial⟩ w) ?_
      rintro _ _ ⟨A3, c3, rfl, rfl⟩
      refine St.asrt (F' := .ro (SlL eu8 A3 c3 r1.Data) :: .res (Box g2 35 [.string (⟨#[]⟩), .string (⟨#[]⟩), .int .i64 0, .int .i64 0, .int .i64 0, .slice none 0 0, .int .u32 0, .string (⟨#[]⟩), .int .i64 0, .int .i64 0, .int .i64 0, .slice none 0 0, .int .u32 0, .int .i64 0, .int .i64 0, .bool false]) :: .res (Box g1 35 (bx_T_Device d_p0 A1 c1 A2 c2)) :: .ro (SlL eu8 A1 c1 d_p0.Slots.e0.Image.Data) :: .ro (SlL eu8 A2 c2 d_p0.Slots.e1.Image.Data) :: R) (fun _ w => w) ?_
      refine St.xk (fun _ w => ((.d (.k (.d (.k (.k .z))))) : Keep _ _).sat w) ?_
      refine St.xfl (fun _ h => h) (Rd.p rfl) rfl ?_
      refine St.xfl (fun _ h => h) (Rd.p rfl) rfl ?_
      refine hnd1_0 _ _ (A3, c3) ?_ ?_
      · exact ⟨rfl, rfl, rfl, rfl, rfl, rfl, rfl, rfl, rfl, rfl, rfl, rfl, rfl, rfl, rfl, trivial⟩
      · exact fun _ w => ((.k (.k (.k (.k (.k .z))))) : Keep _ _).sat w
  case tnd1_0 =>
    rintro ⟨A3, c3⟩
    refine St.asrt (F' := .ro (SlL eu8 A3 c3 r1.Data) :: .res (Box g2 35 [.string (⟨#[]⟩), .string (⟨#[]⟩), .int .i64 0, .int .i64 0, .int .i64 0, .slice none 0 0, .int .u32 0, .string (⟨#[]⟩), .int .i64 0, .int .i64 0, .int .i64 0, .slice none 0 0, .int .u32 0, .int .i64 0, .int .i64 0, .bool false]) :: .res (Box g1 35 (bx_T_Device d_p0 A1 c1 A2 c2)) :: .ro (SlL eu8 A1 c1 d_p0.Slots.e0.Image.Data) :: .ro (SlL eu8 A2 c2 d_p0.Slots.e1.Image.Data) :: R) (fun _ w => w) ?_
    refine St.xef ?_
    refine St.call (c_ref29_Image hr2) ent57 rfl rfl rfl (fun _ w => Sat.dup (G := [.ro (SlL eu8 A2 c2 d_p0.Slots.e1.Image.Data)]) rfl ⟨(.tail _ (.tail _ (.tail _ (.tail _ (.head _))))), trivial⟩ w) ?_
    rintro _ _ ⟨A4, c4, rfl, rfl⟩
    refine St.asrt (F' := .ro (SlL eu8 A4 c4 r2.Data) :: .ro (SlL eu8 A3 c3 r1.Data) :: .res (Box g2 35 [.string (⟨#[]⟩), .string (⟨#[]⟩), .int .i64 0, .int .i64 0, .int .i64 0, .slice none 0 0, .int .u32 0, .string (⟨#[]⟩), .int .i64 0, .int .i64 0, .int .i64 0, .slice none 0 0, .int .u32 0, .int .i64 0, .int .i64 0, .bool false]) :: .res (Box g1 35 (bx_T_Device d_p0 A1 c1 A2 c2)) :: .ro (SlL eu8 A1 c1 d_p0.Slots.e0.Image.Data) :: .ro (SlL eu8 A2 c2 d_p0.Slots.e1.Image.Data) :: R) (fun _ w => w) ?_
    refine St.xk (fun _ w => ((.d (.d (.k (.d (.k (.k .z)))))) : Keep _ _).sat w) ?_
    refine St.xef ?_
    refine St.store 1 rfl rfl rfl rfl rfl rfl (.s (.s (.s .z))) rfl ?_
    refine St.xk (fun _ w => ((.d (.d (.d (.k (.k (.k .z)))))) : Keep _ _).sat w) ?_
    refine St.xfl (fun _ h => h) (Rd.p rfl) rfl ?_
    refine St.xfl (fun _ h => h) (Rd.p rfl) rfl ?_
    refine St.xef ?_
    refine St.store 7 rfl rfl rfl rfl rfl rfl .z rfl ?_
    refine St.xk (fun _ w => ((.d (.d (.d (.k (.k (.k .z)))))) : Keep _ _).sat w) ?_
    refine St.xdone ?_
    refine St.thenN ?_
    refine St.prune (Γ' := [(1, _), (2, _)]) ⟨rfl, rfl, trivial⟩ (.k (.k (.k (.k (.d (.d .z)))))) ?_
    refine St.seq ?_
    refine St.region ?_
    refine St.loadB 0 rfl rfl (.head _) rfl rfl ?_
    refine St.store 0 rfl rfl rfl rfl rfl rfl (.s (.s (.s .z))) rfl ?_
    refine St.done ?_
    refine St.thenN ?_
    refine St.prune (Γ' := [(2, _)]) ⟨rfl, trivial⟩ (.k (.d (.k (.k .z)))) ?_
    refine St.ret ?_
    repeat (first | refine St.thenR ?_ | refine St.blkR ?_)
    injection h with h
    subst h
    exact St.finR Try.results52 (.cell rfl (.head _) rfl .nil) rfl [.ro (SlL eu8 A3 c3 r1.Data), .ro (SlL eu8 A4 c4 r2.Data)] ⟨A3, c3, A4, c4, rfl, rfl⟩ (fun _ w => ((.k (.k (.d (.d (.d .z))))) : Keep _ _).sat (Sat.dup (G := [.ro (SlL eu8 A3 c3 r1.Data), .ro (SlL eu8 A4 c4 r2.Data)]) rfl ⟨(.tail _ (.tail _ (.head _))), (.tail _ (.head _)), trivial⟩ w))

theorem ent62 : Ent Try.prog 62 := ⟨_, Try.func62, by kernel_rfl, by kernel_rfl⟩

noncomputable def m_ref29_Erase (d_p0 : T_Device) : Option (T_Device × Int) :=
  bnd (m_ref29_settled d_p0) fun r1 => bif (r1 != 0) then (some ((⟨⟨#[]⟩, (⟨(⟨(⟨⟨#[]⟩, (⟨0, 0, 0⟩ : T_Version), []⟩ : T_Image), 0⟩ : T_Slot), (⟨(⟨⟨#[]⟩, (⟨0, 0, 0⟩ : T_Version), []⟩ : T_Image), 0⟩ : T_Slot)⟩ : (Arr2 T_Slot)), 0, 0, false⟩ : T_Device), r1)) else (bnd (m_ref29_Copy d_p0) fun r2 => bnd (elt [r2.Slots.e0, r2.Slots.e1] (IntKind.wrap .i64 (1 - r2.Running))) fun x1 => bnd (Arr2.set r2.Slots (IntKind.wrap .i64 (1 - r2.Running)) (⟨(⟨⟨#[]⟩, (⟨0, 0, 0⟩ : T_Version), []⟩ : T_Image), 0⟩ : T_Slot)) fun z1 => some ((⟨r2.Name, z1, r2.Active, r2.Running, r2.Trial⟩ : T_Device), 0))

theorem c_ref29_Erase {d_p0 : T_Device} {A1 : Option Addr} {c1 : Nat} {A2 : Option Addr} {c2 : Nat} {r : (T_Device × Int)} (h : m_ref29_Erase d_p0 = some r) :
    Fun Try.prog 62 [.agg (bx_T_Device d_p0 A1 c1 A2 c2).toArray] [.ro (SlL eu8 A1 c1 d_p0.Slots.e0.Image.Data), .ro (SlL eu8 A2 c2 d_p0.Slots.e1.Image.Data)] (fun v_ F_ => ∃ (A1 : Option Addr) (c1 : Nat) (A2 : Option Addr) (c2 : Nat), v_ = .tuple #[.agg (bx_T_Device r.1 A1 c1 A2 c2).toArray, .int .i64 r.2] ∧ F_ = [.ro (SlL eu8 A1 c1 r.1.Slots.e0.Image.Data), .ro (SlL eu8 A2 c2 r.1.Slots.e1.Image.Data)]) := by
  unfold m_ref29_Erase at h
  refine Fun.intro Try.func62 rfl rfl rfl fun w R => ?_
  refine St.seq ?_
  refine St.region ?_
  refine St.box rfl rfl fun g1 => ?_
  refine St.alloc rfl rfl fun g2 => ?_
  refine St.p rfl rfl ?_
  refine St.done ?_
  refine St.thenN ?_
  refine St.prune (Γ' := [(1, _), (2, _)]) ⟨rfl, rfl, trivial⟩ (.k (.k (.k (.k .z)))) ?_
  refine St.seq ?_
  refine St.seq ?_
  refine St.region ?_
  refine St.loadB 0 rfl rfl (.tail _ (.head _)) rfl rfl ?_
  obtain ⟨r1, hr1, h⟩ := bnd_e h
  refine St.callV (c_ref29_settled hr1) ent61 rfl rfl rfl rfl ⟨(.tail _ (.tail _ (.head _))), (.tail _ (.tail _ (.tail _ (.head _)))), trivial⟩ ?_
  refine St.p rfl rfl ?_
  refine St.done ?_
  refine St.thenN ?_
  refine St.prune (Γ' := [(1, _), (2, _), (4, _)]) ⟨rfl, rfl, rfl, trivial⟩ (.k (.k (.k (.k .z)))) ?_
  refine St.seq ?_
  refine St.region ?_
  refine St.p rfl rfl ?_
  refine St.p rfl rfl ?_
  refine St.done ?_
  refine St.thenN ?_
  refine St.prune (Γ' := [(1, _), (2, _), (4, _), (8, _)]) ⟨rfl, rfl, rfl, rfl, trivial⟩ (.k (.k (.k (.k .z)))) ?_
  refine St.cond _ rfl (fun hb1 => ?_) (fun hb1 => ?_)
  · replace h := bif_t hb1 h
    refine St.seq ?_
    refine St.region ?_
    refine St.p rfl rfl ?_
    refine St.p rfl rfl ?_
    refine St.store 0 rfl rfl rfl rfl rfl rfl .z rfl ?_
    refine St.p rfl rfl ?_
    refine St.done ?_
    refine St.thenN ?_
    refine St.prune (Γ' := [(2, _), (3, _)]) ⟨rfl, rfl, trivial⟩ (.k (.d (.d (.d .z)))) ?_
    refine St.ret ?_
    repeat (first | refine St.thenR ?_ | refine St.blkR ?_)
    refine St.asrt (fun _ w => w.nilSl (cod eu8)) ?_
    refine St.asrt (fun _ w => w.nilSl (cod eu8)) ?_
    injection h with h
    subst h
    exact St.finR Try.results62 (.cell rfl (.tail _ (.tail _ (.head _))) rfl (.tmp rfl .nil)) rfl [.ro (SlL eu8 none 0 ([] : List Int)), .ro (SlL eu8 none 0 ([] : List Int))] ⟨none, 0, none, 0, rfl, rfl⟩ (fun _ w => ((.k (.k (.d (.d (.d .z))))) : Keep _ _).sat (Sat.dup (G := [.ro (SlL eu8 none 0 ([] : List Int)), .ro (SlL eu8 none 0 ([] : List Int))]) rfl ⟨(.head _), (.head _), trivial⟩ w))
  · replace h := bif_f hb1 h
    refine St.skip ?_
    refine St.thenN ?_
    refine St.prune (Γ' := [(1, _), (2, _)]) ⟨rfl, rfl, trivial⟩ (.k (.k (.k (.k .z)))) ?_
    refine St.seq ?_
    refine St.region ?_
    refine St.loadB 0 rfl rfl (.tail _ (.head _)) rfl rfl ?_
    obtain ⟨r2, hr2, h⟩ := bnd_e h
    refine St.call (c_ref29_Copy hr2) ent52 rfl rfl rfl (fun _ w => Sat.dup (G := [.ro (SlL eu8 A1 c1 d_p0.Slots.e0.Image.Data), .ro (SlL eu8 A2 c2 d_p0.Slots.e1.Image.Data)]) rfl ⟨(.tail _ (.tail _ (.head _))), (.tail _ (.tail _ (.tail _ (.head _)))), trivial⟩ w) ?_
    rintro _ _ ⟨A3, c3, A4, c4, rfl, rfl⟩
    refine St.asrt (F' := .ro (SlL eu8 A3 c3 r2.Slots.e0.Image.Data) :: .ro (SlL eu8 A4 c4 r2.Slots.e1.Image.Data) :: .res (Box g2 35 [.string (⟨#[]⟩), .string (⟨#[]⟩), .int .i64 0, .int .i64 0, .int .i64 0, .slice none 0 0, .int .u32 0, .string (⟨#[]⟩), .int .i64 0, .int .i64 0, .int .i64 0, .slice none 0 0, .int .u32 0, .int .i64 0, .int .i64 0, .bool false]) :: .res (Box g1 35 (bx_T_Device d_p0 A1 c1 A2 c2)) :: .ro (SlL eu8 A1 c1 d_p0.Slots.e0.Image.Data) :: .ro (SlL eu8 A2 c2 d_p0.Slots.e1.Image.Data) :: R) (fun _ w => w) ?_
    refine St.store 0 rfl rfl rfl rfl rfl rfl (.s (.s (.s .z))) rfl ?_
    refine St.done ?_
    refine St.thenN ?_
    refine St.prune (Γ' := [(1, _), (2, _)]) ⟨rfl, rfl, trivial⟩ (.k (.k (.k (.k (.d (.d .z)))))) ?_
    refine St.seq ?_
    refine St.region ?_
    refine St.p rfl rfl ?_
    refine St.loadB 14 rfl rfl (.head _) rfl rfl ?_
    iterate 3 refine St.p rfl rfl ?_
    obtain ⟨x1, hx1, h⟩ := bnd_e h
    refine St.ixP (sz := 6) hx1 rfl rfl rfl rfl rfl rfl rfl rfl ?_
    refine St.asrt (fun _ w => w.nilSl (cod eu8)) ?_
    obtain ⟨z1, hz1, h⟩ := bnd_e h
    refine St.stP (ls := l_T_Slot) 0 [.string r2.Name] [.int .i64 r2.Active, .int .i64 r2.Running, .bool r2.Trial] [(r2.Slots.e0, ((A3, c3), ())), (r2.Slots.e1, ((A4, c4), ()))] (fun ex => ((none, 0), ())) hx1 (Arr2.set_e hz1) rfl rfl (.s .z) rfl rfl rfl ⟨(.tail _ (.head _)), (.tail _ (.tail _ (.head _))), trivial⟩ rfl rfl rfl rfl (fun _ => rfl) (fun _ => ⟨(.tail _ (.head _)), trivial⟩) fun ye1 hye1 => ?_
    obtain ⟨ex1, ex2, rfl⟩ := pairs2 hye1
    obtain ⟨⟨A5, c5⟩, _⟩ := ex1
    obtain ⟨⟨A6, c6⟩, _⟩ := ex2
    refine St.asrt (F' := .res (Box g1 35 [.string r2.Name, .string z1.e0.Image.Name, .int .i64 z1.e0.Image.Version.Major, .int .i64 z1.e0.Image.Version.Minor, .int .i64 z1.e0.Image.Version.Patch, .slice A5 z1.e0.Image.Data.length c5, .int .u32 z1.e0.Sum, .string z1.e1.Image.Name, .int .i64 z1.e1.Image.Version.Major, .int .i64 z1.e1.Image.Version.Minor, .int .i64 z1.e1.Image.Version.Patch, .slice A6 z1.e1.Image.Data.length c6, .int .u32 z1.e1.Sum, .int .i64 r2.Active, .int .i64 r2.Running, .bool r2.Trial]) :: .ro (SlL eu8 A5 c5 z1.e0.Image.Data) :: .ro (SlL eu8 A6 c6 z1.e1.Image.Data) :: .ro (SlL eu8 none 0 ([] : List Int)) :: .ro (SlL eu8 A3 c3 r2.Slots.e0.Image.Data) :: .ro (SlL eu8 A4 c4 r2.Slots.e1.Image.Data) :: .res (Box g2 35 [.string (⟨#[]⟩), .string (⟨#[]⟩), .int .i64 0, .int .i64 0, .int .i64 0, .slice none 0 0, .int .u32 0, .string (⟨#[]⟩), .int .i64 0, .int .i64 0, .int .i64 0, .slice none 0 0, .int .u32 0, .int .i64 0, .int .i64 0, .bool false]) :: R) (fun _ w => w) ?_
    refine St.done ?_
    refine St.thenN ?_
    refine St.prune (Γ' := [(1, _), (2, _)]) ⟨rfl, rfl, trivial⟩ (.k (.k (.k (.d (.d (.d (.k .z))))))) ?_
    refine St.seq ?_
    refine St.region ?_
    refine St.loadB 0 rfl rfl (.head _) rfl rfl ?_
    refine St.store 0 rfl rfl rfl rfl rfl rfl (.s (.s (.s .z))) rfl ?_
    refine St.p rfl rfl ?_
    refine St.done ?_
    refine St.thenN ?_
    refine St.prune (Γ' := [(2, _), (3, _)]) ⟨rfl, rfl, trivial⟩ (.k (.d (.k (.k .z)))) ?_
    refine St.ret ?_
    repeat (first | refine St.thenR ?_ | refine St.blkR ?_)
    injection h with h
    subst h
    exact St.finR Try.results62 (.cell rfl (.head _) rfl (.tmp rfl .nil)) rfl [.ro (SlL eu8 A5 c5 z1.e0.Image.Data), .ro (SlL eu8 A6 c6 z1.e1.Image.Data)] ⟨A5, c5, A6, c6, rfl, rfl⟩ (fun _ w => ((.k (.k (.d (.d (.d .z))))) : Keep _ _).sat (Sat.dup (G := [.ro (SlL eu8 A5 c5 z1.e0.Image.Data), .ro (SlL eu8 A6 c6 z1.e1.Image.Data)]) rfl ⟨(.tail _ (.head _)), (.tail _ (.tail _ (.head _))), trivial⟩ w))

theorem ent35 : Ent Try.prog 35 := ⟨_, Try.func35, by kernel_rfl, by kernel_rfl⟩

noncomputable def m_ref29_Write (d_p0 : T_Device) (i_p1 : T_Image) (n_p2 : Int) : Option (T_Device × Int) :=
  bnd (m_ref29_settled d_p0) fun r1 => bif (r1 != 0) then (some ((⟨⟨#[]⟩, (⟨(⟨(⟨⟨#[]⟩, (⟨0, 0, 0⟩ : T_Version), []⟩ : T_Image), 0⟩ : T_Slot), (⟨(⟨⟨#[]⟩, (⟨0, 0, 0⟩ : T_Version), []⟩ : T_Image), 0⟩ : T_Slot)⟩ : (Arr2 T_Slot)), 0, 0, false⟩ : T_Device), r1)) else (bnd ((bnd (m_ref28_Right i_p1) fun r2 => bif !r2 then (some true) else (bif !(i_p1.Name.toList == d_p0.Name.toList) then (some true) else (bif decide (n_p2 < 0) then (some true) else (some (decide (n_p2 > (i_p1.Data.length : Int)))))) : Option Bool)) fun o1 => bif o1 then (some ((⟨⟨#[]⟩, (⟨(⟨(⟨⟨#[]⟩, (⟨0, 0, 0⟩ : T_Version), []⟩ : T_Image), 0⟩ : T_Slot), (⟨(⟨⟨#[]⟩, (⟨0, 0, 0⟩ : T_Version), []⟩ : T_Image), 0⟩ : T_Slot)⟩ : (Arr2 T_Slot)), 0, 0, false⟩ : T_Device), 2)) else (bnd (m_ref29_Copy d_p0) fun r3 => bnd (sub i_p1.Data 0 n_p2) fun l1 => bnd (app 1 ([]) l1) fun l2 => bnd (elt [r3.Slots.e0, r3.Slots.e1] (IntKind.wrap .i64 (1 - r3.Running))) fun x1 => bnd (Arr2.set r3.Slots (IntKind.wrap .i64 (1 - r3.Running)) (⟨(⟨i_p1.Name, i_p1.Version, l2⟩ : T_Image), 0⟩ : T_Slot)) fun z1 => some ((⟨r3.Name, z1, r3.Active, r3.Running, r3.Trial⟩ : T_Device), 0)))

theorem c_ref29_Write {d_p0 : T_Device} {i_p1 : T_Image} {n_p2 : Int} {A1 : Option Addr} {c1 : Nat} {A2 : Option Addr} {c2 : Nat} {A3 : Option Addr} {c3 : Nat} {r : (T_Device × Int)} (h : m_ref29_Write d_p0 i_p1 n_p2 = some r) :
    Fun Try.prog 35 [.agg (bx_T_Device d_p0 A1 c1 A2 c2).toArray, .agg (bx_T_Image i_p1 A3 c3).toArray, .int .i64 n_p2] [.ro (SlL eu8 A1 c1 d_p0.Slots.e0.Image.Data), .ro (SlL eu8 A2 c2 d_p0.Slots.e1.Image.Data), .ro (SlL eu8 A3 c3 i_p1.Data)] (fun v_ F_ => ∃ (A1 : Option Addr) (c1 : Nat) (A2 : Option Addr) (c2 : Nat), v_ = .tuple #[.agg (bx_T_Device r.1 A1 c1 A2 c2).toArray, .int .i64 r.2] ∧ F_ = [.ro (SlL eu8 A1 c1 r.1.Slots.e0.Image.Data), .ro (SlL eu8 A2 c2 r.1.Slots.e1.Image.Data)]) := by
  unfold m_ref29_Write at h
  refine Fun.intro Try.func35 rfl rfl rfl fun w R => ?_
  refine St.seq ?_
  refine St.region ?_
  refine St.box rfl rfl fun g1 => ?_
  refine St.box rfl rfl fun g2 => ?_
  refine St.alloc rfl rfl fun g3 => ?_
  refine St.p rfl rfl ?_
  refine St.done ?_
  refine St.thenN ?_
  refine St.prune (Γ' := [(2, _), (3, _), (4, _), (6, _)]) ⟨rfl, rfl, rfl, rfl, trivial⟩ (.k (.k (.k (.k (.k (.k .z)))))) ?_
  refine St.seq ?_
  refine St.seq ?_
  refine St.region ?_
  refine St.loadB 0 rfl rfl (.tail _ (.tail _ (.head _))) rfl rfl ?_
  obtain ⟨r1, hr1, h⟩ := bnd_e h
  refine St.callV (c_ref29_settled hr1) ent61 rfl rfl rfl rfl ⟨(.tail _ (.tail _ (.tail _ (.head _)))), (.tail _ (.tail _ (.tail _ (.tail _ (.head _))))), trivial⟩ ?_
  refine St.p rfl rfl ?_
  refine St.done ?_
  refine St.thenN ?_
  refine St.prune (Γ' := [(2, _), (3, _), (4, _), (6, _), (8, _)]) ⟨rfl, rfl, rfl, rfl, rfl, trivial⟩ (.k (.k (.k (.k (.k (.k .z)))))) ?_
  refine St.seq ?_
  refine St.region ?_
  refine St.p rfl rfl ?_
  refine St.p rfl rfl ?_
  refine St.done ?_
  refine St.thenN ?_
  refine St.prune (Γ' := [(2, _), (3, _), (4, _), (6, _), (8, _), (12, _)]) ⟨rfl, rfl, rfl, rfl, rfl, rfl, trivial⟩ (.k (.k (.k (.k (.k (.k .z)))))) ?_
  refine St.cond _ rfl (fun hb1 => ?_) (fun hb1 => ?_)
  · replace h := bif_t hb1 h
    refine St.seq ?_
    refine St.region ?_
    refine St.p rfl rfl ?_
    refine St.p rfl rfl ?_
    refine St.store 0 rfl rfl rfl rfl rfl rfl .z rfl ?_
    refine St.p rfl rfl ?_
    refine St.done ?_
    refine St.thenN ?_
    refine St.prune (Γ' := [(6, _), (7, _)]) ⟨rfl, rfl, trivial⟩ (.k (.d (.d (.d (.d (.d .z)))))) ?_
    refine St.ret ?_
    repeat (first | refine St.thenR ?_ | refine St.blkR ?_)
    refine St.asrt (fun _ w => w.nilSl (cod eu8)) ?_
    refine St.asrt (fun _ w => w.nilSl (cod eu8)) ?_
    injection h with h
    subst h
    exact St.finR Try.results35 (.cell rfl (.tail _ (.tail _ (.head _))) rfl (.tmp rfl .nil)) rfl [.ro (SlL eu8 none 0 ([] : List Int)), .ro (SlL eu8 none 0 ([] : List Int))] ⟨none, 0, none, 0, rfl, rfl⟩ (fun _ w => ((.k (.k (.d (.d (.d .z))))) : Keep _ _).sat (Sat.dup (G := [.ro (SlL eu8 none 0 ([] : List Int)), .ro (SlL eu8 none 0 ([] : List Int))]) rfl ⟨(.head _), (.head _), trivial⟩ w))
  · replace h := bif_f hb1 h
    refine St.skip ?_
    refine St.thenN ?_
    refine St.prune (Γ' := [(2, _), (3, _), (4, _), (6, _)]) ⟨rfl, rfl, rfl, rfl, trivial⟩ (.k (.k (.k (.k (.k (.k .z)))))) ?_
    refine St.seq ?_
    refine St.seq ?_
    obtain ⟨o1, hj1, h⟩ := bnd_e h
    refine St.cutE (fun (e1 : Unit) => [(2, .int .i64 n_p2), (3, .pointer (some ⟨g1, 0, none⟩)), (4, .pointer (some ⟨g2, 0, none⟩)), (6, .pointer (some ⟨g3, 0, none⟩)), (35, .bool o1)]) (fun e1 => .res (Box g3 35 [.string (⟨#[]⟩), .string (⟨#[]⟩), .int .i64 0, .int .i64 0, .int .i64 0, .slice none 0 0, .int .u32 0, .string (⟨#[]⟩), .int .i64 0, .int .i64 0, .int .i64 0, .slice none 0 0, .int .u32 0, .int .i64 0, .int .i64 0, .bool false]) :: .res (Box g2 30 (bx_T_Image i_p1 A3 c3)) :: .res (Box g1 35 (bx_T_Device d_p0 A1 c1 A2 c2)) :: .ro (SlL eu8 A1 c1 d_p0.Slots.e0.Image.Data) :: .ro (SlL eu8 A2 c2 d_p0.Slots.e1.Image.Data) :: .ro (SlL eu8 A3 c3 i_p1.Data) :: R) ?_ ?_
    · refine St.region ?_
      refine St.loadB 0 rfl rfl (.tail _ (.head _)) rfl rfl ?_
      obtain ⟨r2, hr2, hj1⟩ := bnd_e hj1
      refine St.callV (c_ref28_Right hr2) ent54 rfl rfl rfl rfl ⟨(.tail _ (.tail _ (.tail _ (.tail _ (.tail _ (.head _)))))), trivial⟩ ?_
      refine St.p rfl rfl ?_
      refine St.p rfl rfl ?_
      refine St.gSplit (dj := 18) _ rfl (fun hb2 => ?_) (fun hb2 => ?_)
      · replace hj1 := bif_t hb2 hj1
        refine St.gOff (dj := 18) rfl rfl rfl rfl ?_
        refine St.gOff (dj := 18) rfl rfl rfl rfl ?_
        refine St.gOff (dj := 18) rfl rfl rfl rfl ?_
        refine St.gOff (dj := 18) rfl rfl rfl rfl ?_
        refine St.gOff (dj := 18) rfl rfl rfl rfl ?_
        refine St.p rfl rfl ?_
        refine St.p rfl rfl ?_
        refine St.gOff (dj := 25) rfl rfl rfl rfl ?_
        refine St.gOff (dj := 25) rfl rfl rfl rfl ?_
        refine St.p rfl rfl ?_
        refine St.p rfl rfl ?_
        refine St.gOff (dj := 29) rfl rfl rfl rfl ?_
        refine St.gOff (dj := 29) rfl rfl rfl rfl ?_
        refine St.gOff (dj := 29) rfl rfl rfl rfl ?_
        refine St.gOff (dj := 29) rfl rfl rfl rfl ?_
        refine St.gOff (dj := 29) rfl rfl rfl rfl ?_
        refine St.p rfl rfl ?_
        refine St.done ?_
        injection hj1 with hj1
        subst hj1
        refine St.thenN ?_
        exact St.hereE () ⟨rfl, rfl, rfl, rfl, rfl, trivial⟩ (fun _ w => ((.k (.k (.k (.k (.k (.k .z)))))) : Keep _ _).sat w)
      · replace hj1 := bif_f hb2 hj1
        refine St.gOn (dj := 18) rfl rfl ?_
        refine St.p rfl rfl ?_
        refine St.gOn (dj := 18) rfl rfl ?_
        refine St.loadB 0 rfl rfl (.tail _ (.head _)) rfl rfl ?_
        refine St.gOn (dj := 18) rfl rfl ?_
        refine St.p rfl rfl ?_
        refine St.gOn (dj := 18) rfl rfl ?_
        refine St.loadB 0 rfl rfl (.tail _ (.tail _ (.head _))) rfl rfl ?_
        refine St.gOn (dj := 18) rfl rfl ?_
        iterate 3 refine St.p rfl rfl ?_
        refine St.gSplit (dj := 25) _ rfl (fun hb3 => ?_) (fun hb3 => ?_)
        · replace hj1 := bif_t hb3 hj1
          refine St.gOff (dj := 25) rfl rfl rfl rfl ?_
          refine St.gOff (dj := 25) rfl rfl rfl rfl ?_
          refine St.p rfl rfl ?_
          refine St.p rfl rfl ?_
          refine St.gOff (dj := 29) rfl rfl rfl rfl ?_
          refine St.gOff (dj := 29) rfl rfl rfl rfl ?_
          refine St.gOff (dj := 29) rfl rfl rfl rfl ?_
          refine St.gOff (dj := 29) rfl rfl rfl rfl ?_
          refine St.gOff (dj := 29) rfl rfl rfl rfl ?_
          refine St.p rfl rfl ?_
          refine St.done ?_
          injection hj1 with hj1
          subst hj1
          refine St.thenN ?_
          exact St.hereE () ⟨rfl, rfl, rfl, rfl, rfl, trivial⟩ (fun _ w => ((.k (.k (.k (.k (.k (.k .z)))))) : Keep _ _).sat w)
        · replace hj1 := bif_f hb3 hj1
          refine St.gOn (dj := 25) rfl rfl ?_
          refine St.p rfl rfl ?_
          refine St.gOn (dj := 25) rfl rfl ?_
          iterate 3 refine St.p rfl rfl ?_
          refine St.gSplit (dj := 29) _ rfl (fun hb4 => ?_) (fun hb4 => ?_)
          · replace hj1 := bif_t hb4 hj1
            refine St.gOff (dj := 29) rfl rfl rfl rfl ?_
            refine St.gOff (dj := 29) rfl rfl rfl rfl ?_
            refine St.gOff (dj := 29) rfl rfl rfl rfl ?_
            refine St.gOff (dj := 29) rfl rfl rfl rfl ?_
            refine St.gOff (dj := 29) rfl rfl rfl rfl ?_
            refine St.p rfl rfl ?_
            refine St.done ?_
            injection hj1 with hj1
            subst hj1
            refine St.thenN ?_
            exact St.hereE () ⟨rfl, rfl, rfl, rfl, rfl, trivial⟩ (fun _ w => ((.k (.k (.k (.k (.k (.k .z)))))) : Keep _ _).sat w)
          · replace hj1 := bif_f hb4 hj1
            refine St.gOn (dj := 29) rfl rfl ?_
            refine St.p rfl rfl ?_
            refine St.gOn (dj := 29) rfl rfl ?_
            refine St.p rfl rfl ?_
            refine St.gOn (dj := 29) rfl rfl ?_
            refine St.loadB 4 rfl rfl (.tail _ (.head _)) rfl rfl ?_
            refine St.gOn (dj := 29) rfl rfl ?_
            refine St.p rfl rfl ?_
            refine St.gOn (dj := 29) rfl rfl ?_
            refine St.p rfl rfl ?_
            refine St.p rfl rfl ?_
            refine St.done ?_
            injection hj1 with hj1
            subst hj1
            refine St.thenN ?_
            exact St.hereE () ⟨rfl, rfl, rfl, rfl, rfl, trivial⟩ (fun _ w => ((.k (.k (.k (.k (.k (.k .z)))))) : Keep _ _).sat w)
    · rintro e1
      refine St.cond _ rfl (fun hb5 => ?_) (fun hb5 => ?_)
      · replace h := bif_t hb5 h
        refine St.seq ?_
        refine St.region ?_
        refine St.p rfl rfl ?_
        refine St.store 0 rfl rfl rfl rfl rfl rfl .z rfl ?_
        refine St.p rfl rfl ?_
        refine St.done ?_
        refine St.thenN ?_
        refine St.prune (Γ' := [(6, _), (7, _)]) ⟨rfl, rfl, trivial⟩ (.k (.d (.d (.d (.d (.d .z)))))) ?_
        refine St.ret ?_
        repeat (first | refine St.thenR ?_ | refine St.blkR ?_)
        refine St.asrt (fun _ w => w.nilSl (cod eu8)) ?_
        refine St.asrt (fun _ w => w.nilSl (cod eu8)) ?_
        injection h with h
        subst h
        exact St.finR Try.results35 (.cell rfl (.tail _ (.tail _ (.head _))) rfl (.tmp rfl .nil)) rfl [.ro (SlL eu8 none 0 ([] : List Int)), .ro (SlL eu8 none 0 ([] : List Int))] ⟨none, 0, none, 0, rfl, rfl⟩ (fun _ w => ((.k (.k (.d (.d (.d .z))))) : Keep _ _).sat (Sat.dup (G := [.ro (SlL eu8 none 0 ([] : List Int)), .ro (SlL eu8 none 0 ([] : List Int))]) rfl ⟨(.head _), (.head _), trivial⟩ w))
      · replace h := bif_f hb5 h
        refine St.skip ?_
        refine St.thenN ?_
        refine St.prune (Γ' := [(2, _), (3, _), (4, _), (6, _)]) ⟨rfl, rfl, rfl, rfl, trivial⟩ (.k (.k (.k (.k (.k (.k .z)))))) ?_
        refine St.seq ?_
        refine St.region ?_
        refine St.loadB 0 rfl rfl (.tail _ (.tail _ (.head _))) rfl rfl ?_
        obtain ⟨r3, hr3, h⟩ := bnd_e h
        refine St.call (c_ref29_Copy hr3) ent52 rfl rfl rfl (fun _ w => Sat.dup (G := [.ro (SlL eu8 A1 c1 d_p0.Slots.e0.Image.Data), .ro (SlL eu8 A2 c2 d_p0.Slots.e1.Image.Data)]) rfl ⟨(.tail _ (.tail _ (.tail _ (.head _)))), (.tail _ (.tail _ (.tail _ (.tail _ (.head _))))), trivial⟩ w) ?_
        rintro _ _ ⟨A4, c4, A5, c5, rfl, rfl⟩
        refine St.asrt (F' := .ro (SlL eu8 A4 c4 r3.Slots.e0.Image.Data) :: .ro (SlL eu8 A5 c5 r3.Slots.e1.Image.Data) :: .res (Box g3 35 [.string (⟨#[]⟩), .string (⟨#[]⟩), .int .i64 0, .int .i64 0, .int .i64 0, .slice none 0 0, .int .u32 0, .string (⟨#[]⟩), .int .i64 0, .int .i64 0, .int .i64 0, .slice none 0 0, .int .u32 0, .int .i64 0, .int .i64 0, .bool false]) :: .res (Box g2 30 (bx_T_Image i_p1 A3 c3)) :: .res (Box g1 35 (bx_T_Device d_p0 A1 c1 A2 c2)) :: .ro (SlL eu8 A1 c1 d_p0.Slots.e0.Image.Data) :: .ro (SlL eu8 A2 c2 d_p0.Slots.e1.Image.Data) :: .ro (SlL eu8 A3 c3 i_p1.Data) :: R) (fun _ w => w) ?_
        refine St.store 0 rfl rfl rfl rfl rfl rfl (.s (.s (.s (.s .z)))) rfl ?_
        refine St.done ?_
        refine St.thenN ?_
        refine St.prune (Γ' := [(2, _), (3, _), (4, _), (6, _)]) ⟨rfl, rfl, rfl, rfl, trivial⟩ (.k (.k (.k (.k (.k (.d (.d (.k .z)))))))) ?_
        refine St.seq ?_
        refine St.region ?_
        refine St.p rfl rfl ?_
        refine St.loadB 4 rfl rfl (.tail _ (.tail _ (.tail _ (.tail _ (.head _))))) rfl rfl ?_
        refine St.p rfl rfl ?_
        obtain ⟨l1, hl1, h⟩ := bnd_e h
        refine St.sub (E := (cod eu8)) rfl rfl (.tail _ (.tail _ (.tail _ (.tail _ (.tail _ (.head _)))))) rfl rfl rfl rfl rfl rfl rfl hl1 fun A6 c6 => ?_
        refine St.asrt (fun _ w => w.nilL eu8 5) ?_
        obtain ⟨l2, hl2, h⟩ := bnd_e h
        refine St.app (E := eu8) hl2 rfl rfl rfl .z rfl rfl rfl rfl rfl rfl rfl rfl (srcL (.tail _ (.head _))) rfl rfl fun A7 c7 => ?_
        refine St.p rfl rfl ?_
        refine St.store 4 rfl rfl rfl rfl rfl rfl (.s (.s (.s (.s (.s (.s .z)))))) rfl ?_
        refine St.done ?_
        refine St.thenN ?_
        refine St.prune (Γ' := [(3, _), (4, _), (6, _)]) ⟨rfl, rfl, rfl, trivial⟩ (.k (.k (.d (.k (.k (.k (.k (.d .z)))))))) ?_
        refine St.seq ?_
        refine St.region ?_
        refine St.p rfl rfl ?_
        refine St.loadB 14 rfl rfl (.tail _ (.tail _ (.head _))) rfl rfl ?_
        refine St.p rfl rfl ?_
        refine St.loadB 0 rfl rfl (.head _) rfl rfl ?_
        refine St.p rfl rfl ?_
        refine St.p rfl rfl ?_
        obtain ⟨x1, hx1, h⟩ := bnd_e h
        refine St.ixP (sz := 6) hx1 rfl rfl rfl rfl rfl rfl rfl rfl ?_
        refine St.asrt (fun _ w => (w.front (.s .z)).meltL) ?_
        obtain ⟨z1, hz1, h⟩ := bnd_e h
        refine St.stP (ls := l_T_Slot) 0 [.string r3.Name] [.int .i64 r3.Active, .int .i64 r3.Running, .bool r3.Trial] [(r3.Slots.e0, ((A4, c4), ())), (r3.Slots.e1, ((A5, c5), ()))] (fun ex => ((A7, c7), ())) hx1 (Arr2.set_e hz1) rfl rfl (.s (.s .z)) rfl rfl rfl ⟨(.tail _ (.tail _ (.head _))), (.tail _ (.tail _ (.tail _ (.head _)))), trivial⟩ rfl rfl rfl rfl (fun _ => rfl) (fun _ => ⟨(.tail _ (.head _)), trivial⟩) fun ye1 hye1 => ?_
        obtain ⟨ex1, ex2, rfl⟩ := pairs2 hye1
        obtain ⟨⟨A8, c8⟩, _⟩ := ex1
        obtain ⟨⟨A9, c9⟩, _⟩ := ex2
        refine St.asrt (F' := .res (Box g1 35 [.string r3.Name, .string z1.e0.Image.Name, .int .i64 z1.e0.Image.Version.Major, .int .i64 z1.e0.Image.Version.Minor, .int .i64 z1.e0.Image.Version.Patch, .slice A8 z1.e0.Image.Data.length c8, .int .u32 z1.e0.Sum, .string z1.e1.Image.Name, .int .i64 z1.e1.Image.Version.Major, .int .i64 z1.e1.Image.Version.Minor, .int .i64 z1.e1.Image.Version.Patch, .slice A9 z1.e1.Image.Data.length c9, .int .u32 z1.e1.Sum, .int .i64 r3.Active, .int .i64 r3.Running, .bool r3.Trial]) :: .ro (SlL eu8 A8 c8 z1.e0.Image.Data) :: .ro (SlL eu8 A9 c9 z1.e1.Image.Data) :: .ro (SlL eu8 A7 c7 l2) :: .res (Box g2 30 [.string i_p1.Name, .int .i64 i_p1.Version.Major, .int .i64 i_p1.Version.Minor, .int .i64 i_p1.Version.Patch, .slice A7 l2.length c7]) :: .ro (SlL eu8 A4 c4 r3.Slots.e0.Image.Data) :: .ro (SlL eu8 A5 c5 r3.Slots.e1.Image.Data) :: .res (Box g3 35 [.string (⟨#[]⟩), .string (⟨#[]⟩), .int .i64 0, .int .i64 0, .int .i64 0, .slice none ([] : List Int).length 0, .int .u32 0, .string (⟨#[]⟩), .int .i64 0, .int .i64 0, .int .i64 0, .slice none ([] : List Int).length 0, .int .u32 0, .int .i64 0, .int .i64 0, .bool false]) :: R) (fun _ w => w) ?_
        refine St.done ?_
        refine St.thenN ?_
        refine St.prune (Γ' := [(3, _), (6, _)]) ⟨rfl, rfl, trivial⟩ (.k (.k (.k (.d (.d (.d (.d (.k .z)))))))) ?_
        refine St.seq ?_
        refine St.region ?_
        refine St.loadB 0 rfl rfl (.head _) rfl rfl ?_
        refine St.store 0 rfl rfl rfl rfl rfl rfl (.s (.s (.s .z))) rfl ?_
        refine St.p rfl rfl ?_
        refine St.done ?_
        refine St.thenN ?_
        refine St.prune (Γ' := [(6, _), (7, _)]) ⟨rfl, rfl, trivial⟩ (.k (.d (.k (.k .z)))) ?_
        refine St.ret ?_
        repeat (first | refine St.thenR ?_ | refine St.blkR ?_)
        injection h with h
        subst h
        exact St.finR Try.results35 (.cell rfl (.head _) rfl (.tmp rfl .nil)) rfl [.ro (SlL eu8 A8 c8 z1.e0.Image.Data), .ro (SlL eu8 A9 c9 z1.e1.Image.Data)] ⟨A8, c8, A9, c9, rfl, rfl⟩ (fun _ w => ((.k (.k (.d (.d (.d .z))))) : Keep _ _).sat (Sat.dup (G := [.ro (SlL eu8 A8 c8 z1.e0.Image.Data), .ro (SlL eu8 A9 c9 z1.e1.Image.Data)]) rfl ⟨(.tail _ (.head _)), (.tail _ (.tail _ (.head _))), trivial⟩ w))

theorem ent71 : Ent Try.prog 71 := ⟨_, Try.func71, by kernel_rfl, by kernel_rfl⟩

noncomputable def m_field_sum (i_p0 : T_Image) : Option Int :=
  bnd (m_ref29_New i_p0) fun r1 => bif (r1.2 != 0) then (some 0) else (some r1.1.Slots.e0.Sum)

theorem c_field_sum {i_p0 : T_Image} {A1 : Option Addr} {c1 : Nat} {r : Int} (h : m_field_sum i_p0 = some r) :
    Fun Try.prog 71 [.agg (bx_T_Image i_p0 A1 c1).toArray] [.ro (SlL eu8 A1 c1 i_p0.Data)] (Val (.int .u32 r)) := by
  unfold m_field_sum at h
  refine Fun.intro Try.func71 rfl rfl rfl fun w R => ?_
  refine St.seq ?_
  refine St.region ?_
  refine St.box rfl rfl fun g1 => ?_
  refine St.p rfl rfl ?_
  refine St.done ?_
  refine St.thenN ?_
  refine St.prune (Γ' := [(1, _)]) ⟨rfl, trivial⟩ (.k (.k .z)) ?_
  refine St.seq ?_
  refine St.region ?_
  refine St.loadB 0 rfl rfl (.head _) rfl rfl ?_
  obtain ⟨r1, hr1, h⟩ := bnd_e h
  refine St.call (c_ref29_New hr1) ent29 rfl rfl rfl (fun _ w => Sat.dup (G := [.ro (SlL eu8 A1 c1 i_p0.Data)]) rfl ⟨(.tail _ (.head _)), trivial⟩ w) ?_
  rintro _ _ ⟨A2, c2, A3, c3, rfl, rfl⟩
  refine St.asrt (F' := .ro (SlL eu8 A2 c2 r1.1.Slots.e0.Image.Data) :: .ro (SlL eu8 A3 c3 r1.1.Slots.e1.Image.Data) :: .res (Box g1 30 (bx_T_Image i_p0 A1 c1)) :: .ro (SlL eu8 A1 c1 i_p0.Data) :: R) (fun _ w => w) ?_
  iterate 3 refine St.p rfl rfl ?_
  refine St.alloc rfl rfl fun g2 => ?_
  refine St.store 0 rfl rfl rfl rfl rfl rfl .z rfl ?_
  refine St.p rfl rfl ?_
  refine St.done ?_
  refine St.thenN ?_
  refine St.prune (Γ' := [(3, _), (4, _)]) ⟨rfl, rfl, trivial⟩ (.k (.k (.k (.d (.d .z))))) ?_
  refine St.seq ?_
  refine St.seq ?_
  refine St.region ?_
  refine St.p rfl rfl ?_
  refine St.p rfl rfl ?_
  refine St.done ?_
  refine St.thenN ?_
  refine St.prune (Γ' := [(3, _), (11, _)]) ⟨rfl, rfl, trivial⟩ (.k (.k (.k .z))) ?_
  refine St.cond _ rfl (fun hb1 => ?_) (fun hb1 => ?_)
  · replace h := bif_t hb1 h
    refine St.seq ?_
    refine St.region ?_
    refine St.p rfl rfl ?_
    refine St.done ?_
    refine St.thenN ?_
    refine St.prune (Γ' := [(2, _)]) ⟨rfl, trivial⟩ (.d (.d (.d .z))) ?_
    refine St.ret ?_
    repeat (first | refine St.thenR ?_ | refine St.blkR ?_)
    injection h with h
    subst h
    exact St.finR Try.results71 (.tmp rfl .nil) rfl [] ⟨rfl, rfl⟩ (fun _ w => (.z : Keep _ _).sat w)
  · replace h := bif_f hb1 h
    refine St.skip ?_
    refine St.thenN ?_
    refine St.prune (Γ' := [(3, _)]) ⟨rfl, trivial⟩ (.k (.k (.k .z))) ?_
    refine St.seq ?_
    refine St.region ?_
    iterate 3 refine St.p rfl rfl ?_
    refine St.loadB 6 rfl rfl (.head _) rfl rfl ?_
    refine St.p rfl rfl ?_
    refine St.done ?_
    refine St.thenN ?_
    refine St.prune (Γ' := [(2, _)]) ⟨rfl, trivial⟩ (.d (.d (.d .z))) ?_
    refine St.ret ?_
    repeat (first | refine St.thenR ?_ | refine St.blkR ?_)
    injection h with h
    subst h
    exact St.finR Try.results71 (.tmp rfl .nil) rfl [] ⟨rfl, rfl⟩ (fun _ w => (.z : Keep _ _).sat w)

theorem ent36 : Ent Try.prog 36 := ⟨_, Try.func36, by kernel_rfl, by kernel_rfl⟩

noncomputable def m_ref29_Finish (d_p0 : T_Device) (sum : Int) : Option (T_Device × Int) :=
  bnd (m_ref29_settled d_p0) fun r1 => bif (r1 != 0) then (some ((⟨⟨#[]⟩, (⟨(⟨(⟨⟨#[]⟩, (⟨0, 0, 0⟩ : T_Version), []⟩ : T_Image), 0⟩ : T_Slot), (⟨(⟨⟨#[]⟩, (⟨0, 0, 0⟩ : T_Version), []⟩ : T_Image), 0⟩ : T_Slot)⟩ : (Arr2 T_Slot)), 0, 0, false⟩ : T_Device), r1)) else (bnd (m_ref29_Copy d_p0) fun r2 => bnd (elt [r2.Slots.e0, r2.Slots.e1] (IntKind.wrap .i64 (1 - r2.Running))) fun x1 => bnd (Arr2.set r2.Slots (IntKind.wrap .i64 (1 - r2.Running)) (⟨x1.Image, sum⟩ : T_Slot)) fun z1 => bnd (elt [z1.e0, z1.e1] (IntKind.wrap .i64 (1 - r2.Running))) fun x2 => bnd (m_ref29_good x2 r2.Name) fun r3 => bif !r3 then (some ((⟨⟨#[]⟩, (⟨(⟨(⟨⟨#[]⟩, (⟨0, 0, 0⟩ : T_Version), []⟩ : T_Image), 0⟩ : T_Slot), (⟨(⟨⟨#[]⟩, (⟨0, 0, 0⟩ : T_Version), []⟩ : T_Image), 0⟩ : T_Slot)⟩ : (Arr2 T_Slot)), 0, 0, false⟩ : T_Device), 5)) else (some ((⟨r2.Name, z1, r2.Active, r2.Running, r2.Trial⟩ : T_Device), 0)))

theorem c_ref29_Finish {d_p0 : T_Device} {sum : Int} {A1 : Option Addr} {c1 : Nat} {A2 : Option Addr} {c2 : Nat} {r : (T_Device × Int)} (h : m_ref29_Finish d_p0 sum = some r) :
    Fun Try.prog 36 [.agg (bx_T_Device d_p0 A1 c1 A2 c2).toArray, .int .u32 sum] [.ro (SlL eu8 A1 c1 d_p0.Slots.e0.Image.Data), .ro (SlL eu8 A2 c2 d_p0.Slots.e1.Image.Data)] (fun v_ F_ => ∃ (A1 : Option Addr) (c1 : Nat) (A2 : Option Addr) (c2 : Nat), v_ = .tuple #[.agg (bx_T_Device r.1 A1 c1 A2 c2).toArray, .int .i64 r.2] ∧ F_ = [.ro (SlL eu8 A1 c1 r.1.Slots.e0.Image.Data), .ro (SlL eu8 A2 c2 r.1.Slots.e1.Image.Data)]) := by
  unfold m_ref29_Finish at h
  refine Fun.intro Try.func36 rfl rfl rfl fun w R => ?_
  refine St.seq ?_
  refine St.region ?_
  refine St.box rfl rfl fun g1 => ?_
  refine St.alloc rfl rfl fun g2 => ?_
  refine St.p rfl rfl ?_
  refine St.done ?_
  refine St.thenN ?_
  refine St.prune (Γ' := [(1, _), (2, _), (4, _)]) ⟨rfl, rfl, rfl, trivial⟩ (.k (.k (.k (.k .z)))) ?_
  refine St.seq ?_
  refine St.seq ?_
  refine St.region ?_
  refine St.loadB 0 rfl rfl (.tail _ (.head _)) rfl rfl ?_
  obtain ⟨r1, hr1, h⟩ := bnd_e h
  refine St.callV (c_ref29_settled hr1) ent61 rfl rfl rfl rfl ⟨(.tail _ (.tail _ (.head _))), (.tail _ (.tail _ (.tail _ (.head _)))), trivial⟩ ?_
  refine St.p rfl rfl ?_
  refine St.done ?_
  refine St.thenN ?_
  refine St.prune (Γ' := [(1, _), (2, _), (4, _), (6, _)]) ⟨rfl, rfl, rfl, rfl, trivial⟩ (.k (.k (.k (.k .z)))) ?_
  refine St.seq ?_
  refine St.region ?_
  refine St.p rfl rfl ?_
  refine St.p rfl rfl ?_
  refine St.done ?_
  refine St.thenN ?_
  refine St.prune (Γ' := [(1, _), (2, _), (4, _), (6, _), (11, _)]) ⟨rfl, rfl, rfl, rfl, rfl, trivial⟩ (.k (.k (.k (.k .z)))) ?_
  refine St.cond _ rfl (fun hb1 => ?_) (fun hb1 => ?_)
  · replace h := bif_t hb1 h
    refine St.seq ?_
    refine St.region ?_
    refine St.p rfl rfl ?_
    refine St.p rfl rfl ?_
    refine St.store 0 rfl rfl rfl rfl rfl rfl .z rfl ?_
    refine St.p rfl rfl ?_
    refine St.done ?_
    refine St.thenN ?_
    refine St.prune (Γ' := [(4, _), (5, _)]) ⟨rfl, rfl, trivial⟩ (.k (.d (.d (.d .z)))) ?_
    refine St.ret ?_
    repeat (first | refine St.thenR ?_ | refine St.blkR ?_)
    refine St.asrt (fun _ w => w.nilSl (cod eu8)) ?_
    refine St.asrt (fun _ w => w.nilSl (cod eu8)) ?_
    injection h with h
    subst h
    exact St.finR Try.results36 (.cell rfl (.tail _ (.tail _ (.head _))) rfl (.tmp rfl .nil)) rfl [.ro (SlL eu8 none 0 ([] : List Int)), .ro (SlL eu8 none 0 ([] : List Int))] ⟨none, 0, none, 0, rfl, rfl⟩ (fun _ w => ((.k (.k (.d (.d (.d .z))))) : Keep _ _).sat (Sat.dup (G := [.ro (SlL eu8 none 0 ([] : List Int)), .ro (SlL eu8 none 0 ([] : List Int))]) rfl ⟨(.head _), (.head _), trivial⟩ w))
  · replace h := bif_f hb1 h
    refine St.skip ?_
    refine St.thenN ?_
    refine St.prune (Γ' := [(1, _), (2, _), (4, _)]) ⟨rfl, rfl, rfl, trivial⟩ (.k (.k (.k (.k .z)))) ?_
    refine St.seq ?_
    refine St.region ?_
    refine St.loadB 0 rfl rfl (.tail _ (.head _)) rfl rfl ?_
    obtain ⟨r2, hr2, h⟩ := bnd_e h
    refine St.call (c_ref29_Copy hr2) ent52 rfl rfl rfl (fun _ w => Sat.dup (G := [.ro (SlL eu8 A1 c1 d_p0.Slots.e0.Image.Data), .ro (SlL eu8 A2 c2 d_p0.Slots.e1.Image.Data)]) rfl ⟨(.tail _ (.tail _ (.head _))), (.tail _ (.tail _ (.tail _ (.head _)))), trivial⟩ w) ?_
    rintro _ _ ⟨A3, c3, A4, c4, rfl, rfl⟩
    refine St.asrt (F' := .ro (SlL eu8 A3 c3 r2.Slots.e0.Image.Data) :: .ro (SlL eu8 A4 c4 r2.Slots.e1.Image.Data) :: .res (Box g2 35 [.string (⟨#[]⟩), .string (⟨#[]⟩), .int .i64 0, .int .i64 0, .int .i64 0, .slice none 0 0, .int .u32 0, .string (⟨#[]⟩), .int .i64 0, .int .i64 0, .int .i64 0, .slice none 0 0, .int .u32 0, .int .i64 0, .int .i64 0, .bool false]) :: .res (Box g1 35 (bx_T_Device d_p0 A1 c1 A2 c2)) :: .ro (SlL eu8 A1 c1 d_p0.Slots.e0.Image.Data) :: .ro (SlL eu8 A2 c2 d_p0.Slots.e1.Image.Data) :: R) (fun _ w => w) ?_
    refine St.store 0 rfl rfl rfl rfl rfl rfl (.s (.s (.s .z))) rfl ?_
    refine St.done ?_
    refine St.thenN ?_
    refine St.prune (Γ' := [(1, _), (2, _), (4, _)]) ⟨rfl, rfl, rfl, trivial⟩ (.k (.k (.k (.k (.d (.d .z)))))) ?_
    refine St.seq ?_
    refine St.region ?_
    refine St.p rfl rfl ?_
    refine St.loadB 14 rfl rfl (.head _) rfl rfl ?_
    refine St.p rfl rfl ?_
    refine St.p rfl rfl ?_
    refine St.done ?_
    refine St.thenN ?_
    refine St.prune (Γ' := [(1, _), (2, _), (4, _), (7, _)]) ⟨rfl, rfl, rfl, rfl, trivial⟩ (.k (.k (.k (.k .z)))) ?_
    refine St.seq ?_
    refine St.region ?_
    iterate 3 refine St.p rfl rfl ?_
    obtain ⟨x1, hx1, h⟩ := bnd_e h
    refine St.ixP (sz := 6) hx1 rfl rfl rfl rfl rfl rfl rfl rfl ?_
    refine St.p rfl rfl ?_
    obtain ⟨z1, hz1, h⟩ := bnd_e h
    refine St.stP (ls := l_T_Slot) 5 [.string r2.Name] [.int .i64 r2.Active, .int .i64 r2.Running, .bool r2.Trial] [(r2.Slots.e0, ((A3, c3), ())), (r2.Slots.e1, ((A4, c4), ()))] (fun ex => ((ex.1.1, ex.1.2), ())) hx1 (Arr2.set_e hz1) rfl rfl .z rfl rfl rfl ⟨(.head _), (.tail _ (.head _)), trivial⟩ rfl rfl rfl rfl (fun _ => rfl) (fun _ => ⟨(.head _), trivial⟩) fun ye1 hye1 => ?_
    obtain ⟨ex1, ex2, rfl⟩ := pairs2 hye1
    obtain ⟨⟨A5, c5⟩, _⟩ := ex1
    obtain ⟨⟨A6, c6⟩, _⟩ := ex2
    refine St.asrt (F' := .res (Box g1 35 [.string r2.Name, .string z1.e0.Image.Name, .int .i64 z1.e0.Image.Version.Major, .int .i64 z1.e0.Image.Version.Minor, .int .i64 z1.e0.Image.Version.Patch, .slice A5 z1.e0.Image.Data.length c5, .int .u32 z1.e0.Sum, .string z1.e1.Image.Name, .int .i64 z1.e1.Image.Version.Major, .int .i64 z1.e1.Image.Version.Minor, .int .i64 z1.e1.Image.Version.Patch, .slice A6 z1.e1.Image.Data.length c6, .int .u32 z1.e1.Sum, .int .i64 r2.Active, .int .i64 r2.Running, .bool r2.Trial]) :: .ro (SlL eu8 A5 c5 z1.e0.Image.Data) :: .ro (SlL eu8 A6 c6 z1.e1.Image.Data) :: .ro (SlL eu8 A3 c3 r2.Slots.e0.Image.Data) :: .ro (SlL eu8 A4 c4 r2.Slots.e1.Image.Data) :: .res (Box g2 35 [.string (⟨#[]⟩), .string (⟨#[]⟩), .int .i64 0, .int .i64 0, .int .i64 0, .slice none 0 0, .int .u32 0, .string (⟨#[]⟩), .int .i64 0, .int .i64 0, .int .i64 0, .slice none 0 0, .int .u32 0, .int .i64 0, .int .i64 0, .bool false]) :: R) (fun _ w => w) ?_
    refine St.done ?_
    refine St.thenN ?_
    refine St.prune (Γ' := [(2, _), (4, _), (7, _)]) ⟨rfl, rfl, rfl, trivial⟩ (.k (.k (.k (.d (.d (.k .z)))))) ?_
    refine St.seq ?_
    refine St.seq ?_
    refine St.regionF mixed (by kernel_rfl) ?_
    refine St.p rfl rfl ?_
    refine St.p rfl rfl ?_
    obtain ⟨x2, hx2, h⟩ := bnd_e h
    refine St.ixP (sz := 6) hx2 rfl rfl rfl rfl rfl rfl rfl rfl ?_
    refine St.ldP (ls := l_T_Slot) 0 [.string r2.Name] [.int .i64 r2.Active, .int .i64 r2.Running, .bool r2.Trial] [(z1.e0, ((A5, c5), ())), (z1.e1, ((A6, c6), ()))] (fun ex => .agg (bx_T_Slot x2 ex.1.1 ex.1.2).toArray) hx2 rfl rfl (.head _) rfl rfl rfl ⟨(.tail _ (.head _)), (.tail _ (.tail _ (.head _))), trivial⟩ rfl (fun _ => rfl) fun ex3 => ?_
    obtain ⟨⟨A7, c7⟩, _⟩ := ex3
    refine St.asrt (F' := .ro (SlL eu8 A7 c7 x2.Image.Data) :: .res (Box g1 35 [.string r2.Name, .string z1.e0.Image.Name, .int .i64 z1.e0.Image.Version.Major, .int .i64 z1.e0.Image.Version.Minor, .int .i64 z1.e0.Image.Version.Patch, .slice A5 z1.e0.Image.Data.length c5, .int .u32 z1.e0.Sum, .string z1.e1.Image.Name, .int .i64 z1.e1.Image.Version.Major, .int .i64 z1.e1.Image.Version.Minor, .int .i64 z1.e1.Image.Version.Patch, .slice A6 z1.e1.Image.Data.length c6, .int .u32 z1.e1.Sum, .int .i64 r2.Active, .int .i64 r2.Running, .bool r2.Trial]) :: .ro (SlL eu8 A5 c5 z1.e0.Image.Data) :: .ro (SlL eu8 A6 c6 z1.e1.Image.Data) :: .res (Box g2 35 [.string (⟨#[]⟩), .string (⟨#[]⟩), .int .i64 0, .int .i64 0, .int .i64 0, .slice none 0 0, .int .u32 0, .string (⟨#[]⟩), .int .i64 0, .int .i64 0, .int .i64 0, .slice none 0 0, .int .u32 0, .int .i64 0, .int .i64 0, .bool false]) :: R) (fun _ w => w) ?_
    refine St.p rfl rfl ?_
    refine St.loadB 0 rfl rfl (.tail _ (.head _)) rfl rfl ?_
    obtain ⟨r3, hr3, h⟩ := bnd_e h
    refine St.callV (c_ref29_good hr3) ent60 rfl rfl rfl rfl ⟨(.head _), trivial⟩ ?_
    refine St.p rfl rfl ?_
    refine St.doneQ ?_
    refine St.thenN ?_
    refine St.prune (Γ' := [(2, _), (4, _), (31, _)]) ⟨rfl, rfl, rfl, trivial⟩ (.d (.k (.k (.k (.k .z))))) ?_
    refine St.cond _ rfl (fun hb2 => ?_) (fun hb2 => ?_)
    · replace h := bif_t hb2 h
      refine St.seq ?_
      refine St.region ?_
      refine St.p rfl rfl ?_
      refine St.store 0 rfl rfl rfl rfl rfl rfl (.s (.s (.s .z))) rfl ?_
      refine St.p rfl rfl ?_
      refine St.done ?_
      refine St.thenN ?_
      refine St.prune (Γ' := [(4, _), (5, _)]) ⟨rfl, rfl, trivial⟩ (.k (.d (.d (.d .z)))) ?_
      refine St.ret ?_
      repeat (first | refine St.thenR ?_ | refine St.blkR ?_)
      refine St.asrt (fun _ w => w.nilSl (cod eu8)) ?_
      refine St.asrt (fun _ w => w.nilSl (cod eu8)) ?_
      injection h with h
      subst h
      exact St.finR Try.results36 (.cell rfl (.tail _ (.tail _ (.head _))) rfl (.tmp rfl .nil)) rfl [.ro (SlL eu8 none 0 ([] : List Int)), .ro (SlL eu8 none 0 ([] : List Int))] ⟨none, 0, none, 0, rfl, rfl⟩ (fun _ w => ((.k (.k (.d (.d (.d .z))))) : Keep _ _).sat (Sat.dup (G := [.ro (SlL eu8 none 0 ([] : List Int)), .ro (SlL eu8 none 0 ([] : List Int))]) rfl ⟨(.head _), (.head _), trivial⟩ w))
    · replace h := bif_f hb2 h
      refine St.skip ?_
      refine St.thenN ?_
      refine St.prune (Γ' := [(2, _), (4, _)]) ⟨rfl, rfl, trivial⟩ (.k (.k (.k (.k .z)))) ?_
      refine St.seq ?_
      refine St.region ?_
      refine St.loadB 0 rfl rfl (.head _) rfl rfl ?_
      refine St.store 0 rfl rfl rfl rfl rfl rfl (.s (.s (.s .z))) rfl ?_
      refine St.p rfl rfl ?_
      refine St.done ?_
      refine St.thenN ?_
      refine St.prune (Γ' := [(4, _), (5, _)]) ⟨rfl, rfl, trivial⟩ (.k (.d (.k (.k .z)))) ?_
      refine St.ret ?_
      repeat (first | refine St.thenR ?_ | refine St.blkR ?_)
      injection h with h
      subst h
      exact St.finR Try.results36 (.cell rfl (.head _) rfl (.tmp rfl .nil)) rfl [.ro (SlL eu8 A5 c5 z1.e0.Image.Data), .ro (SlL eu8 A6 c6 z1.e1.Image.Data)] ⟨A5, c5, A6, c6, rfl, rfl⟩ (fun _ w => ((.k (.k (.d (.d (.d .z))))) : Keep _ _).sat (Sat.dup (G := [.ro (SlL eu8 A5 c5 z1.e0.Image.Data), .ro (SlL eu8 A6 c6 z1.e1.Image.Data)]) rfl ⟨(.tail _ (.head _)), (.tail _ (.tail _ (.head _))), trivial⟩ w))

theorem ent63 : Ent Try.prog 63 := ⟨_, Try.func63, by kernel_rfl, by kernel_rfl⟩

noncomputable def m_ref29_Switch (d_p0 : T_Device) : Option (T_Device × Int) :=
  bnd (m_ref29_settled d_p0) fun r1 => bif (r1 != 0) then (some ((⟨⟨#[]⟩, (⟨(⟨(⟨⟨#[]⟩, (⟨0, 0, 0⟩ : T_Version), []⟩ : T_Image), 0⟩ : T_Slot), (⟨(⟨⟨#[]⟩, (⟨0, 0, 0⟩ : T_Version), []⟩ : T_Image), 0⟩ : T_Slot)⟩ : (Arr2 T_Slot)), 0, 0, false⟩ : T_Device), r1)) else (bnd (elt [d_p0.Slots.e0, d_p0.Slots.e1] (IntKind.wrap .i64 (1 - d_p0.Active))) fun x1 => bnd (m_ref29_good x1 d_p0.Name) fun r2 => bif !r2 then (some ((⟨⟨#[]⟩, (⟨(⟨(⟨⟨#[]⟩, (⟨0, 0, 0⟩ : T_Version), []⟩ : T_Image), 0⟩ : T_Slot), (⟨(⟨⟨#[]⟩, (⟨0, 0, 0⟩ : T_Version), []⟩ : T_Image), 0⟩ : T_Slot)⟩ : (Arr2 T_Slot)), 0, 0, false⟩ : T_Device), 46)) else (bnd (m_ref29_Copy d_p0) fun r3 => some ((⟨r3.Name, r3.Slots, r3.Active, r3.Running, true⟩ : T_Device), 0)))

theorem c_ref29_Switch {d_p0 : T_Device} {A1 : Option Addr} {c1 : Nat} {A2 : Option Addr} {c2 : Nat} {r : (T_Device × Int)} (h : m_ref29_Switch d_p0 = some r) :
    Fun Try.prog 63 [.agg (bx_T_Device d_p0 A1 c1 A2 c2).toArray] [.ro (SlL eu8 A1 c1 d_p0.Slots.e0.Image.Data), .ro (SlL eu8 A2 c2 d_p0.Slots.e1.Image.Data)] (fun v_ F_ => ∃ (A1 : Option Addr) (c1 : Nat) (A2 : Option Addr) (c2 : Nat), v_ = .tuple #[.agg (bx_T_Device r.1 A1 c1 A2 c2).toArray, .int .i64 r.2] ∧ F_ = [.ro (SlL eu8 A1 c1 r.1.Slots.e0.Image.Data), .ro (SlL eu8 A2 c2 r.1.Slots.e1.Image.Data)]) := by
  unfold m_ref29_Switch at h
  refine Fun.intro Try.func63 rfl rfl rfl fun w R => ?_
  refine St.seq ?_
  refine St.region ?_
  refine St.box rfl rfl fun g1 => ?_
  refine St.alloc rfl rfl fun g2 => ?_
  refine St.p rfl rfl ?_
  refine St.done ?_
  refine St.thenN ?_
  refine St.prune (Γ' := [(1, _), (2, _)]) ⟨rfl, rfl, trivial⟩ (.k (.k (.k (.k .z)))) ?_
  refine St.seq ?_
  refine St.seq ?_
  refine St.region ?_
  refine St.loadB 0 rfl rfl (.tail _ (.head _)) rfl rfl ?_
  obtain ⟨r1, hr1, h⟩ := bnd_e h
  refine St.callV (c_ref29_settled hr1) ent61 rfl rfl rfl rfl ⟨(.tail _ (.tail _ (.head _))), (.tail _ (.tail _ (.tail _ (.head _)))), trivial⟩ ?_
  refine St.p rfl rfl ?_
  refine St.done ?_
  refine St.thenN ?_
  refine St.prune (Γ' := [(1, _), (2, _), (4, _)]) ⟨rfl, rfl, rfl, trivial⟩ (.k (.k (.k (.k .z)))) ?_
  refine St.seq ?_
  refine St.region ?_
  refine St.p rfl rfl ?_
  refine St.p rfl rfl ?_
  refine St.done ?_
  refine St.thenN ?_
  refine St.prune (Γ' := [(1, _), (2, _), (4, _), (8, _)]) ⟨rfl, rfl, rfl, rfl, trivial⟩ (.k (.k (.k (.k .z)))) ?_
  refine St.cond _ rfl (fun hb1 => ?_) (fun hb1 => ?_)
  · replace h := bif_t hb1 h
    refine St.seq ?_
    refine St.region ?_
    refine St.p rfl rfl ?_
    refine St.p rfl rfl ?_
    refine St.store 0 rfl rfl rfl rfl rfl rfl .z rfl ?_
    refine St.p rfl rfl ?_
    refine St.done ?_
    refine St.thenN ?_
    refine St.prune (Γ' := [(2, _), (3, _)]) ⟨rfl, rfl, trivial⟩ (.k (.d (.d (.d .z)))) ?_
    refine St.ret ?_
    repeat (first | refine St.thenR ?_ | refine St.blkR ?_)
    refine St.asrt (fun _ w => w.nilSl (cod eu8)) ?_
    refine St.asrt (fun _ w => w.nilSl (cod eu8)) ?_
    injection h with h
    subst h
    exact St.finR Try.results63 (.cell rfl (.tail _ (.tail _ (.head _))) rfl (.tmp rfl .nil)) rfl [.ro (SlL eu8 none 0 ([] : List Int)), .ro (SlL eu8 none 0 ([] : List Int))] ⟨none, 0, none, 0, rfl, rfl⟩ (fun _ w => ((.k (.k (.d (.d (.d .z))))) : Keep _ _).sat (Sat.dup (G := [.ro (SlL eu8 none 0 ([] : List Int)), .ro (SlL eu8 none 0 ([] : List Int))]) rfl ⟨(.head _), (.head _), trivial⟩ w))
  · replace h := bif_f hb1 h
    refine St.skip ?_
    refine St.thenN ?_
    refine St.prune (Γ' := [(1, _), (2, _)]) ⟨rfl, rfl, trivial⟩ (.k (.k (.k (.k .z)))) ?_
    refine St.seq ?_
    refine St.seq ?_
    refine St.regionF mixed (by kernel_rfl) ?_
    refine St.p rfl rfl ?_
    refine St.loadB 13 rfl rfl (.tail _ (.head _)) rfl rfl ?_
    refine St.p rfl rfl ?_
    refine St.p rfl rfl ?_
    obtain ⟨x1, hx1, h⟩ := bnd_e h
    refine St.ixP (sz := 6) hx1 rfl rfl rfl rfl rfl rfl rfl rfl ?_
    refine St.ldP (ls := l_T_Slot) 0 [.string d_p0.Name] [.int .i64 d_p0.Active, .int .i64 d_p0.Running, .bool d_p0.Trial] [(d_p0.Slots.e0, ((A1, c1), ())), (d_p0.Slots.e1, ((A2, c2), ()))] (fun ex => .agg (bx_T_Slot x1 ex.1.1 ex.1.2).toArray) hx1 rfl rfl (.tail _ (.head _)) rfl rfl rfl ⟨(.tail _ (.tail _ (.head _))), (.tail _ (.tail _ (.tail _ (.head _)))), trivial⟩ rfl (fun _ => rfl) fun ex1 => ?_
    obtain ⟨⟨A3, c3⟩, _⟩ := ex1
    refine St.asrt (F' := .ro (SlL eu8 A3 c3 x1.Image.Data) :: .res (Box g2 35 [.string (⟨#[]⟩), .string (⟨#[]⟩), .int .i64 0, .int .i64 0, .int .i64 0, .slice none 0 0, .int .u32 0, .string (⟨#[]⟩), .int .i64 0, .int .i64 0, .int .i64 0, .slice none 0 0, .int .u32 0, .int .i64 0, .int .i64 0, .bool false]) :: .res (Box g1 35 (bx_T_Device d_p0 A1 c1 A2 c2)) :: .ro (SlL eu8 A1 c1 d_p0.Slots.e0.Image.Data) :: .ro (SlL eu8 A2 c2 d_p0.Slots.e1.Image.Data) :: R) (fun _ w => w) ?_
    refine St.p rfl rfl ?_
    refine St.loadB 0 rfl rfl (.tail _ (.tail _ (.head _))) rfl rfl ?_
    obtain ⟨r2, hr2, h⟩ := bnd_e h
    refine St.callV (c_ref29_good hr2) ent60 rfl rfl rfl rfl ⟨(.head _), trivial⟩ ?_
    refine St.p rfl rfl ?_
    refine St.doneQ ?_
    refine St.thenN ?_
    refine St.prune (Γ' := [(1, _), (2, _), (20, _)]) ⟨rfl, rfl, rfl, trivial⟩ (.d (.k (.k (.k (.k .z))))) ?_
    refine St.cond _ rfl (fun hb2 => ?_) (fun hb2 => ?_)
    · replace h := bif_t hb2 h
      refine St.seq ?_
      refine St.region ?_
      refine St.p rfl rfl ?_
      refine St.store 0 rfl rfl rfl rfl rfl rfl .z rfl ?_
      refine St.p rfl rfl ?_
      refine St.done ?_
      refine St.thenN ?_
      refine St.prune (Γ' := [(2, _), (3, _)]) ⟨rfl, rfl, trivial⟩ (.k (.d (.d (.d .z)))) ?_
      refine St.ret ?_
      repeat (first | refine St.thenR ?_ | refine St.blkR ?_)
      refine St.asrt (fun _ w => w.nilSl (cod eu8)) ?_
      refine St.asrt (fun _ w => w.nilSl (cod eu8)) ?_
      injection h with h
      subst h
      exact St.finR Try.results63 (.cell rfl (.tail _ (.tail _ (.head _))) rfl (.tmp rfl .nil)) rfl [.ro (SlL eu8 none 0 ([] : List Int)), .ro (SlL eu8 none 0 ([] : List Int))] ⟨none, 0, none, 0, rfl, rfl⟩ (fun _ w => ((.k (.k (.d (.d (.d .z))))) : Keep _ _).sat (Sat.dup (G := [.ro (SlL eu8 none 0 ([] : List Int)), .ro (SlL eu8 none 0 ([] : List Int))]) rfl ⟨(.head _), (.head _), trivial⟩ w))
    · replace h := bif_f hb2 h
      refine St.skip ?_
      refine St.thenN ?_
      refine St.prune (Γ' := [(1, _), (2, _)]) ⟨rfl, rfl, trivial⟩ (.k (.k (.k (.k .z)))) ?_
      refine St.seq ?_
      refine St.region ?_
      refine St.loadB 0 rfl rfl (.tail _ (.head _)) rfl rfl ?_
      obtain ⟨r3, hr3, h⟩ := bnd_e h
      refine St.call (c_ref29_Copy hr3) ent52 rfl rfl rfl (fun _ w => Sat.dup (G := [.ro (SlL eu8 A1 c1 d_p0.Slots.e0.Image.Data), .ro (SlL eu8 A2 c2 d_p0.Slots.e1.Image.Data)]) rfl ⟨(.tail _ (.tail _ (.head _))), (.tail _ (.tail _ (.tail _ (.head _)))), trivial⟩ w) ?_
      rintro _ _ ⟨A4, c4, A5, c5, rfl, rfl⟩
      refine St.asrt (F' := .ro (SlL eu8 A4 c4 r3.Slots.e0.Image.Data) :: .ro (SlL eu8 A5 c5 r3.Slots.e1.Image.Data) :: .res (Box g2 35 [.string (⟨#[]⟩), .string (⟨#[]⟩), .int .i64 0, .int .i64 0, .int .i64 0, .slice none 0 0, .int .u32 0, .string (⟨#[]⟩), .int .i64 0, .int .i64 0, .int .i64 0, .slice none 0 0, .int .u32 0, .int .i64 0, .int .i64 0, .bool false]) :: .res (Box g1 35 (bx_T_Device d_p0 A1 c1 A2 c2)) :: .ro (SlL eu8 A1 c1 d_p0.Slots.e0.Image.Data) :: .ro (SlL eu8 A2 c2 d_p0.Slots.e1.Image.Data) :: R) (fun _ w => w) ?_
      refine St.store 0 rfl rfl rfl rfl rfl rfl (.s (.s (.s .z))) rfl ?_
      refine St.done ?_
      refine St.thenN ?_
      refine St.prune (Γ' := [(1, _), (2, _)]) ⟨rfl, rfl, trivial⟩ (.k (.k (.k (.k (.d (.d .z)))))) ?_
      refine St.seq ?_
      refine St.region ?_
      refine St.p rfl rfl ?_
      refine St.store 15 rfl rfl rfl rfl rfl rfl .z rfl ?_
      refine St.done ?_
      refine St.thenN ?_
      refine St.prune (Γ' := [(1, _), (2, _)]) ⟨rfl, rfl, trivial⟩ (.k (.k (.k (.k .z)))) ?_
      refine St.seq ?_
      refine St.region ?_
      refine St.loadB 0 rfl rfl (.head _) rfl rfl ?_
      refine St.store 0 rfl rfl rfl rfl rfl rfl (.s (.s (.s .z))) rfl ?_
      refine St.p rfl rfl ?_
      refine St.done ?_
      refine St.thenN ?_
      refine St.prune (Γ' := [(2, _), (3, _)]) ⟨rfl, rfl, trivial⟩ (.k (.d (.k (.k .z)))) ?_
      refine St.ret ?_
      repeat (first | refine St.thenR ?_ | refine St.blkR ?_)
      injection h with h
      subst h
      exact St.finR Try.results63 (.cell rfl (.head _) rfl (.tmp rfl .nil)) rfl [.ro (SlL eu8 A4 c4 r3.Slots.e0.Image.Data), .ro (SlL eu8 A5 c5 r3.Slots.e1.Image.Data)] ⟨A4, c4, A5, c5, rfl, rfl⟩ (fun _ w => ((.k (.k (.d (.d (.d .z))))) : Keep _ _).sat (Sat.dup (G := [.ro (SlL eu8 A4 c4 r3.Slots.e0.Image.Data), .ro (SlL eu8 A5 c5 r3.Slots.e1.Image.Data)]) rfl ⟨(.tail _ (.head _)), (.tail _ (.tail _ (.head _))), trivial⟩ w))

theorem ent64 : Ent Try.prog 64 := ⟨_, Try.func64, by kernel_rfl, by kernel_rfl⟩

noncomputable def m_ref29_Confirm (d_p0 : T_Device) : Option (T_Device × Int) :=
  bnd (m_ref29_Valid d_p0) fun r1 => bif !r1 then (some ((⟨⟨#[]⟩, (⟨(⟨(⟨⟨#[]⟩, (⟨0, 0, 0⟩ : T_Version), []⟩ : T_Image), 0⟩ : T_Slot), (⟨(⟨⟨#[]⟩, (⟨0, 0, 0⟩ : T_Version), []⟩ : T_Image), 0⟩ : T_Slot)⟩ : (Arr2 T_Slot)), 0, 0, false⟩ : T_Device), 1)) else (bif d_p0.Trial then (some ((⟨⟨#[]⟩, (⟨(⟨(⟨⟨#[]⟩, (⟨0, 0, 0⟩ : T_Version), []⟩ : T_Image), 0⟩ : T_Slot), (⟨(⟨⟨#[]⟩, (⟨0, 0, 0⟩ : T_Version), []⟩ : T_Image), 0⟩ : T_Slot)⟩ : (Arr2 T_Slot)), 0, 0, false⟩ : T_Device), 46)) else (bnd (m_ref29_Copy d_p0) fun r2 => some ((⟨r2.Name, r2.Slots, r2.Running, r2.Running, r2.Trial⟩ : T_Device), 0)))

theorem c_ref29_Confirm {d_p0 : T_Device} {A1 : Option Addr} {c1 : Nat} {A2 : Option Addr} {c2 : Nat} {r : (T_Device × Int)} (h : m_ref29_Confirm d_p0 = some r) :
    Fun Try.prog 64 [.agg (bx_T_Device d_p0 A1 c1 A2 c2).toArray] [.ro (SlL eu8 A1 c1 d_p0.Slots.e0.Image.Data), .ro (SlL eu8 A2 c2 d_p0.Slots.e1.Image.Data)] (fun v_ F_ => ∃ (A1 : Option Addr) (c1 : Nat) (A2 : Option Addr) (c2 : Nat), v_ = .tuple #[.agg (bx_T_Device r.1 A1 c1 A2 c2).toArray, .int .i64 r.2] ∧ F_ = [.ro (SlL eu8 A1 c1 r.1.Slots.e0.Image.Data), .ro (SlL eu8 A2 c2 r.1.Slots.e1.Image.Data)]) := by
  unfold m_ref29_Confirm at h
  refine Fun.intro Try.func64 rfl rfl rfl fun w R => ?_
  refine St.seq ?_
  refine St.region ?_
  refine St.box rfl rfl fun g1 => ?_
  refine St.alloc rfl rfl fun g2 => ?_
  refine St.p rfl rfl ?_
  refine St.done ?_
  refine St.thenN ?_
  refine St.prune (Γ' := [(1, _), (2, _)]) ⟨rfl, rfl, trivial⟩ (.k (.k (.k (.k .z)))) ?_
  refine St.seq ?_
  refine St.block ?_
  refine St.seq ?_
  refine St.region ?_
  refine St.loadB 0 rfl rfl (.tail _ (.head _)) rfl rfl ?_
  obtain ⟨r1, hr1, h⟩ := bnd_e h
  refine St.callV (c_ref29_Valid hr1) ent30 rfl rfl rfl rfl ⟨(.tail _ (.tail _ (.head _))), (.tail _ (.tail _ (.tail _ (.head _)))), trivial⟩ ?_
  refine St.p rfl rfl ?_
  refine St.p rfl rfl ?_
  refine St.done ?_
  refine St.thenN ?_
  refine St.prune (Γ' := [(1, _), (2, _), (4, _)]) ⟨rfl, rfl, rfl, trivial⟩ (.k (.k (.k (.k .z)))) ?_
  refine St.cond _ rfl (fun hb1 => ?_) (fun hb1 => ?_)
  · replace h := bif_t hb1 h
    refine St.seq ?_
    refine St.region ?_
    refine St.p rfl rfl ?_
    refine St.store 0 rfl rfl rfl rfl rfl rfl .z rfl ?_
    refine St.p rfl rfl ?_
    refine St.done ?_
    refine St.thenN ?_
    refine St.prune (Γ' := [(2, _), (3, _)]) ⟨rfl, rfl, trivial⟩ (.k (.d (.d (.d .z)))) ?_
    refine St.ret ?_
    repeat (first | refine St.thenR ?_ | refine St.blkR ?_)
    refine St.asrt (fun _ w => w.nilSl (cod eu8)) ?_
    refine St.asrt (fun _ w => w.nilSl (cod eu8)) ?_
    injection h with h
    subst h
    exact St.finR Try.results64 (.cell rfl (.tail _ (.tail _ (.head _))) rfl (.tmp rfl .nil)) rfl [.ro (SlL eu8 none 0 ([] : List Int)), .ro (SlL eu8 none 0 ([] : List Int))] ⟨none, 0, none, 0, rfl, rfl⟩ (fun _ w => ((.k (.k (.d (.d (.d .z))))) : Keep _ _).sat (Sat.dup (G := [.ro (SlL eu8 none 0 ([] : List Int)), .ro (SlL eu8 none 0 ([] : List Int))]) rfl ⟨(.head _), (.head _), trivial⟩ w))
  · replace h := bif_f hb1 h
    refine St.seq ?_
    refine St.region ?_
    refine St.p rfl rfl ?_
    refine St.loadB 15 rfl rfl (.tail _ (.head _)) rfl rfl ?_
    refine St.p rfl rfl ?_
    refine St.done ?_
    refine St.thenN ?_
    refine St.prune (Γ' := [(1, _), (2, _), (9, _)]) ⟨rfl, rfl, rfl, trivial⟩ (.k (.k (.k (.k .z)))) ?_
    refine St.cond _ rfl (fun hb2 => ?_) (fun hb2 => ?_)
    · replace h := bif_t hb2 h
      refine St.seq ?_
      refine St.region ?_
      refine St.p rfl rfl ?_
      refine St.store 0 rfl rfl rfl rfl rfl rfl .z rfl ?_
      refine St.p rfl rfl ?_
      refine St.done ?_
      refine St.thenN ?_
      refine St.prune (Γ' := [(2, _), (3, _)]) ⟨rfl, rfl, trivial⟩ (.k (.d (.d (.d .z)))) ?_
      refine St.ret ?_
      repeat (first | refine St.thenR ?_ | refine St.blkR ?_)
      refine St.asrt (fun _ w => w.nilSl (cod eu8)) ?_
      refine St.asrt (fun _ w => w.nilSl (cod eu8)) ?_
      injection h with h
      subst h
      exact St.finR Try.results64 (.cell rfl (.tail _ (.tail _ (.head _))) rfl (.tmp rfl .nil)) rfl [.ro (SlL eu8 none 0 ([] : List Int)), .ro (SlL eu8 none 0 ([] : List Int))] ⟨none, 0, none, 0, rfl, rfl⟩ (fun _ w => ((.k (.k (.d (.d (.d .z))))) : Keep _ _).sat (Sat.dup (G := [.ro (SlL eu8 none 0 ([] : List Int)), .ro (SlL eu8 none 0 ([] : List Int))]) rfl ⟨(.head _), (.head _), trivial⟩ w))
    · replace h := bif_f hb2 h
      refine St.skip ?_
      refine St.blkN ?_
      refine St.thenN ?_
      refine St.prune (Γ' := [(1, _), (2, _)]) ⟨rfl, rfl, trivial⟩ (.k (.k (.k (.k .z)))) ?_
      refine St.seq ?_
      refine St.region ?_
      refine St.loadB 0 rfl rfl (.tail _ (.head _)) rfl rfl ?_
      obtain ⟨r2, hr2, h⟩ := bnd_e h
      refine St.call (c_ref29_Copy hr2) ent52 rfl rfl rfl (fun _ w => Sat.dup (G := [.ro (SlL eu8 A1 c1 d_p0.Slots.e0.Image.Data), .ro (SlL eu8 A2 c2 d_p0.Slots.e1.Image.Data)]) rfl ⟨(.tail _ (.tail _ (.head _))), (.tail _ (.tail _ (.tail _ (.head _)))), trivial⟩ w) ?_
      rintro _ _ ⟨A3, c3, A4, c4, rfl, rfl⟩
      refine St.asrt (F' := .ro (SlL eu8 A3 c3 r2.Slots.e0.Image.Data) :: .ro (SlL eu8 A4 c4 r2.Slots.e1.Image.Data) :: .res (Box g2 35 [.string (⟨#[]⟩), .string (⟨#[]⟩), .int .i64 0, .int .i64 0, .int .i64 0, .slice none 0 0, .int .u32 0, .string (⟨#[]⟩), .int .i64 0, .int .i64 0, .int .i64 0, .slice none 0 0, .int .u32 0, .int .i64 0, .int .i64 0, .bool false]) :: .res (Box g1 35 (bx_T_Device d_p0 A1 c1 A2 c2)) :: .ro (SlL eu8 A1 c1 d_p0.Slots.e0.Image.Data) :: .ro (SlL eu8 A2 c2 d_p0.Slots.e1.Image.Data) :: R) (fun _ w => w) ?_
      refine St.store 0 rfl rfl rfl rfl rfl rfl (.s (.s (.s .z))) rfl ?_
      refine St.done ?_
      refine St.thenN ?_
      refine St.prune (Γ' := [(1, _), (2, _)]) ⟨rfl, rfl, trivial⟩ (.k (.k (.k (.k (.d (.d .z)))))) ?_
      refine St.seq ?_
      refine St.region ?_
      refine St.p rfl rfl ?_
      refine St.loadB 14 rfl rfl (.head _) rfl rfl ?_
      refine St.p rfl rfl ?_
      refine St.store 13 rfl rfl rfl rfl rfl rfl .z rfl ?_
      refine St.done ?_
      refine St.thenN ?_
      refine St.prune (Γ' := [(1, _), (2, _)]) ⟨rfl, rfl, trivial⟩ (.k (.k (.k (.k .z)))) ?_
      refine St.seq ?_
      refine St.region ?_
      refine St.loadB 0 rfl rfl (.head _) rfl rfl ?_
      refine St.store 0 rfl rfl rfl rfl rfl rfl (.s (.s (.s .z))) rfl ?_
      refine St.p rfl rfl ?_
      refine St.done ?_
      refine St.thenN ?_
      refine St.prune (Γ' := [(2, _), (3, _)]) ⟨rfl, rfl, trivial⟩ (.k (.d (.k (.k .z)))) ?_
      refine St.ret ?_
      repeat (first | refine St.thenR ?_ | refine St.blkR ?_)
      injection h with h
      subst h
      exact St.finR Try.results64 (.cell rfl (.head _) rfl (.tmp rfl .nil)) rfl [.ro (SlL eu8 A3 c3 r2.Slots.e0.Image.Data), .ro (SlL eu8 A4 c4 r2.Slots.e1.Image.Data)] ⟨A3, c3, A4, c4, rfl, rfl⟩ (fun _ w => ((.k (.k (.d (.d (.d .z))))) : Keep _ _).sat (Sat.dup (G := [.ro (SlL eu8 A3 c3 r2.Slots.e0.Image.Data), .ro (SlL eu8 A4 c4 r2.Slots.e1.Image.Data)]) rfl ⟨(.tail _ (.head _)), (.tail _ (.tail _ (.head _))), trivial⟩ w))

theorem ent22 : Ent Try.prog 22 := ⟨_, Try.func22, by kernel_rfl, by kernel_rfl⟩

noncomputable def m_field_Codes_Image (c_p0 : T_Codes) (name : ByteArray) : Option (T_Codes × T_Image) :=
  bnd (m_field_Codes_plain c_p0) fun r1 => bnd (m_field_Codes_Next r1.1 256) fun r2 => bnd (m_field_Codes_Bytes r2.1 5) fun r3 => bnd (app 1 ([IntKind.wrap .u8 r2.2]) r3.2) fun l1 => bnd (m_field_Codes_Next r3.1 30) fun r4 => bif (r4.2 == 29) then (some (r4.1, (⟨name, r1.2, []⟩ : T_Image))) else (bif (r4.2 == 28) then (some (r4.1, (⟨name, (⟨r1.2.Major, r1.2.Minor, (-1)⟩ : T_Version), l1⟩ : T_Image))) else (bif (r4.2 == 27) then (bnd (m_field_Codes_Next r4.1 2) fun r5 => bnd (mkS 1 0 (IntKind.wrap .i64 (512 + r5.2)) (IntKind.wrap .i64 (512 + r5.2))) fun l2 => some (r5.1, (⟨name, r1.2, l2⟩ : T_Image))) else (some (r4.1, (⟨name, r1.2, l1⟩ : T_Image)))))

theorem c_field_Codes_Image {c_p0 : T_Codes} {name : ByteArray} {A1 : Option Addr} {c1 : Nat} {gb1 : Nat} {r : (T_Codes × T_Image)} (h : m_field_Codes_Image c_p0 name = some r) :
    Fun Try.prog 22 [.pointer (some ⟨gb1, 0, none⟩), .string name] [.ro (SlL eu8 A1 c1 c_p0.L), .res (Box gb1 63 [.slice A1 c_p0.L.length c1, .int .i64 c_p0.At])] (fun v_ F_ => ∃ (A1 : Option Addr) (c1 : Nat) (A2 : Option Addr) (c2 : Nat), v_ = .agg (bx_T_Image r.2 A2 c2).toArray ∧ F_ = [.ro (SlL eu8 A1 c1 r.1.L), .ro (SlL eu8 A2 c2 r.2.Data), .res (Box gb1 63 [.slice A1 r.1.L.length c1, .int .i64 r.1.At])]) := by
  unfold m_field_Codes_Image at h
  refine Fun.intro Try.func22 rfl rfl rfl fun w R => ?_
  refine St.seq ?_
  refine St.region ?_
  refine St.alloc rfl rfl fun g1 => ?_
  refine St.done ?_
  refine St.thenN ?_
  refine St.seq ?_
  refine St.region ?_
  refine St.p rfl rfl ?_
  refine St.p rfl rfl ?_
  obtain ⟨r1, hr1, h⟩ := bnd_e h
  refine St.call (c_field_Codes_plain hr1) ent49 rfl rfl rfl (fun _ w => Sat.dup (G := [.ro (SlL eu8 A1 c1 c_p0.L)]) rfl ⟨(.tail _ (.tail _ (.head _))), trivial⟩ (w.front (.s (.s .z)))) ?_
  rintro _ _ ⟨A2, c2, rfl, rfl⟩
  refine St.asrt (F' := .ro (SlL eu8 A2 c2 r1.1.L) :: .res (Box gb1 63 [.slice A2 r1.1.L.length c2, .int .i64 r1.1.At]) :: .res (Box g1 30 [.string (⟨#[]⟩), .int .i64 0, .int .i64 0, .int .i64 0, .slice none 0 0]) :: .ro (SlL eu8 A1 c1 c_p0.L) :: R) (fun _ w => w) ?_
  refine St.p rfl rfl ?_
  obtain ⟨r2, hr2, h⟩ := bnd_e h
  refine St.call (c_field_Codes_Next hr2) ent23 rfl rfl rfl (fun _ w => Sat.dup (G := [.ro (SlL eu8 A2 c2 r1.1.L)]) rfl ⟨(.tail _ (.head _)), trivial⟩ (w.front (.s .z))) ?_
  rintro _ _ ⟨A3, c3, rfl, rfl⟩
  refine St.asrt (F' := .ro (SlL eu8 A3 c3 r2.1.L) :: .res (Box gb1 63 [.slice A3 r2.1.L.length c3, .int .i64 r2.1.At]) :: .ro (SlL eu8 A2 c2 r1.1.L) :: .res (Box g1 30 [.string (⟨#[]⟩), .int .i64 0, .int .i64 0, .int .i64 0, .slice none 0 0]) :: .ro (SlL eu8 A1 c1 c_p0.L) :: R) (fun _ w => w) ?_
  refine St.p rfl rfl ?_
  refine St.buildSlice rfl rfl rfl rfl rfl rfl rfl rfl fun g2 => ?_
  refine St.p rfl rfl ?_
  obtain ⟨r3, hr3, h⟩ := bnd_e h
  refine St.call (c_field_Codes_Bytes hr3) ent12 rfl rfl rfl (fun _ w => Sat.dup (G := [.ro (SlL eu8 A3 c3 r2.1.L)]) rfl ⟨(.tail _ (.tail _ (.head _))), trivial⟩ (w.front (.s (.s .z)))) ?_
  rintro _ _ ⟨A4, c4, A5, c5, rfl, rfl⟩
  refine St.asrt (F' := .ro (SlL eu8 A4 c4 r3.1.L) :: .res (Box gb1 63 [.slice A4 r3.1.L.length c4, .int .i64 r3.1.At]) :: .res (OwnL eu8 5 A5 c5 r3.2) :: .res (Box g2 5 [.int .u8 (IntKind.wrap .u8 r2.2)]) :: .ro (SlL eu8 A3 c3 r2.1.L) :: .ro (SlL eu8 A2 c2 r1.1.L) :: .res (Box g1 30 [.string (⟨#[]⟩), .int .i64 0, .int .i64 0, .int .i64 0, .slice none 0 0]) :: .ro (SlL eu8 A1 c1 c_p0.L) :: R) (fun _ w => w) ?_
  refine St.asrt (fun _ w => (w.front (.s (.s .z))).meltL) ?_
  refine St.asrt (fun _ w => (w.front (.s (.s (.s .z)))).litL (E := eu8) (e := 5) [IntKind.wrap .u8 r2.2] rfl rfl) ?_
  obtain ⟨l1, hl1, h⟩ := bnd_e h
  refine St.app (E := eu8) hl1 rfl rfl rfl .z rfl rfl rfl rfl rfl rfl rfl rfl (srcL (.tail _ (.head _))) rfl rfl fun A6 c6 => ?_
  refine St.p rfl rfl ?_
  refine St.alloc rfl rfl fun g3 => ?_
  refine St.store 0 rfl rfl rfl rfl rfl rfl .z rfl ?_
  refine St.done ?_
  refine St.thenN ?_
  refine St.prune (Γ' := [(0, _), (4, _), (5, _)]) ⟨rfl, rfl, rfl, trivial⟩ (.k (.k (.d (.k (.k (.d (.d (.k (.d .z))))))))) ?_
  refine St.seq ?_
  refine St.seq ?_
  refine St.region ?_
  refine St.p rfl rfl ?_
  obtain ⟨r4, hr4, h⟩ := bnd_e h
  refine St.call (c_field_Codes_Next hr4) ent23 rfl rfl rfl (fun _ w => Sat.dup (G := [.ro (SlL eu8 A4 c4 r3.1.L)]) rfl ⟨(.tail _ (.tail _ (.tail _ (.head _)))), trivial⟩ (w.front (.s (.s (.s .z))))) ?_
  rintro _ _ ⟨A7, c7, rfl, rfl⟩
  refine St.asrt (F' := .ro (SlL eu8 A7 c7 r4.1.L) :: .res (Box gb1 63 [.slice A7 r4.1.L.length c7, .int .i64 r4.1.At]) :: .res (Box g3 30 [.string name, .int .i64 r1.2.Major, .int .i64 r1.2.Minor, .int .i64 r1.2.Patch, .slice A6 l1.length c6]) :: .res (OwnL eu8 5 A6 c6 l1) :: .ro (SlL eu8 A4 c4 r3.1.L) :: .res (Box g1 30 [.string (⟨#[]⟩), .int .i64 0, .int .i64 0, .int .i64 0, .slice none 0 0]) :: R) (fun _ w => w) ?_
  refine St.done ?_
  refine St.thenN ?_
  refine St.prune (Γ' := [(0, _), (4, _), (5, _), (18, _)]) ⟨rfl, rfl, rfl, rfl, trivial⟩ (.k (.k (.k (.k (.d (.k .z)))))) ?_
  refine St.block ?_
  refine St.seq ?_
  refine St.region ?_
  refine St.p rfl rfl ?_
  refine St.p rfl rfl ?_
  refine St.done ?_
  refine St.thenN ?_
  refine St.prune (Γ' := [(0, _), (4, _), (5, _), (18, _), (19, _)]) ⟨rfl, rfl, rfl, rfl, rfl, trivial⟩ (.k (.k (.k (.k (.k .z))))) ?_
  refine St.cond _ rfl (fun hb1 => ?_) (fun hb1 => ?_)
  · replace h := bif_t hb1 h
    refine St.region ?_
    refine St.p rfl rfl ?_
    refine St.store 4 rfl rfl rfl rfl rfl rfl (.s (.s .z)) rfl ?_
    refine St.done ?_
    refine St.blkN ?_
    refine St.thenN ?_
    refine St.prune (Γ' := [(4, _), (5, _)]) ⟨rfl, rfl, trivial⟩ (.k (.k (.k (.d (.k .z))))) ?_
    refine St.seq ?_
    refine St.region ?_
    refine St.loadB 0 rfl rfl (.head _) rfl rfl ?_
    refine St.store 0 rfl rfl rfl rfl rfl rfl (.s (.s (.s .z))) rfl ?_
    refine St.done ?_
    refine St.thenN ?_
    refine St.prune (Γ' := [(4, _)]) ⟨rfl, trivial⟩ (.k (.d (.k (.k .z)))) ?_
    refine St.ret ?_
    repeat (first | refine St.thenR ?_ | refine St.blkR ?_)
    refine St.asrt (fun _ w => w.nilSl (cod eu8)) ?_
    injection h with h
    subst h
    exact St.finR Try.results22 (.cell rfl (.tail _ (.head _)) rfl .nil) rfl [.ro (SlL eu8 A7 c7 r4.1.L), .ro (SlL eu8 none 0 ([] : List Int)), .res (Box gb1 63 [.slice A7 r4.1.L.length c7, .int .i64 r4.1.At])] ⟨A7, c7, none, 0, rfl, rfl⟩ (fun _ w => ((.k (.k (.k (.d (.d (.d .z)))))) : Keep _ _).sat (Sat.dup (G := [.ro (SlL eu8 A7 c7 r4.1.L), .ro (SlL eu8 none 0 ([] : List Int))]) rfl ⟨(.tail _ (.tail _ (.tail _ (.head _)))), (.tail _ (.head _)), trivial⟩ (w.front (.s (.s (.s .z))))))
  · replace h := bif_f hb1 h
    refine St.seq ?_
    refine St.region ?_
    refine St.p rfl rfl ?_
    refine St.p rfl rfl ?_
    refine St.done ?_
    refine St.thenN ?_
    refine St.prune (Γ' := [(0, _), (4, _), (5, _), (18, _), (22, _)]) ⟨rfl, rfl, rfl, rfl, rfl, trivial⟩ (.k (.k (.k (.k (.k .z))))) ?_
    refine St.cond _ rfl (fun hb2 => ?_) (fun hb2 => ?_)
    · replace h := bif_t hb2 h
      refine St.region ?_
      refine St.p rfl rfl ?_
      refine St.p rfl rfl ?_
      refine St.store 3 rfl rfl rfl rfl rfl rfl (.s (.s .z)) rfl ?_
      refine St.done ?_
      refine St.blkN ?_
      refine St.thenN ?_
      refine St.prune (Γ' := [(4, _), (5, _)]) ⟨rfl, rfl, trivial⟩ (.k (.k (.k (.k (.k .z))))) ?_
      refine St.seq ?_
      refine St.region ?_
      refine St.loadB 0 rfl rfl (.head _) rfl rfl ?_
      refine St.store 0 rfl rfl rfl rfl rfl rfl (.s (.s (.s (.s .z)))) rfl ?_
      refine St.done ?_
      refine St.thenN ?_
      refine St.prune (Γ' := [(4, _)]) ⟨rfl, trivial⟩ (.k (.d (.k (.k (.k .z))))) ?_
      refine St.ret ?_
      repeat (first | refine St.thenR ?_ | refine St.blkR ?_)
      refine St.asrt (fun _ w => (w.front (.s (.s (.s .z)))).meltL) ?_
      injection h with h
      subst h
      exact St.finR Try.results22 (.cell rfl (.tail _ (.head _)) rfl .nil) rfl [.ro (SlL eu8 A7 c7 r4.1.L), .ro (SlL eu8 A6 c6 l1), .res (Box gb1 63 [.slice A7 r4.1.L.length c7, .int .i64 r4.1.At])] ⟨A7, c7, A6, c6, rfl, rfl⟩ (fun _ w => ((.k (.k (.k (.d (.d (.d .z)))))) : Keep _ _).sat (Sat.dup (G := [.ro (SlL eu8 A7 c7 r4.1.L), .ro (SlL eu8 A6 c6 l1)]) rfl ⟨(.tail _ (.tail _ (.tail _ (.head _)))), (.tail _ (.head _)), trivial⟩ (w.front (.s (.s (.s .z))))))
    · replace h := bif_f hb2 h
      refine St.seq ?_
      refine St.region ?_
      refine St.p rfl rfl ?_
      refine St.p rfl rfl ?_
      refine St.done ?_
      refine St.thenN ?_
      refine St.prune (Γ' := [(0, _), (4, _), (5, _), (26, _)]) ⟨rfl, rfl, rfl, rfl, trivial⟩ (.k (.k (.k (.k (.k .z))))) ?_
      refine St.cond _ rfl (fun hb3 => ?_) (fun hb3 => ?_)
      · replace h := bif_t hb3 h
        refine St.region ?_
        refine St.p rfl rfl ?_
        obtain ⟨r5, hr5, h⟩ := bnd_e h
        refine St.call (c_field_Codes_Next hr5) ent23 rfl rfl rfl (fun _ w => Sat.dup (G := [.ro (SlL eu8 A7 c7 r4.1.L)]) rfl ⟨(.tail _ (.head _)), trivial⟩ (w.front (.s .z))) ?_
        rintro _ _ ⟨A8, c8, rfl, rfl⟩
        refine St.asrt (F' := .ro (SlL eu8 A8 c8 r5.1.L) :: .res (Box gb1 63 [.slice A8 r5.1.L.length c8, .int .i64 r5.1.At]) :: .ro (SlL eu8 A7 c7 r4.1.L) :: .res (Box g3 30 [.string name, .int .i64 r1.2.Major, .int .i64 r1.2.Minor, .int .i64 r1.2.Patch, .slice A6 l1.length c6]) :: .res (OwnL eu8 5 A6 c6 l1) :: .res (Box g1 30 [.string (⟨#[]⟩), .int .i64 0, .int .i64 0, .int .i64 0, .slice none 0 0]) :: R) (fun _ w => w) ?_
        refine St.p rfl rfl ?_
        obtain ⟨l2, hl2, h⟩ := bnd_e h
        refine St.mkL (E := eu8) 0 hl2 rfl rfl rfl rfl rfl rfl rfl rfl rfl rfl fun g4 => ?_
        refine St.p rfl rfl ?_
        refine St.store 4 rfl rfl rfl rfl rfl rfl (.s (.s (.s (.s .z)))) rfl ?_
        refine St.done ?_
        refine St.blkN ?_
        refine St.thenN ?_
        refine St.prune (Γ' := [(4, _), (5, _)]) ⟨rfl, rfl, trivial⟩ (.k (.k (.k (.k (.d (.d (.k .z))))))) ?_
        refine St.seq ?_
        refine St.region ?_
        refine St.loadB 0 rfl rfl (.head _) rfl rfl ?_
        refine St.store 0 rfl rfl rfl rfl rfl rfl (.s (.s (.s (.s .z)))) rfl ?_
        refine St.done ?_
        refine St.thenN ?_
        refine St.prune (Γ' := [(4, _)]) ⟨rfl, trivial⟩ (.k (.d (.k (.k (.k .z))))) ?_
        refine St.ret ?_
        repeat (first | refine St.thenR ?_ | refine St.blkR ?_)
        refine St.asrt (fun _ w => (w.front (.s .z)).meltL) ?_
        injection h with h
        subst h
        exact St.finR Try.results22 (.cell rfl (.tail _ (.head _)) rfl .nil) rfl [.ro (SlL eu8 A8 c8 r5.1.L), .ro (SlL eu8 (some ⟨g4, 0, none⟩) (Int.toNat (IntKind.wrap .i64 (512 + r5.2))) l2), .res (Box gb1 63 [.slice A8 r5.1.L.length c8, .int .i64 r5.1.At])] ⟨A8, c8, (some ⟨g4, 0, none⟩), (Int.toNat (IntKind.wrap .i64 (512 + r5.2))), rfl, rfl⟩ (fun _ w => ((.k (.k (.k (.d (.d (.d .z)))))) : Keep _ _).sat (Sat.dup (G := [.ro (SlL eu8 A8 c8 r5.1.L), .ro (SlL eu8 (some ⟨g4, 0, none⟩) (Int.toNat (IntKind.wrap .i64 (512 + r5.2))) l2)]) rfl ⟨(.tail _ (.tail _ (.tail _ (.head _)))), (.tail _ (.head _)), trivial⟩ (w.front (.s (.s (.s .z))))))
      · replace h := bif_f hb3 h
        refine St.skip ?_
        refine St.blkN ?_
        refine St.thenN ?_
        refine St.prune (Γ' := [(4, _), (5, _)]) ⟨rfl, rfl, trivial⟩ (.k (.k (.k (.k (.k .z))))) ?_
        refine St.seq ?_
        refine St.region ?_
        refine St.loadB 0 rfl rfl (.tail _ (.tail _ (.head _))) rfl rfl ?_
        refine St.store 0 rfl rfl rfl rfl rfl rfl (.s (.s (.s (.s .z)))) rfl ?_
        refine St.done ?_
        refine St.thenN ?_
        refine St.prune (Γ' := [(4, _)]) ⟨rfl, trivial⟩ (.k (.k (.k (.d (.k .z))))) ?_
        refine St.ret ?_
        repeat (first | refine St.thenR ?_ | refine St.blkR ?_)
        refine St.asrt (fun _ w => (w.front (.s (.s (.s .z)))).meltL) ?_
        injection h with h
        subst h
        exact St.finR Try.results22 (.cell rfl (.tail _ (.head _)) rfl .nil) rfl [.ro (SlL eu8 A7 c7 r4.1.L), .ro (SlL eu8 A6 c6 l1), .res (Box gb1 63 [.slice A7 r4.1.L.length c7, .int .i64 r4.1.At])] ⟨A7, c7, A6, c6, rfl, rfl⟩ (fun _ w => ((.k (.k (.k (.d (.d (.d .z)))))) : Keep _ _).sat (Sat.dup (G := [.ro (SlL eu8 A7 c7 r4.1.L), .ro (SlL eu8 A6 c6 l1)]) rfl ⟨(.tail _ (.tail _ (.tail _ (.head _)))), (.tail _ (.head _)), trivial⟩ (w.front (.s (.s (.s .z))))))

theorem ent38 : Ent Try.prog 38 := ⟨_, Try.func38, by kernel_rfl, by kernel_rfl⟩

noncomputable def m_ref29_Boot (d_p0 : T_Device) : Option T_Device :=
  bnd (m_ref29_Valid d_p0) fun r1 => bif !r1 then (some (⟨⟨#[]⟩, (⟨(⟨(⟨⟨#[]⟩, (⟨0, 0, 0⟩ : T_Version), []⟩ : T_Image), 0⟩ : T_Slot), (⟨(⟨⟨#[]⟩, (⟨0, 0, 0⟩ : T_Version), []⟩ : T_Image), 0⟩ : T_Slot)⟩ : (Arr2 T_Slot)), 0, 0, false⟩ : T_Device)) else (bnd (m_ref29_Copy d_p0) fun r2 => bif r2.Trial then (some (⟨r2.Name, r2.Slots, r2.Active, IntKind.wrap .i64 (1 - r2.Active), false⟩ : T_Device)) else (some (⟨r2.Name, r2.Slots, r2.Active, r2.Active, r2.Trial⟩ : T_Device)))

theorem c_ref29_Boot {d_p0 : T_Device} {A1 : Option Addr} {c1 : Nat} {A2 : Option Addr} {c2 : Nat} {r : T_Device} (h : m_ref29_Boot d_p0 = some r) :
    Fun Try.prog 38 [.agg (bx_T_Device d_p0 A1 c1 A2 c2).toArray] [.ro (SlL eu8 A1 c1 d_p0.Slots.e0.Image.Data), .ro (SlL eu8 A2 c2 d_p0.Slots.e1.Image.Data)] (fun v_ F_ => ∃ (A1 : Option Addr) (c1 : Nat) (A2 : Option Addr) (c2 : Nat), v_ = .agg (bx_T_Device r A1 c1 A2 c2).toArray ∧ F_ = [.ro (SlL eu8 A1 c1 r.Slots.e0.Image.Data), .ro (SlL eu8 A2 c2 r.Slots.e1.Image.Data)]) := by
  unfold m_ref29_Boot at h
  refine Fun.intro Try.func38 rfl rfl rfl fun w R => ?_
  refine St.seq ?_
  refine St.region ?_
  refine St.box rfl rfl fun g1 => ?_
  refine St.alloc rfl rfl fun g2 => ?_
  refine St.done ?_
  refine St.thenN ?_
  refine St.prune (Γ' := [(1, _), (2, _)]) ⟨rfl, rfl, trivial⟩ (.k (.k (.k (.k .z)))) ?_
  refine St.seq ?_
  refine St.seq ?_
  refine St.region ?_
  refine St.loadB 0 rfl rfl (.tail _ (.head _)) rfl rfl ?_
  obtain ⟨r1, hr1, h⟩ := bnd_e h
  refine St.callV (c_ref29_Valid hr1) ent30 rfl rfl rfl rfl ⟨(.tail _ (.tail _ (.head _))), (.tail _ (.tail _ (.tail _ (.head _)))), trivial⟩ ?_
  refine St.p rfl rfl ?_
  refine St.done ?_
  refine St.thenN ?_
  refine St.prune (Γ' := [(1, _), (2, _), (5, _)]) ⟨rfl, rfl, rfl, trivial⟩ (.k (.k (.k (.k .z)))) ?_
  refine St.cond _ rfl (fun hb1 => ?_) (fun hb1 => ?_)
  · replace h := bif_t hb1 h
    refine St.seq ?_
    refine St.region ?_
    refine St.p rfl rfl ?_
    refine St.store 0 rfl rfl rfl rfl rfl rfl .z rfl ?_
    refine St.done ?_
    refine St.thenN ?_
    refine St.prune (Γ' := [(2, _)]) ⟨rfl, trivial⟩ (.k (.d (.d (.d .z)))) ?_
    refine St.ret ?_
    repeat (first | refine St.thenR ?_ | refine St.blkR ?_)
    refine St.asrt (fun _ w => w.nilSl (cod eu8)) ?_
    refine St.asrt (fun _ w => w.nilSl (cod eu8)) ?_
    injection h with h
    subst h
    exact St.finR Try.results38 (.cell rfl (.tail _ (.tail _ (.head _))) rfl .nil) rfl [.ro (SlL eu8 none 0 ([] : List Int)), .ro (SlL eu8 none 0 ([] : List Int))] ⟨none, 0, none, 0, rfl, rfl⟩ (fun _ w => ((.k (.k (.d (.d (.d .z))))) : Keep _ _).sat (Sat.dup (G := [.ro (SlL eu8 none 0 ([] : List Int)), .ro (SlL eu8 none 0 ([] : List Int))]) rfl ⟨(.head _), (.head _), trivial⟩ w))
  · replace h := bif_f hb1 h
    refine St.skip ?_
    refine St.thenN ?_
    refine St.prune (Γ' := [(1, _), (2, _)]) ⟨rfl, rfl, trivial⟩ (.k (.k (.k (.k .z)))) ?_
    refine St.seq ?_
    refine St.region ?_
    refine St.loadB 0 rfl rfl (.tail _ (.head _)) rfl rfl ?_
    obtain ⟨r2, hr2, h⟩ := bnd_e h
    refine St.call (c_ref29_Copy hr2) ent52 rfl rfl rfl (fun _ w => Sat.dup (G := [.ro (SlL eu8 A1 c1 d_p0.Slots.e0.Image.Data), .ro (SlL eu8 A2 c2 d_p0.Slots.e1.Image.Data)]) rfl ⟨(.tail _ (.tail _ (.head _))), (.tail _ (.tail _ (.tail _ (.head _)))), trivial⟩ w) ?_
    rintro _ _ ⟨A3, c3, A4, c4, rfl, rfl⟩
    refine St.asrt (F' := .ro (SlL eu8 A3 c3 r2.Slots.e0.Image.Data) :: .ro (SlL eu8 A4 c4 r2.Slots.e1.Image.Data) :: .res (Box g2 35 [.string (⟨#[]⟩), .string (⟨#[]⟩), .int .i64 0, .int .i64 0, .int .i64 0, .slice none 0 0, .int .u32 0, .string (⟨#[]⟩), .int .i64 0, .int .i64 0, .int .i64 0, .slice none 0 0, .int .u32 0, .int .i64 0, .int .i64 0, .bool false]) :: .res (Box g1 35 (bx_T_Device d_p0 A1 c1 A2 c2)) :: .ro (SlL eu8 A1 c1 d_p0.Slots.e0.Image.Data) :: .ro (SlL eu8 A2 c2 d_p0.Slots.e1.Image.Data) :: R) (fun _ w => w) ?_
    refine St.store 0 rfl rfl rfl rfl rfl rfl (.s (.s (.s .z))) rfl ?_
    refine St.done ?_
    refine St.thenN ?_
    refine St.prune (Γ' := [(1, _), (2, _)]) ⟨rfl, rfl, trivial⟩ (.k (.k (.k (.k (.d (.d .z)))))) ?_
    refine St.seq ?_
    refine St.seq ?_
    refine St.region ?_
    refine St.p rfl rfl ?_
    refine St.loadB 15 rfl rfl (.head _) rfl rfl ?_
    refine St.done ?_
    refine St.thenN ?_
    refine St.prune (Γ' := [(1, _), (2, _), (10, _)]) ⟨rfl, rfl, rfl, trivial⟩ (.k (.k (.k (.k .z)))) ?_
    refine St.cond _ rfl (fun hb2 => ?_) (fun hb2 => ?_)
    · replace h := bif_t hb2 h
      refine St.region ?_
      refine St.p rfl rfl ?_
      refine St.loadB 13 rfl rfl (.head _) rfl rfl ?_
      refine St.p rfl rfl ?_
      refine St.p rfl rfl ?_
      refine St.store 14 rfl rfl rfl rfl rfl rfl .z rfl ?_
      refine St.p rfl rfl ?_
      refine St.store 15 rfl rfl rfl rfl rfl rfl .z rfl ?_
      refine St.done ?_
      refine St.thenN ?_
      refine St.prune (Γ' := [(1, _), (2, _)]) ⟨rfl, rfl, trivial⟩ (.k (.k (.k (.k .z)))) ?_
      refine St.seq ?_
      refine St.region ?_
      refine St.loadB 0 rfl rfl (.head _) rfl rfl ?_
      refine St.store 0 rfl rfl rfl rfl rfl rfl (.s (.s (.s .z))) rfl ?_
      refine St.done ?_
      refine St.thenN ?_
      refine St.prune (Γ' := [(2, _)]) ⟨rfl, trivial⟩ (.k (.d (.k (.k .z)))) ?_
      refine St.ret ?_
      repeat (first | refine St.thenR ?_ | refine St.blkR ?_)
      injection h with h
      subst h
      exact St.finR Try.results38 (.cell rfl (.head _) rfl .nil) rfl [.ro (SlL eu8 A3 c3 r2.Slots.e0.Image.Data), .ro (SlL eu8 A4 c4 r2.Slots.e1.Image.Data)] ⟨A3, c3, A4, c4, rfl, rfl⟩ (fun _ w => ((.k (.k (.d (.d (.d .z))))) : Keep _ _).sat (Sat.dup (G := [.ro (SlL eu8 A3 c3 r2.Slots.e0.Image.Data), .ro (SlL eu8 A4 c4 r2.Slots.e1.Image.Data)]) rfl ⟨(.tail _ (.head _)), (.tail _ (.tail _ (.head _))), trivial⟩ w))
    · replace h := bif_f hb2 h
      refine St.region ?_
      refine St.p rfl rfl ?_
      refine St.loadB 13 rfl rfl (.head _) rfl rfl ?_
      refine St.p rfl rfl ?_
      refine St.store 14 rfl rfl rfl rfl rfl rfl .z rfl ?_
      refine St.done ?_
      refine St.thenN ?_
      refine St.prune (Γ' := [(1, _), (2, _)]) ⟨rfl, rfl, trivial⟩ (.k (.k (.k (.k .z)))) ?_
      refine St.seq ?_
      refine St.region ?_
      refine St.loadB 0 rfl rfl (.head _) rfl rfl ?_
      refine St.store 0 rfl rfl rfl rfl rfl rfl (.s (.s (.s .z))) rfl ?_
      refine St.done ?_
      refine St.thenN ?_
      refine St.prune (Γ' := [(2, _)]) ⟨rfl, trivial⟩ (.k (.d (.k (.k .z)))) ?_
      refine St.ret ?_
      repeat (first | refine St.thenR ?_ | refine St.blkR ?_)
      injection h with h
      subst h
      exact St.finR Try.results38 (.cell rfl (.head _) rfl .nil) rfl [.ro (SlL eu8 A3 c3 r2.Slots.e0.Image.Data), .ro (SlL eu8 A4 c4 r2.Slots.e1.Image.Data)] ⟨A3, c3, A4, c4, rfl, rfl⟩ (fun _ w => ((.k (.k (.d (.d (.d .z))))) : Keep _ _).sat (Sat.dup (G := [.ro (SlL eu8 A3 c3 r2.Slots.e0.Image.Data), .ro (SlL eu8 A4 c4 r2.Slots.e1.Image.Data)]) rfl ⟨(.tail _ (.head _)), (.tail _ (.tail _ (.head _))), trivial⟩ w))

theorem ent37 : Ent Try.prog 37 := ⟨_, Try.func37, by kernel_rfl, by kernel_rfl⟩

noncomputable def m_ref29_Spoil (d_p0 : T_Device) (i_p1 : T_Image) (sum : Int) : Option T_Device :=
  bnd (m_ref29_settled d_p0) fun r1 => bif (r1 == 0) then (bnd (m_ref29_Copy d_p0) fun r2 => bnd (m_ref29_Image i_p1) fun r3 => bnd (elt [r2.Slots.e0, r2.Slots.e1] (IntKind.wrap .i64 (1 - r2.Running))) fun x1 => bnd (Arr2.set r2.Slots (IntKind.wrap .i64 (1 - r2.Running)) (⟨r3, sum⟩ : T_Slot)) fun z1 => bnd (m_ref29_Boot (⟨r2.Name, z1, r2.Active, r2.Running, r2.Trial⟩ : T_Device)) fun r4 => some r4) else (bnd (m_ref29_Boot d_p0) fun r5 => some r5)

theorem c_ref29_Spoil {d_p0 : T_Device} {i_p1 : T_Image} {sum : Int} {A1 : Option Addr} {c1 : Nat} {A2 : Option Addr} {c2 : Nat} {A3 : Option Addr} {c3 : Nat} {r : T_Device} (h : m_ref29_Spoil d_p0 i_p1 sum = some r) :
    Fun Try.prog 37 [.agg (bx_T_Device d_p0 A1 c1 A2 c2).toArray, .agg (bx_T_Image i_p1 A3 c3).toArray, .int .u32 sum] [.ro (SlL eu8 A1 c1 d_p0.Slots.e0.Image.Data), .ro (SlL eu8 A2 c2 d_p0.Slots.e1.Image.Data), .ro (SlL eu8 A3 c3 i_p1.Data)] (fun v_ F_ => ∃ (A1 : Option Addr) (c1 : Nat) (A2 : Option Addr) (c2 : Nat), v_ = .agg (bx_T_Device r A1 c1 A2 c2).toArray ∧ F_ = [.ro (SlL eu8 A1 c1 r.Slots.e0.Image.Data), .ro (SlL eu8 A2 c2 r.Slots.e1.Image.Data)]) := by
  unfold m_ref29_Spoil at h
  refine Fun.intro Try.func37 rfl rfl rfl fun w R => ?_
  refine St.seq ?_
  refine St.region ?_
  refine St.box rfl rfl fun g1 => ?_
  refine St.box rfl rfl fun g2 => ?_
  refine St.alloc rfl rfl fun g3 => ?_
  refine St.done ?_
  refine St.thenN ?_
  refine St.prune (Γ' := [(2, _), (3, _), (4, _), (6, _)]) ⟨rfl, rfl, rfl, rfl, trivial⟩ (.k (.k (.k (.k (.k (.k .z)))))) ?_
  refine St.seq ?_
  refine St.seq ?_
  refine St.region ?_
  refine St.loadB 0 rfl rfl (.tail _ (.tail _ (.head _))) rfl rfl ?_
  obtain ⟨r1, hr1, h⟩ := bnd_e h
  refine St.callV (c_ref29_settled hr1) ent61 rfl rfl rfl rfl ⟨(.tail _ (.tail _ (.tail _ (.head _)))), (.tail _ (.tail _ (.tail _ (.tail _ (.head _))))), trivial⟩ ?_
  refine St.p rfl rfl ?_
  refine St.done ?_
  refine St.thenN ?_
  refine St.prune (Γ' := [(2, _), (3, _), (4, _), (6, _), (9, _)]) ⟨rfl, rfl, rfl, rfl, rfl, trivial⟩ (.k (.k (.k (.k (.k (.k .z)))))) ?_
  refine St.cond _ rfl (fun hb1 => ?_) (fun hb1 => ?_)
  · replace h := bif_t hb1 h
    refine St.seq ?_
    refine St.region ?_
    refine St.loadB 0 rfl rfl (.tail _ (.tail _ (.head _))) rfl rfl ?_
    obtain ⟨r2, hr2, h⟩ := bnd_e h
    refine St.call (c_ref29_Copy hr2) ent52 rfl rfl rfl (fun _ w => Sat.dup (G := [.ro (SlL eu8 A1 c1 d_p0.Slots.e0.Image.Data), .ro (SlL eu8 A2 c2 d_p0.Slots.e1.Image.Data)]) rfl ⟨(.tail _ (.tail _ (.tail _ (.head _)))), (.tail _ (.tail _ (.tail _ (.tail _ (.head _))))), trivial⟩ w) ?_
    rintro _ _ ⟨A4, c4, A5, c5, rfl, rfl⟩
    refine St.asrt (F' := .ro (SlL eu8 A4 c4 r2.Slots.e0.Image.Data) :: .ro (SlL eu8 A5 c5 r2.Slots.e1.Image.Data) :: .res (Box g3 35 [.string (⟨#[]⟩), .string (⟨#[]⟩), .int .i64 0, .int .i64 0, .int .i64 0, .slice none 0 0, .int .u32 0, .string (⟨#[]⟩), .int .i64 0, .int .i64 0, .int .i64 0, .slice none 0 0, .int .u32 0, .int .i64 0, .int .i64 0, .bool false]) :: .res (Box g2 30 (bx_T_Image i_p1 A3 c3)) :: .res (Box g1 35 (bx_T_Device d_p0 A1 c1 A2 c2)) :: .ro (SlL eu8 A1 c1 d_p0.Slots.e0.Image.Data) :: .ro (SlL eu8 A2 c2 d_p0.Slots.e1.Image.Data) :: .ro (SlL eu8 A3 c3 i_p1.Data) :: R) (fun _ w => w) ?_
    refine St.store 0 rfl rfl rfl rfl rfl rfl (.s (.s (.s (.s .z)))) rfl ?_
    refine St.done ?_
    refine St.thenN ?_
    refine St.prune (Γ' := [(2, _), (3, _), (4, _), (6, _)]) ⟨rfl, rfl, rfl, rfl, trivial⟩ (.k (.k (.k (.k (.k (.d (.d (.k .z)))))))) ?_
    obtain ⟨r3, hr3, h⟩ := bnd_e h
    obtain ⟨x1, hx1, h⟩ := bnd_e h
    obtain ⟨z1, hz1, h⟩ := bnd_e h
    refine St.regionX (iL [(.fl, 0), (.fl, 3), (.fl, 5), (.fl, 7)] (.alt (iL [(.ef, 1), (.fl, 2)] (iL [(.ef, 4), (.fl, 6)] (iL [(.ef, 8)] (iL [(.ef, 9)] .nil)))) (iL [(.ef, 4), (.fl, 6)] (iL [(.ef, 1), (.fl, 2)] (iL [(.ef, 8)] (iL [(.ef, 9)] .nil)))))) (.ro (SlL eu8 A4 c4 r2.Slots.e0.Image.Data) :: .ro (SlL eu8 A5 c5 r2.Slots.e1.Image.Data) :: .res (Box g3 35 [.string (⟨#[]⟩), .string (⟨#[]⟩), .int .i64 0, .int .i64 0, .int .i64 0, .slice none 0 0, .int .u32 0, .string (⟨#[]⟩), .int .i64 0, .int .i64 0, .int .i64 0, .slice none 0 0, .int .u32 0, .int .i64 0, .int .i64 0, .bool false]) :: .res (Box g2 30 (bx_T_Image i_p1 A3 c3)) :: .ro (SlL eu8 A3 c3 i_p1.Data) :: R) mixed (by kernel_rfl) (fun _ w => ((.d (.k (.k (.k (.k (.k .z)))))) : Keep _ _).sat w) ?_
    refine St.share (Y := ?Ynd1_0) (fun (e : Option Addr × Nat) => [(2, .int .u32 sum), (3, .pointer (some ⟨g1, 0, none⟩)), (4, .pointer (some ⟨g2, 0, none⟩)), (6, .pointer (some ⟨g3, 0, none⟩)), (12, .pointer (some ⟨g1, 14, none⟩)), (13, .int .i64 r2.Running), (14, .int .i64 (IntKind.wrap .i64 (1 - r2.Running))), (15, .agg (bx_T_Image i_p1 A3 c3).toArray), (16, .agg (bx_T_Image r3 e.1 e.2).toArray), (17, .int .u32 sum), (18, .agg #[.string r3.Name, .int .i64 r3.Version.Major, .int .i64 r3.Version.Minor, .int .i64 r3.Version.Patch, .slice e.1 r3.Data.length e.2, .int .u32 sum]), (19, .pointer (some ⟨g1, 1, none⟩))]) (fun e => .ro (SlL eu8 e.1 e.2 r3.Data) :: .res (Box g1 35 (bx_T_Device r2 A4 c4 A5 c5)) :: .ro (SlL eu8 A4 c4 r2.Slots.e0.Image.Data) :: .ro (SlL eu8 A5 c5 r2.Slots.e1.Image.Data) :: .res (Box g3 35 [.string (⟨#[]⟩), .string (⟨#[]⟩), .int .i64 0, .int .i64 0, .int .i64 0, .slice none 0 0, .int .u32 0, .string (⟨#[]⟩), .int .i64 0, .int .i64 0, .int .i64 0, .slice none 0 0, .int .u32 0, .int .i64 0, .int .i64 0, .bool false]) :: .res (Box g2 30 (bx_T_Image i_p1 A3 c3)) :: .ro (SlL eu8 A3 c3 i_p1.Data) :: R) (fun hnd1_0 => ?mnd1_0) ?tnd1_0
    case mnd1_0 =>
      refine St.xfl (fun _ h => h) (Rd.p rfl) rfl ?_
      refine St.xfl (fun _ h => h) (Rd.loadB 0 rfl (.tail _ (.tail _ (.tail _ (.head _)))) rfl rfl) rfl ?_
      refine St.xfl (fun _ h => h) (Rd.p rfl) rfl ?_
      refine St.xfl (fun _ h => h) (Rd.p rfl) rfl ?_
      refine St.xalt ?_ ?_
      · refine St.xef ?_
        refine St.loadB 14 rfl rfl (.head _) rfl rfl ?_
        refine St.xk (fun _ w => ((.d (.k (.k (.k (.k (.k .z)))))) : Keep _ _).sat w) ?_
        refine St.xfl (fun _ h => h) (Rd.p rfl) rfl ?_
        refine St.xef ?_
        refine St.call (c_ref29_Image hr3) ent57 rfl rfl rfl (fun _ w => Sat.dup (G := [.ro (SlL eu8 A3 c3 i_p1.Data)]) rfl ⟨(.tail _ (.tail _ (.tail _ (.tail _ (.tail _ (.head _)))))), trivial⟩ w) ?_
        rintro _ _ ⟨A6, c6, rfl, rfl⟩
        refine St.asrt (F' := .ro (SlL eu8 A6 c6 r3.Data) :: .res (Box g1 35 (bx_T_Device r2 A4 c4 A5 c5)) :: .ro (SlL eu8 A4 c4 r2.Slots.e0.Image.Data) :: .ro (SlL eu8 A5 c5 r2.Slots.e1.Image.Data) :: .res (Box g3 35 [.string (⟨#[]⟩), .string (⟨#[]⟩), .int .i64 0, .int .i64 0, .int .i64 0, .slice none 0 0, .int .u32 0, .string (⟨#[]⟩), .int .i64 0, .int .i64 0, .int .i64 0, .slice none 0 0, .int .u32 0, .int .i64 0, .int .i64 0, .bool false]) :: .res (Box g2 30 (bx_T_Image i_p1 A3 c3)) :: .ro (SlL eu8 A3 c3 i_p1.Data) :: R) (fun _ w => w) ?_
        refine St.xk (fun _ w => ((.d (.d (.k (.k (.k (.k (.k .z))))))) : Keep _ _).sat w) ?_
        refine St.xfl (fun _ h => h) (Rd.p rfl) rfl ?_
        refine hnd1_0 _ _ (A6, c6) ?_ ?_
        · exact ⟨rfl, rfl, rfl, rfl, rfl, rfl, rfl, rfl, rfl, rfl, rfl, rfl, trivial⟩
        · exact fun _ w => ((.k (.k (.k (.k (.k (.k (.k .z))))))) : Keep _ _).sat w
      · refine St.xef ?_
        refine St.call (c_ref29_Image hr3) ent57 rfl rfl rfl (fun _ w => Sat.dup (G := [.ro (SlL eu8 A3 c3 i_p1.Data)]) rfl ⟨(.tail _ (.tail _ (.tail _ (.tail _ (.tail _ (.head _)))))), trivial⟩ w) ?_
        rintro _ _ ⟨A6, c6, rfl, rfl⟩
        refine St.asrt (F' := .ro (SlL eu8 A6 c6 r3.Data) :: .res (Box g1 35 (bx_T_Device r2 A4 c4 A5 c5)) :: .ro (SlL eu8 A4 c4 r2.Slots.e0.Image.Data) :: .ro (SlL eu8 A5 c5 r2.Slots.e1.Image.Data) :: .res (Box g3 35 [.string (⟨#[]⟩), .string (⟨#[]⟩), .int .i64 0, .int .i64 0, .int .i64 0, .slice none 0 0, .int .u32 0, .string (⟨#[]⟩), .int .i64 0, .int .i64 0, .int .i64 0, .slice none 0 0, .int .u32 0, .int .i64 0, .int .i64 0, .bool false]) :: .res (Box g2 30 (bx_T_Image i_p1 A3 c3)) :: .ro (SlL eu8 A3 c3 i_p1.Data) :: R) (fun _ w => w) ?_
        refine St.xk (fun _ w => ((.d (.d (.k (.k (.k (.k (.k .z))))))) : Keep _ _).sat w) ?_
        refine St.xfl (fun _ h => h) (Rd.p rfl) rfl ?_
        refine St.xef ?_
        refine St.loadB 14 rfl rfl (.tail _ (.head _)) rfl rfl ?_
        refine St.xk (fun _ w => ((.d (.d (.k (.k (.k (.k (.k .z))))))) : Keep _ _).sat w) ?_
        refine St.xfl (fun _ h => h) (Rd.p rfl) rfl ?_
        refine hnd1_0 _ _ (A6, c6) ?_ ?_
        · exact ⟨rfl, rfl, rfl, rfl, rfl, rfl, rfl, rfl, rfl, rfl, rfl, rfl, trivial⟩
        · exact fun _ w => ((.k (.k (.k (.k (.k (.k (.k .z))))))) : Keep _ _).sat w
    case tnd1_0 =>
      rintro ⟨A6, c6⟩
      refine St.asrt (F' := .ro (SlL eu8 A6 c6 r3.Data) :: .res (Box g1 35 (bx_T_Device r2 A4 c4 A5 c5)) :: .ro (SlL eu8 A4 c4 r2.Slots.e0.Image.Data) :: .ro (SlL eu8 A5 c5 r2.Slots.e1.Image.Data) :: .res (Box g3 35 [.string (⟨#[]⟩), .string (⟨#[]⟩), .int .i64 0, .int .i64 0, .int .i64 0, .slice none 0 0, .int .u32 0, .string (⟨#[]⟩), .int .i64 0, .int .i64 0, .int .i64 0, .slice none 0 0, .int .u32 0, .int .i64 0, .int .i64 0, .bool false]) :: .res (Box g2 30 (bx_T_Image i_p1 A3 c3)) :: .ro (SlL eu8 A3 c3 i_p1.Data) :: R) (fun _ w => w) ?_
      refine St.xef ?_
      refine St.ixP (sz := 6) hx1 rfl rfl rfl rfl rfl rfl rfl rfl ?_
      refine St.xk (fun _ w => ((.d (.d (.k (.k (.k (.k (.k .z))))))) : Keep _ _).sat w) ?_
      refine St.xef ?_
      refine St.stP (ls := l_T_Slot) 0 [.string r2.Name] [.int .i64 r2.Active, .int .i64 r2.Running, .bool r2.Trial] [(r2.Slots.e0, ((A4, c4), ())), (r2.Slots.e1, ((A5, c5), ()))] (fun ex => ((A6, c6), ())) hx1 (Arr2.set_e hz1) rfl rfl (.s .z) rfl rfl rfl ⟨(.tail _ (.head _)), (.tail _ (.tail _ (.head _))), trivial⟩ rfl rfl rfl rfl (fun _ => rfl) (fun _ => ⟨(.tail _ (.head _)), trivial⟩) fun ye1 hye1 => ?_
      obtain ⟨ex1, ex2, rfl⟩ := pairs2 hye1
      obtain ⟨⟨A7, c7⟩, _⟩ := ex1
      obtain ⟨⟨A8, c8⟩, _⟩ := ex2
      refine St.asrt (F' := .res (Box g1 35 [.string r2.Name, .string z1.e0.Image.Name, .int .i64 z1.e0.Image.Version.Major, .int .i64 z1.e0.Image.Version.Minor, .int .i64 z1.e0.Image.Version.Patch, .slice A7 z1.e0.Image.Data.length c7, .int .u32 z1.e0.Sum, .string z1.e1.Image.Name, .int .i64 z1.e1.Image.Version.Major, .int .i64 z1.e1.Image.Version.Minor, .int .i64 z1.e1.Image.Version.Patch, .slice A8 z1.e1.Image.Data.length c8, .int .u32 z1.e1.Sum, .int .i64 r2.Active, .int .i64 r2.Running, .bool r2.Trial]) :: .ro (SlL eu8 A7 c7 z1.e0.Image.Data) :: .ro (SlL eu8 A8 c8 z1.e1.Image.Data) :: .ro (SlL eu8 A6 c6 r3.Data) :: .ro (SlL eu8 A4 c4 r2.Slots.e0.Image.Data) :: .ro (SlL eu8 A5 c5 r2.Slots.e1.Image.Data) :: .res (Box g3 35 [.string (⟨#[]⟩), .string (⟨#[]⟩), .int .i64 0, .int .i64 0, .int .i64 0, .slice none 0 0, .int .u32 0, .string (⟨#[]⟩), .int .i64 0, .int .i64 0, .int .i64 0, .slice none 0 0, .int .u32 0, .int .i64 0, .int .i64 0, .bool false]) :: .res (Box g2 30 (bx_T_Image i_p1 A3 c3)) :: .ro (SlL eu8 A3 c3 i_p1.Data) :: R) (fun _ w => w) ?_
      refine St.xk (fun _ w => ((.d (.d (.d (.d (.k (.k (.k (.k (.k .z))))))))) : Keep _ _).sat w) ?_
      refine St.xdone ?_
      refine St.thenN ?_
      refine St.prune (Γ' := [(3, _), (6, _)]) ⟨rfl, rfl, trivial⟩ (.k (.k (.k (.d (.d (.d (.k (.d (.d .z))))))))) ?_
      refine St.seq ?_
      refine St.region ?_
      refine St.loadB 0 rfl rfl (.head _) rfl rfl ?_
      obtain ⟨r4, hr4, h⟩ := bnd_e h
      refine St.call (c_ref29_Boot hr4) ent38 rfl rfl rfl (fun _ w => Sat.dup (G := [.ro (SlL eu8 A7 c7 z1.e0.Image.Data), .ro (SlL eu8 A8 c8 z1.e1.Image.Data)]) rfl ⟨(.tail _ (.head _)), (.tail _ (.tail _ (.head _))), trivial⟩ w) ?_
      rintro _ _ ⟨A9, c9, A10, c10, rfl, rfl⟩
      refine St.asrt (F' := .ro (SlL eu8 A9 c9 r4.Slots.e0.Image.Data) :: .ro (SlL eu8 A10 c10 r4.Slots.e1.Image.Data) :: .res (Box g1 35 [.string r2.Name, .string z1.e0.Image.Name, .int .i64 z1.e0.Image.Version.Major, .int .i64 z1.e0.Image.Version.Minor, .int .i64 z1.e0.Image.Version.Patch, .slice A7 z1.e0.Image.Data.length c7, .int .u32 z1.e0.Sum, .string z1.e1.Image.Name, .int .i64 z1.e1.Image.Version.Major, .int .i64 z1.e1.Image.Version.Minor, .int .i64 z1.e1.Image.Version.Patch, .slice A8 z1.e1.Image.Data.length c8, .int .u32 z1.e1.Sum, .int .i64 r2.Active, .int .i64 r2.Running, .bool r2.Trial]) :: .ro (SlL eu8 A7 c7 z1.e0.Image.Data) :: .ro (SlL eu8 A8 c8 z1.e1.Image.Data) :: .res (Box g3 35 [.string (⟨#[]⟩), .string (⟨#[]⟩), .int .i64 0, .int .i64 0, .int .i64 0, .slice none 0 0, .int .u32 0, .string (⟨#[]⟩), .int .i64 0, .int .i64 0, .int .i64 0, .slice none 0 0, .int .u32 0, .int .i64 0, .int .i64 0, .bool false]) :: R) (fun _ w => w) ?_
      refine St.store 0 rfl rfl rfl rfl rfl rfl (.s (.s (.s (.s (.s .z))))) rfl ?_
      refine St.done ?_
      refine St.thenN ?_
      refine St.prune (Γ' := [(6, _)]) ⟨rfl, trivial⟩ (.k (.k (.k (.d (.d (.d .z)))))) ?_
      refine St.ret ?_
      repeat (first | refine St.thenR ?_ | refine St.blkR ?_)
      injection h with h
      subst h
      exact St.finR Try.results37 (.cell rfl (.head _) rfl .nil) rfl [.ro (SlL eu8 A9 c9 r4.Slots.e0.Image.Data), .ro (SlL eu8 A10 c10 r4.Slots.e1.Image.Data)] ⟨A9, c9, A10, c10, rfl, rfl⟩ (fun _ w => ((.k (.k (.d (.d (.d .z))))) : Keep _ _).sat (Sat.dup (G := [.ro (SlL eu8 A9 c9 r4.Slots.e0.Image.Data), .ro (SlL eu8 A10 c10 r4.Slots.e1.Image.Data)]) rfl ⟨(.tail _ (.head _)), (.tail _ (.tail _ (.head _))), trivial⟩ w))
  · replace h := bif_f hb1 h
    refine St.skip ?_
    refine St.thenN ?_
    refine St.prune (Γ' := [(3, _), (6, _)]) ⟨rfl, rfl, trivial⟩ (.k (.d (.k (.k (.k (.d .z)))))) ?_
    refine St.seq ?_
    refine St.region ?_
    refine St.loadB 0 rfl rfl (.tail _ (.head _)) rfl rfl ?_
    obtain ⟨r5, hr5, h⟩ := bnd_e h
    refine St.call (c_ref29_Boot hr5) ent38 rfl rfl rfl (fun _ w => Sat.dup (G := [.ro (SlL eu8 A1 c1 d_p0.Slots.e0.Image.Data), .ro (SlL eu8 A2 c2 d_p0.Slots.e1.Image.Data)]) rfl ⟨(.tail _ (.tail _ (.head _))), (.tail _ (.tail _ (.tail _ (.head _)))), trivial⟩ w) ?_
    rintro _ _ ⟨A11, c11, A12, c12, rfl, rfl⟩
    refine St.asrt (F' := .ro (SlL eu8 A11 c11 r5.Slots.e0.Image.Data) :: .ro (SlL eu8 A12 c12 r5.Slots.e1.Image.Data) :: .res (Box g3 35 [.string (⟨#[]⟩), .string (⟨#[]⟩), .int .i64 0, .int .i64 0, .int .i64 0, .slice none 0 0, .int .u32 0, .string (⟨#[]⟩), .int .i64 0, .int .i64 0, .int .i64 0, .slice none 0 0, .int .u32 0, .int .i64 0, .int .i64 0, .bool false]) :: .res (Box g1 35 (bx_T_Device d_p0 A1 c1 A2 c2)) :: .ro (SlL eu8 A1 c1 d_p0.Slots.e0.Image.Data) :: .ro (SlL eu8 A2 c2 d_p0.Slots.e1.Image.Data) :: R) (fun _ w => w) ?_
    refine St.store 0 rfl rfl rfl rfl rfl rfl (.s (.s .z)) rfl ?_
    refine St.done ?_
    refine St.thenN ?_
    refine St.prune (Γ' := [(6, _)]) ⟨rfl, trivial⟩ (.k (.k (.k (.d (.d (.d .z)))))) ?_
    refine St.ret ?_
    repeat (first | refine St.thenR ?_ | refine St.blkR ?_)
    injection h with h
    subst h
    exact St.finR Try.results37 (.cell rfl (.head _) rfl .nil) rfl [.ro (SlL eu8 A11 c11 r5.Slots.e0.Image.Data), .ro (SlL eu8 A12 c12 r5.Slots.e1.Image.Data)] ⟨A11, c11, A12, c12, rfl, rfl⟩ (fun _ w => ((.k (.k (.d (.d (.d .z))))) : Keep _ _).sat (Sat.dup (G := [.ro (SlL eu8 A11 c11 r5.Slots.e0.Image.Data), .ro (SlL eu8 A12 c12 r5.Slots.e1.Image.Data)]) rfl ⟨(.tail _ (.head _)), (.tail _ (.tail _ (.head _))), trivial⟩ w))

theorem ent50 : Ent Try.prog 50 := ⟨_, Try.func50, by kernel_rfl, by kernel_rfl⟩

noncomputable def m_field_Codes_Change (c_p0 : T_Codes) (d_p1 : T_Device) : Option (T_Codes × T_Device × Int) :=
  bnd (m_field_Codes_plain c_p0) fun r1 => bnd (m_field_Codes_Next r1.1 4) fun r2 => bnd (m_field_Codes_Bytes r2.1 3) fun r3 => bnd (app 1 ([IntKind.wrap .u8 r2.2]) r3.2) fun l1 => bnd (m_field_Codes_Next r3.1 8) fun r4 => bif (r4.2 == 0) then (bnd (m_ref29_Erase d_p1) fun r5 => some (r4.1, r5.1, r5.2)) else (bif (r4.2 == 1) then (bnd (m_field_Codes_Next r4.1 (IntKind.wrap .i64 ((l1.length : Int) + 1))) fun r6 => bnd (m_ref29_Write d_p1 (⟨d_p1.Name, r1.2, l1⟩ : T_Image) r6.2) fun r7 => some (r6.1, r7.1, r7.2)) else (bnd ((bif (r4.2 == 2) then (some (r4.2 == 2)) else (some (r4.2 == 3)) : Option Bool)) fun o1 => bif o1 then (bnd (m_ref29_Write d_p1 (⟨d_p1.Name, r1.2, l1⟩ : T_Image) (l1.length : Int)) fun r8 => bif (r8.2 != 0) then (some (r4.1, r8.1, r8.2)) else (bnd (m_field_sum (⟨d_p1.Name, r1.2, l1⟩ : T_Image)) fun r9 => bnd (m_ref29_Finish r8.1 r9) fun r10 => some (r4.1, r10.1, r10.2))) else (bif (r4.2 == 4) then (bnd (m_ref29_Switch d_p1) fun r11 => some (r4.1, r11.1, r11.2)) else (bif (r4.2 == 5) then (bnd (m_ref29_Confirm d_p1) fun r12 => some (r4.1, r12.1, r12.2)) else (bif (r4.2 == 6) then (bnd (m_field_Codes_Image r4.1 d_p1.Name) fun r13 => bnd (m_field_Codes_Next r13.1 300) fun r14 => bnd (m_ref29_Spoil d_p1 r13.2 (IntKind.wrap .u32 r14.2)) fun r15 => some (r14.1, r15, 0)) else (bnd (m_ref29_Boot d_p1) fun r16 => some (r4.1, r16, 0)))))))

end Go.Proofs.Ytcjhemblnemhfaa
