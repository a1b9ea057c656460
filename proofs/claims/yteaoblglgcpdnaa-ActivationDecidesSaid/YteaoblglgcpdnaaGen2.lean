/-
  Models of functions of the program, and that the functions compute them.
  Conditions: none.
-/
import Derived.Test.YteaoblglgcpdnaaGen1
namespace Go.Proofs.Yteaoblglgcpdnaa
open Go
set_option linter.unusedVariables false
set_option maxRecDepth 4000

set_option maxHeartbeats 4000000 in
theorem c_activation_Stuck {p_p0 : T_Plan} {sets : (List Int)} {A1 : Option Addr} {c1 : Nat} {A2 : Option Addr} {c2 : Nat} {A3 : Option Addr} {c3 : Nat} {A4 : Option Addr} {c4 : Nat} {r : Bool} (h : m_activation_Stuck p_p0 sets = some r) :
    Fun Try.prog 12 [.agg #[.slice A1 p_p0.Now.length c1, .slice A2 p_p0.Next.length c2, .slice A3 p_p0.Needs.length c3], .slice A4 sets.length c4] [.ro (SlL e_Installed A1 c1 p_p0.Now), .ro (SlL e_Installed A2 c2 p_p0.Next), .ro (SlL e_Need A3 c3 p_p0.Needs), .ro (SlL ei64 A4 c4 sets)] (Val (.bool r)) := by
  unfold m_activation_Stuck at h
  refine Fun.intro Try.func12 rfl rfl rfl fun w R => ?_
  refine St.seq ?_
  refine St.region ?_
  refine St.box rfl rfl fun g1 => ?_
  refine St.p rfl rfl ?_
  refine St.done ?_
  refine St.thenN ?_
  refine St.prune (Γ' := [(1, _), (2, _)]) ⟨rfl, rfl, trivial⟩ (.k (.k (.k (.k (.k .z))))) ?_
  refine St.seq ?_
  refine St.seq ?_
  obtain ⟨o1, hj1, h⟩ := bnd_e h
  refine St.cutE (fun (e1 : Unit) => [(1, .slice A4 sets.length c4), (2, .pointer (some ⟨g1, 0, none⟩)), (26, .bool o1)]) (fun e1 => .res (Box g1 29 [.slice A1 p_p0.Now.length c1, .slice A2 p_p0.Next.length c2, .slice A3 p_p0.Needs.length c3]) :: .ro (SlL e_Installed A1 c1 p_p0.Now) :: .ro (SlL e_Installed A2 c2 p_p0.Next) :: .ro (SlL e_Need A3 c3 p_p0.Needs) :: .ro (SlL ei64 A4 c4 sets) :: R) ?_ ?_
  · refine St.region ?_
    refine St.loadB 0 rfl rfl (.head _) rfl rfl ?_
    obtain ⟨r1, hr1, hj1⟩ := bnd_e hj1
    refine St.callV (c_activation_Valid hr1) ent20 rfl rfl rfl rfl ⟨(.tail _ (.head _)), (.tail _ (.tail _ (.head _))), (.tail _ (.tail _ (.tail _ (.head _)))), trivial⟩ ?_
    refine St.p rfl rfl ?_
    refine St.p rfl rfl ?_
    refine St.gSplit (dj := 16) _ rfl (fun hb1 => ?_) (fun hb1 => ?_)
    · replace hj1 := bif_t hb1 hj1
      refine St.gOff (dj := 16) rfl rfl rfl rfl ?_
      refine St.gOff (dj := 16) rfl rfl rfl rfl ?_
      refine St.gOff (dj := 16) rfl rfl rfl rfl ?_
      refine St.p rfl rfl ?_
      refine St.p rfl rfl ?_
      refine St.gOff (dj := 21) rfl rfl rfl rfl ?_
      refine St.gOff (dj := 21) rfl rfl rfl rfl ?_
      refine St.gOff (dj := 21) rfl rfl rfl rfl ?_
      refine St.gOff (dj := 21) rfl rfl rfl rfl ?_
      refine St.p rfl rfl ?_
      refine St.done ?_
      injection hj1 with hj1
      subst hj1
      refine St.thenN ?_
      exact St.hereE () ⟨rfl, rfl, rfl, trivial⟩ (fun _ w => ((.k (.k (.k (.k (.k .z))))) : Keep _ _).sat w)
    · replace hj1 := bif_f hb1 hj1
      refine St.gOn (dj := 16) rfl rfl ?_
      refine St.p rfl rfl ?_
      refine St.gOn (dj := 16) rfl rfl ?_
      refine St.p rfl rfl ?_
      refine St.gOn (dj := 16) rfl rfl ?_
      iterate 3 refine St.p rfl rfl ?_
      refine St.gSplit (dj := 21) _ rfl (fun hb2 => ?_) (fun hb2 => ?_)
      · replace hj1 := bif_t hb2 hj1
        refine St.gOff (dj := 21) rfl rfl rfl rfl ?_
        refine St.gOff (dj := 21) rfl rfl rfl rfl ?_
        refine St.gOff (dj := 21) rfl rfl rfl rfl ?_
        refine St.gOff (dj := 21) rfl rfl rfl rfl ?_
        refine St.p rfl rfl ?_
        refine St.done ?_
        injection hj1 with hj1
        subst hj1
        refine St.thenN ?_
        exact St.hereE () ⟨rfl, rfl, rfl, trivial⟩ (fun _ w => ((.k (.k (.k (.k (.k .z))))) : Keep _ _).sat w)
      · replace hj1 := bif_f hb2 hj1
        refine St.gOn (dj := 21) rfl rfl ?_
        refine St.p rfl rfl ?_
        refine St.gOn (dj := 21) rfl rfl ?_
        obtain ⟨x1, hx1, hj1⟩ := bnd_e hj1
        refine St.ixL hx1 rfl rfl rfl (.tail _ (.tail _ (.tail _ (.tail _ (.head _))))) rfl rfl rfl rfl rfl fun b1 ob1 => ?_
        refine St.gOn (dj := 21) rfl rfl ?_
        refine St.load ob1 0 rfl rfl (.head _) rfl rfl ?_
        refine St.gOn (dj := 21) rfl rfl ?_
        refine St.p rfl rfl ?_
        refine St.p rfl rfl ?_
        refine St.done ?_
        injection hj1 with hj1
        subst hj1
        refine St.thenN ?_
        exact St.hereE () ⟨rfl, rfl, rfl, trivial⟩ (fun _ w => ((.d (.k (.k (.k (.k (.k .z)))))) : Keep _ _).sat w)
  · rintro e1
    refine St.cond _ rfl (fun hb3 => ?_) (fun hb3 => ?_)
    · replace h := bif_t hb3 h
      refine St.seq ?_
      refine St.region ?_
      refine St.p rfl rfl ?_
      refine St.done ?_
      refine St.thenN ?_
      refine St.prune (Γ' := [(4, _)]) ⟨rfl, trivial⟩ (.d (.d (.d (.d (.d .z))))) ?_
      refine St.ret ?_
      repeat (first | refine St.thenR ?_ | refine St.blkR ?_)
      injection h with h
      subst h
      exact St.finR Try.results12 (.tmp rfl .nil) rfl [] ⟨rfl, rfl⟩ (fun _ w => (.z : Keep _ _).sat w)
    · replace h := bif_f hb3 h
      refine St.skip ?_
      refine St.thenN ?_
      refine St.prune (Γ' := [(1, _), (2, _)]) ⟨rfl, rfl, trivial⟩ (.k (.k (.k (.k (.k .z))))) ?_
      refine St.seq ?_
      refine St.region ?_
      refine St.loadB 0 rfl rfl (.head _) rfl rfl ?_
      obtain ⟨r2, hr2, h⟩ := bnd_e h
      refine St.callV (c_activation_all hr2) ent34 rfl rfl rfl rfl ⟨(.tail _ (.head _)), (.tail _ (.tail _ (.head _))), (.tail _ (.tail _ (.tail _ (.head _)))), trivial⟩ ?_
      refine St.p rfl rfl ?_
      refine St.done ?_
      refine St.thenN ?_
      refine St.prune (Γ' := [(1, _), (2, _), (5, _)]) ⟨rfl, rfl, rfl, trivial⟩ (.k (.k (.k (.k (.k .z))))) ?_
      refine St.seq ?_
      refine St.region ?_
      refine St.makeMap (K := (kint .i64)) (vv := (fun x => .bool x)) rfl fun g2 => ?_
      refine St.p rfl rfl ?_
      refine St.done ?_
      refine St.thenN ?_
      refine St.prune (Γ' := [(1, _), (2, _), (5, _), (6, _)]) ⟨rfl, rfl, rfl, rfl, trivial⟩ (.k (.k (.k (.k (.k (.k .z)))))) ?_
      refine St.seq ?_
      refine St.seq ?_
      refine St.region ?_
      iterate 3 refine St.p rfl rfl ?_
      refine St.done ?_
      refine St.thenN ?_
      obtain ⟨o2, hl1, h⟩ := bnd_e h
      refine St.cutI (fun (o3 : (List (Int × Bool))) (e3 : Unit) => [(1, .slice A4 sets.length c4), (2, .pointer (some ⟨g1, 0, none⟩)), (5, .int .i64 r2), (6, .map (some g2))]) (fun o3 e3 => .res (MapB (kint .i64) (fun x => .bool x) g2 o3) :: .res (Box g1 29 [.slice A1 p_p0.Now.length c1, .slice A2 p_p0.Next.length c2, .slice A3 p_p0.Needs.length c3]) :: .ro (SlL e_Installed A1 c1 p_p0.Now) :: .ro (SlL e_Installed A2 c2 p_p0.Next) :: .ro (SlL e_Need A3 c3 p_p0.Needs) :: .ro (SlL ei64 A4 c4 sets) :: R) (fun o3 => o2 = .inr o3) ?_ ?_
      · refine St.block ?_
        refine St.loop hl1 (fun (s1 : Int × (List (Int × Bool))) (e2 : Unit) => [(1, .slice A4 sets.length c4), (2, .pointer (some ⟨g1, 0, none⟩)), (5, .int .i64 r2), (6, .map (some g2)), (30, .slice A4 sets.length c4), (31, .int .i64 (sets.length : Int)), (32, .int .i64 s1.1)]) (fun s1 e2 => .res (MapB (kint .i64) (fun x => .bool x) g2 s1.2) :: .res (Box g1 29 [.slice A1 p_p0.Now.length c1, .slice A2 p_p0.Next.length c2, .slice A3 p_p0.Needs.length c3]) :: .ro (SlL e_Installed A1 c1 p_p0.Now) :: .ro (SlL e_Installed A2 c2 p_p0.Next) :: .ro (SlL e_Need A3 c3 p_p0.Needs) :: .ro (SlL ei64 A4 c4 sets) :: R) (fun _ _ => True) () trivial ⟨rfl, rfl, rfl, rfl, rfl, rfl, rfl, trivial⟩ (fun _ w => ((.k (.k (.k (.k (.k (.k .z)))))) : Keep _ _).sat w) ?_
        rintro s1 e2 - hit1
        obtain ⟨st1, hm1, hd1⟩ := iter_e hit1
        have h1 := hm1
        refine St.seq ?_
        refine St.region ?_
        refine St.p rfl rfl ?_
        refine St.done ?_
        refine St.thenN ?_
        refine St.seq ?_
        refine St.cond _ rfl (fun hb4 => ?_) (fun hb4 => ?_)
        · replace h1 := bif_t hb4 h1
          refine St.skip ?_
          refine St.thenN ?_
          refine St.prune (Γ' := [(1, _), (2, _), (5, _), (6, _), (30, _), (31, _), (32, _)]) ⟨rfl, rfl, rfl, rfl, rfl, rfl, rfl, trivial⟩ (.k (.k (.k (.k (.k (.k .z)))))) ?_
          refine St.seq ?_
          refine St.block ?_
          refine St.seq ?_
          refine St.region ?_
          refine St.p rfl rfl ?_
          obtain ⟨x2, hx2, h1⟩ := bnd_e h1
          refine St.ixL hx2 rfl rfl rfl (.tail _ (.tail _ (.tail _ (.tail _ (.tail _ (.head _)))))) rfl rfl rfl rfl rfl fun b2 ob2 => ?_
          refine St.load ob2 0 rfl rfl (.head _) rfl rfl ?_
          refine St.p rfl rfl ?_
          refine St.p rfl rfl ?_
          refine St.done ?_
          refine St.thenN ?_
          refine St.prune (Γ' := [(1, _), (2, _), (5, _), (6, _), (7, _), (8, _), (30, _), (31, _), (32, _)]) ⟨rfl, rfl, rfl, rfl, rfl, rfl, rfl, rfl, rfl, trivial⟩ (.d (.k (.k (.k (.k (.k (.k .z))))))) ?_
          refine St.seq ?_
          refine St.seq ?_
          obtain ⟨o4, hj2, h1⟩ := bnd_e h1
          refine St.cutE (fun (e4 : Unit) => [(1, .slice A4 sets.length c4), (2, .pointer (some ⟨g1, 0, none⟩)), (5, .int .i64 r2), (6, .map (some g2)), (8, .int .i64 x2), (30, .slice A4 sets.length c4), (31, .int .i64 (sets.length : Int)), (32, .int .i64 s1.1), (57, .bool o4)]) (fun e4 => .res (MapB (kint .i64) (fun x => .bool x) g2 s1.2) :: .res (Box g1 29 [.slice A1 p_p0.Now.length c1, .slice A2 p_p0.Next.length c2, .slice A3 p_p0.Needs.length c3]) :: .ro (SlL e_Installed A1 c1 p_p0.Now) :: .ro (SlL e_Installed A2 c2 p_p0.Next) :: .ro (SlL e_Need A3 c3 p_p0.Needs) :: .ro (SlL ei64 A4 c4 sets) :: R) ?_ ?_
          · refine St.region ?_
            iterate 3 refine St.p rfl rfl ?_
            refine St.gSplit (dj := 39) _ rfl (fun hb5 => ?_) (fun hb5 => ?_)
            · replace hj2 := bif_t hb5 hj2
              refine St.gOff (dj := 39) rfl rfl rfl rfl ?_
              refine St.gOff (dj := 39) rfl rfl rfl rfl ?_
              refine St.gOff (dj := 39) rfl rfl rfl rfl ?_
              refine St.gOff (dj := 39) rfl rfl rfl rfl ?_
              refine St.p rfl rfl ?_
              refine St.p rfl rfl ?_
              refine St.gOff (dj := 45) rfl rfl rfl rfl ?_
              refine St.gOff (dj := 45) rfl rfl rfl rfl ?_
              refine St.gOff (dj := 45) rfl rfl rfl rfl ?_
              refine St.gOff (dj := 48) rfl rfl rfl rfl ?_
              refine St.gOff (dj := 48) rfl rfl rfl rfl ?_
              refine St.gOff (dj := 48) rfl rfl rfl rfl ?_
              refine St.gOff (dj := 48) rfl rfl rfl rfl ?_
              refine St.gOff (dj := 48) rfl rfl rfl rfl ?_
              refine St.gOff (dj := 48) rfl rfl rfl rfl ?_
              refine St.gOff (dj := 48) rfl rfl rfl rfl ?_
              refine St.gOff (dj := 45) rfl rfl rfl rfl ?_
              refine St.p rfl rfl ?_
              refine St.done ?_
              injection hj2 with hj2
              subst hj2
              refine St.thenN ?_
              exact St.hereE () ⟨rfl, rfl, rfl, rfl, rfl, rfl, rfl, rfl, rfl, trivial⟩ (fun _ w => ((.k (.k (.k (.k (.k (.k .z)))))) : Keep _ _).sat w)
            · replace hj2 := bif_f hb5 hj2
              refine St.gOn (dj := 39) rfl rfl ?_
              refine St.p rfl rfl ?_
              refine St.gOn (dj := 39) rfl rfl ?_
              refine St.p rfl rfl ?_
              refine St.gOn (dj := 39) rfl rfl ?_
              refine St.p rfl rfl ?_
              refine St.gOn (dj := 39) rfl rfl ?_
              iterate 3 refine St.p rfl rfl ?_
              refine St.gSplit (dj := 45) _ rfl (fun hb6 => ?_) (fun hb6 => ?_)
              · replace hj2 := bif_t hb6 hj2
                refine St.gOff (dj := 45) rfl rfl rfl rfl ?_
                refine St.gOff (dj := 45) rfl rfl rfl rfl ?_
                refine St.gOff (dj := 45) rfl rfl rfl rfl ?_
                refine St.gOff (dj := 48) rfl rfl rfl rfl ?_
                refine St.gOff (dj := 48) rfl rfl rfl rfl ?_
                refine St.gOff (dj := 48) rfl rfl rfl rfl ?_
                refine St.gOff (dj := 48) rfl rfl rfl rfl ?_
                refine St.gOff (dj := 48) rfl rfl rfl rfl ?_
                refine St.gOff (dj := 48) rfl rfl rfl rfl ?_
                refine St.gOff (dj := 48) rfl rfl rfl rfl ?_
                refine St.gOff (dj := 45) rfl rfl rfl rfl ?_
                refine St.p rfl rfl ?_
                refine St.done ?_
                injection hj2 with hj2
                subst hj2
                refine St.thenN ?_
                exact St.hereE () ⟨rfl, rfl, rfl, rfl, rfl, rfl, rfl, rfl, rfl, trivial⟩ (fun _ w => ((.k (.k (.k (.k (.k (.k .z)))))) : Keep _ _).sat w)
              · replace hj2 := bif_f hb6 hj2
                refine St.gOn (dj := 45) rfl rfl ?_
                refine St.p rfl rfl ?_
                refine St.gOn (dj := 45) rfl rfl ?_
                refine St.p rfl rfl ?_
                refine St.gOn (dj := 45) rfl rfl ?_
                refine St.p rfl rfl ?_
                refine St.gSplit (dj := 48) _ rfl (fun hb7 => ?_) (fun hb7 => ?_)
                · replace hj2 := bif_t hb7 hj2
                  refine St.gOn (dj := 48) rfl rfl ?_
                  refine St.p rfl rfl ?_
                  refine St.gOn (dj := 48) rfl rfl ?_
                  refine St.p rfl rfl ?_
                  refine St.gOn (dj := 48) rfl rfl ?_
                  refine St.p rfl rfl ?_
                  refine St.gOn (dj := 48) rfl rfl ?_
                  refine St.p rfl rfl ?_
                  refine St.gOn (dj := 48) rfl rfl ?_
                  obtain ⟨x3, hx3, hj2⟩ := bnd_e hj2
                  refine St.ixL hx3 rfl rfl rfl (.tail _ (.tail _ (.tail _ (.tail _ (.tail _ (.head _)))))) rfl rfl rfl rfl rfl fun b3 ob3 => ?_
                  refine St.gOn (dj := 48) rfl rfl ?_
                  refine St.load ob3 0 rfl rfl (.head _) rfl rfl ?_
                  refine St.gOn (dj := 48) rfl rfl ?_
                  refine St.p rfl rfl ?_
                  refine St.gOn (dj := 45) rfl rfl ?_
                  refine St.p rfl rfl ?_
                  refine St.p rfl rfl ?_
                  refine St.done ?_
                  injection hj2 with hj2
                  subst hj2
                  refine St.thenN ?_
                  exact St.hereE () ⟨rfl, rfl, rfl, rfl, rfl, rfl, rfl, rfl, rfl, trivial⟩ (fun _ w => ((.d (.k (.k (.k (.k (.k (.k .z))))))) : Keep _ _).sat w)
                · replace hj2 := bif_f hb7 hj2
                  refine St.gOff (dj := 48) rfl rfl rfl rfl ?_
                  refine St.gOff (dj := 48) rfl rfl rfl rfl ?_
                  refine St.gOff (dj := 48) rfl rfl rfl rfl ?_
                  refine St.gOff (dj := 48) rfl rfl rfl rfl ?_
                  refine St.gOff (dj := 48) rfl rfl rfl rfl ?_
                  refine St.gOff (dj := 48) rfl rfl rfl rfl ?_
                  refine St.gOff (dj := 48) rfl rfl rfl rfl ?_
                  refine St.gOn (dj := 45) rfl rfl ?_
                  refine St.p rfl rfl ?_
                  refine St.p rfl rfl ?_
                  refine St.done ?_
                  injection hj2 with hj2
                  subst hj2
                  refine St.thenN ?_
                  exact St.hereE () ⟨rfl, rfl, rfl, rfl, rfl, rfl, rfl, rfl, rfl, trivial⟩ (fun _ w => ((.k (.k (.k (.k (.k (.k .z)))))) : Keep _ _).sat w)
          · rintro e4
            refine St.cond _ rfl (fun hb8 => ?_) (fun hb8 => ?_)
            · replace h1 := bif_t hb8 h1
              refine St.seq ?_
              refine St.region ?_
              refine St.p rfl rfl ?_
              refine St.done ?_
              refine St.thenN ?_
              refine St.prune (Γ' := [(4, _)]) ⟨rfl, trivial⟩ (.d (.d (.d (.d (.d (.d .z)))))) ?_
              refine St.ret ?_
              repeat (first | refine St.thenR ?_ | refine St.blkR ?_)
              injection h1 with h1
              subst h1
              have ho := hd1 _ rfl
              subst ho
              have h : some _ = some _ := h
              injection h with h
              subst h
              exact St.finR Try.results12 (.tmp rfl .nil) rfl [] ⟨rfl, rfl⟩ (fun _ w => (.z : Keep _ _).sat w)
            · replace h1 := bif_f hb8 h1
              refine St.skip ?_
              refine St.thenN ?_
              refine St.prune (Γ' := [(1, _), (2, _), (5, _), (6, _), (8, _), (30, _), (31, _), (32, _)]) ⟨rfl, rfl, rfl, rfl, rfl, rfl, rfl, rfl, trivial⟩ (.k (.k (.k (.k (.k (.k .z)))))) ?_
              refine St.region ?_
              refine St.p rfl rfl ?_
              refine St.p rfl rfl ?_
              refine St.mapUpdate (K := (kint .i64)) (vv := (fun x => .bool x)) x2 true rfl rfl rfl .z rfl rfl rfl rfl ?_
              refine St.done ?_
              refine St.blkN ?_
              refine St.thenN ?_
              refine St.prune (Γ' := [(1, _), (2, _), (5, _), (6, _), (30, _), (31, _), (32, _)]) ⟨rfl, rfl, rfl, rfl, rfl, rfl, rfl, trivial⟩ (.k (.k (.k (.k (.k (.k .z)))))) ?_
              refine St.region ?_
              refine St.p rfl rfl ?_
              refine St.p rfl rfl ?_
              refine St.done ?_
              injection h1 with h1
              subst h1
              refine St.thenN ?_
              exact St.again _ () hm1 trivial ⟨rfl, rfl, rfl, rfl, rfl, rfl, rfl, trivial⟩ (fun _ w => ((.k (.k (.k (.k (.k (.k .z)))))) : Keep _ _).sat w)
        · replace h1 := bif_f hb4 h1
          refine St.exit ?_
          repeat (first | refine St.thenX ?_ | refine St.blkMiss rfl ?_)
          refine St.blkHit ?_
          injection h1 with h1
          subst h1
          have ho := hd1 _ rfl
          subst ho
          refine St.thenN ?_
          exact St.hereI s1.2 () rfl ⟨rfl, rfl, rfl, rfl, trivial⟩ (fun _ w => ((.k (.k (.k (.k (.k (.k .z)))))) : Keep _ _).sat w)
      · rintro o3 e3 ho
        subst ho
        have h : _ = some _ := h
        refine St.seq ?_
        refine St.seq ?_
        refine St.region ?_
        refine St.p rfl rfl ?_
        refine St.p rfl rfl ?_
        refine St.lookup (K := (kint .i64)) (vv := (fun x => .bool x)) (u := .bool ((mget (kint .i64).eq o3 r2).getD false)) false r2 rfl rfl rfl (.head _) rfl rfl rfl rfl rfl rfl rfl ?_
        refine St.done ?_
        refine St.thenN ?_
        refine St.prune (Γ' := [(1, _), (2, _), (5, _), (6, _), (63, _)]) ⟨rfl, rfl, rfl, rfl, rfl, trivial⟩ (.k (.k (.k (.k (.k (.k .z)))))) ?_
        refine St.cond _ rfl (fun hb9 => ?_) (fun hb9 => ?_)
        · replace h := bif_t hb9 h
          refine St.seq ?_
          refine St.region ?_
          refine St.p rfl rfl ?_
          refine St.done ?_
          refine St.thenN ?_
          refine St.prune (Γ' := [(4, _)]) ⟨rfl, trivial⟩ (.d (.d (.d (.d (.d (.d .z)))))) ?_
          refine St.ret ?_
          repeat (first | refine St.thenR ?_ | refine St.blkR ?_)
          injection h with h
          subst h
          exact St.finR Try.results12 (.tmp rfl .nil) rfl [] ⟨rfl, rfl⟩ (fun _ w => (.z : Keep _ _).sat w)
        · replace h := bif_f hb9 h
          refine St.skip ?_
          refine St.thenN ?_
          refine St.prune (Γ' := [(1, _), (2, _), (5, _), (6, _)]) ⟨rfl, rfl, rfl, rfl, trivial⟩ (.k (.k (.k (.k (.k (.k .z)))))) ?_
          refine St.seq ?_
          refine St.seq ?_
          refine St.region ?_
          iterate 3 refine St.p rfl rfl ?_
          refine St.done ?_
          refine St.thenN ?_
          refine St.prune (Γ' := [(2, _), (5, _), (6, _), (64, _), (65, _), (66, _)]) ⟨rfl, rfl, rfl, rfl, rfl, rfl, trivial⟩ (.k (.k (.k (.k (.k (.k .z)))))) ?_
          obtain ⟨o5, hl2, h⟩ := bnd_e h
          refine St.cutI (fun (o6 : Unit) (e6 : Unit) => []) (fun o6 e6 => R) (fun o6 => o5 = .inr o6) ?_ ?_
          · refine St.block ?_
            refine St.loop hl2 (fun (s2 : Int) (e5 : Unit) => [(2, .pointer (some ⟨g1, 0, none⟩)), (5, .int .i64 r2), (6, .map (some g2)), (64, .slice A4 sets.length c4), (65, .int .i64 (sets.length : Int)), (66, .int .i64 s2)]) (fun s2 e5 => .res (MapB (kint .i64) (fun x => .bool x) g2 o3) :: .res (Box g1 29 [.slice A1 p_p0.Now.length c1, .slice A2 p_p0.Next.length c2, .slice A3 p_p0.Needs.length c3]) :: .ro (SlL e_Installed A1 c1 p_p0.Now) :: .ro (SlL e_Installed A2 c2 p_p0.Next) :: .ro (SlL e_Need A3 c3 p_p0.Needs) :: .ro (SlL ei64 A4 c4 sets) :: R) (fun _ _ => True) () trivial ⟨rfl, rfl, rfl, rfl, rfl, rfl, trivial⟩ (fun _ w => ((.k (.k (.k (.k (.k (.k .z)))))) : Keep _ _).sat w) ?_
            rintro s2 e5 - hit2
            obtain ⟨st2, hm2, hd2⟩ := iter_e hit2
            have h2 := hm2
            refine St.seq ?_
            refine St.region ?_
            refine St.p rfl rfl ?_
            refine St.done ?_
            refine St.thenN ?_
            refine St.seq ?_
            refine St.cond _ rfl (fun hb10 => ?_) (fun hb10 => ?_)
            · replace h2 := bif_t hb10 h2
              refine St.skip ?_
              refine St.thenN ?_
              refine St.prune (Γ' := [(2, _), (5, _), (6, _), (64, _), (65, _), (66, _)]) ⟨rfl, rfl, rfl, rfl, rfl, rfl, trivial⟩ (.k (.k (.k (.k (.k (.k .z)))))) ?_
              refine St.seq ?_
              refine St.block ?_
              refine St.seq ?_
              refine St.region ?_
              obtain ⟨x4, hx4, h2⟩ := bnd_e h2
              refine St.ixL hx4 rfl rfl rfl (.tail _ (.tail _ (.tail _ (.tail _ (.tail _ (.head _)))))) rfl rfl rfl rfl rfl fun b4 ob4 => ?_
              refine St.load ob4 0 rfl rfl (.head _) rfl rfl ?_
              refine St.p rfl rfl ?_
              refine St.done ?_
              refine St.thenN ?_
              refine St.prune (Γ' := [(2, _), (5, _), (6, _), (10, _), (64, _), (65, _), (66, _)]) ⟨rfl, rfl, rfl, rfl, rfl, rfl, rfl, trivial⟩ (.d (.k (.k (.k (.k (.k (.k .z))))))) ?_
              refine St.seq ?_
              refine St.region ?_
              refine St.p rfl rfl ?_
              refine St.loadB 0 rfl rfl (.tail _ (.head _)) rfl rfl ?_
              refine St.p rfl rfl ?_
              refine St.p rfl rfl ?_
              refine St.done ?_
              refine St.thenN ?_
              refine St.prune (Γ' := [(2, _), (5, _), (6, _), (10, _), (64, _), (65, _), (66, _), (72, _), (73, _)]) ⟨rfl, rfl, rfl, rfl, rfl, rfl, rfl, rfl, rfl, trivial⟩ (.k (.k (.k (.k (.k (.k .z)))))) ?_
              obtain ⟨o7, hl3, h2⟩ := bnd_e h2
              refine St.selfThen ?_
              refine St.cutI (fun (o8 : Unit) (e8 : Unit) => [(2, .pointer (some ⟨g1, 0, none⟩)), (5, .int .i64 r2), (6, .map (some g2)), (64, .slice A4 sets.length c4), (65, .int .i64 (sets.length : Int)), (66, .int .i64 s2)]) (fun o8 e8 => .res (MapB (kint .i64) (fun x => .bool x) g2 o3) :: .res (Box g1 29 [.slice A1 p_p0.Now.length c1, .slice A2 p_p0.Next.length c2, .slice A3 p_p0.Needs.length c3]) :: .ro (SlL e_Installed A1 c1 p_p0.Now) :: .ro (SlL e_Installed A2 c2 p_p0.Next) :: .ro (SlL e_Need A3 c3 p_p0.Needs) :: .ro (SlL ei64 A4 c4 sets) :: R) (fun o8 => o7 = .inr o8) ?_ ?_
              · refine St.block ?_
                refine St.loop hl3 (fun (s3 : Int) (e7 : Unit) => [(2, .pointer (some ⟨g1, 0, none⟩)), (5, .int .i64 r2), (6, .map (some g2)), (10, .int .i64 x4), (64, .slice A4 sets.length c4), (65, .int .i64 (sets.length : Int)), (66, .int .i64 s2), (72, .int .i64 (p_p0.Now.length : Int)), (73, .int .i64 s3)]) (fun s3 e7 => .res (MapB (kint .i64) (fun x => .bool x) g2 o3) :: .res (Box g1 29 [.slice A1 p_p0.Now.length c1, .slice A2 p_p0.Next.length c2, .slice A3 p_p0.Needs.length c3]) :: .ro (SlL e_Installed A1 c1 p_p0.Now) :: .ro (SlL e_Installed A2 c2 p_p0.Next) :: .ro (SlL e_Need A3 c3 p_p0.Needs) :: .ro (SlL ei64 A4 c4 sets) :: R) (fun _ _ => True) () trivial ⟨rfl, rfl, rfl, rfl, rfl, rfl, rfl, rfl, rfl, trivial⟩ (fun _ w => ((.k (.k (.k (.k (.k (.k .z)))))) : Keep _ _).sat w) ?_
                rintro s3 e7 - hit3
                obtain ⟨st3, hm3, hd3⟩ := iter_e hit3
                have h3 := hm3
                refine St.seq ?_
                refine St.region ?_
                refine St.p rfl rfl ?_
                refine St.done ?_
                refine St.thenN ?_
                refine St.seq ?_
                refine St.cond _ rfl (fun hb11 => ?_) (fun hb11 => ?_)
                · replace h3 := bif_t hb11 h3
                  refine St.skip ?_
                  refine St.thenN ?_
                  refine St.prune (Γ' := [(2, _), (5, _), (6, _), (10, _), (64, _), (65, _), (66, _), (72, _), (73, _)]) ⟨rfl, rfl, rfl, rfl, rfl, rfl, rfl, rfl, rfl, trivial⟩ (.k (.k (.k (.k (.k (.k .z)))))) ?_
                  refine St.seq ?_
                  refine St.block ?_
                  refine St.seq ?_
                  refine St.region ?_
                  refine St.p rfl rfl ?_
                  refine St.p rfl rfl ?_
                  refine St.done ?_
                  refine St.thenN ?_
                  refine St.prune (Γ' := [(2, _), (5, _), (6, _), (10, _), (11, _), (64, _), (65, _), (66, _), (72, _), (73, _)]) ⟨rfl, rfl, rfl, rfl, rfl, rfl, rfl, rfl, rfl, rfl, trivial⟩ (.k (.k (.k (.k (.k (.k .z)))))) ?_
                  refine St.seq ?_
                  refine St.region ?_
                  refine St.p rfl rfl ?_
                  refine St.p rfl rfl ?_
                  obtain ⟨q1, hq1, h3⟩ := bnd_e h3
                  refine St.shl rfl rfl rfl hq1 ?_
                  refine St.p rfl rfl ?_
                  refine St.p rfl rfl ?_
                  refine St.done ?_
                  refine St.thenN ?_
                  refine St.prune (Γ' := [(2, _), (5, _), (6, _), (10, _), (11, _), (12, _), (64, _), (65, _), (66, _), (72, _), (73, _)]) ⟨rfl, rfl, rfl, rfl, rfl, rfl, rfl, rfl, rfl, rfl, rfl, trivial⟩ (.k (.k (.k (.k (.k (.k .z)))))) ?_
                  refine St.seq ?_
                  obtain ⟨o9, hj3, h3⟩ := bnd_e h3
                  refine St.cutE (fun (e9 : Unit) => [(2, .pointer (some ⟨g1, 0, none⟩)), (5, .int .i64 r2), (6, .map (some g2)), (10, .int .i64 x4), (64, .slice A4 sets.length c4), (65, .int .i64 (sets.length : Int)), (66, .int .i64 s2), (72, .int .i64 (p_p0.Now.length : Int)), (73, .int .i64 s3), (95, .bool o9)]) (fun e9 => .res (MapB (kint .i64) (fun x => .bool x) g2 o3) :: .res (Box g1 29 [.slice A1 p_p0.Now.length c1, .slice A2 p_p0.Next.length c2, .slice A3 p_p0.Needs.length c3]) :: .ro (SlL e_Installed A1 c1 p_p0.Now) :: .ro (SlL e_Installed A2 c2 p_p0.Next) :: .ro (SlL e_Need A3 c3 p_p0.Needs) :: .ro (SlL ei64 A4 c4 sets) :: R) ?_ ?_
                  · refine St.region ?_
                    refine St.p rfl rfl ?_
                    refine St.p rfl rfl ?_
                    obtain ⟨q2, hq2, hj3⟩ := bnd_e hj3
                    refine St.shr rfl rfl rfl hq2 ?_
                    iterate 3 refine St.p rfl rfl ?_
                    refine St.gSplit (dj := 85) _ rfl (fun hb12 => ?_) (fun hb12 => ?_)
                    · replace hj3 := bif_t hb12 hj3
                      refine St.gOn (dj := 85) rfl rfl ?_
                      refine St.p rfl rfl ?_
                      refine St.gOn (dj := 85) rfl rfl ?_
                      refine St.p rfl rfl ?_
                      refine St.gOn (dj := 85) rfl rfl ?_
                      refine St.lookup (K := (kint .i64)) (vv := (fun x => .bool x)) (u := .bool ((mget (kint .i64).eq o3 (iOr .i64 x4 q1)).getD false)) false (iOr .i64 x4 q1) rfl rfl rfl (.head _) rfl rfl rfl rfl rfl rfl rfl ?_
                      refine St.gOn (dj := 85) rfl rfl ?_
                      iterate 3 refine St.p rfl rfl ?_
                      refine St.gSplit (dj := 91) _ rfl (fun hb13 => ?_) (fun hb13 => ?_)
                      · replace hj3 := bif_t hb13 hj3
                        refine St.gOn (dj := 91) rfl rfl ?_
                        refine St.loadB 0 rfl rfl (.tail _ (.head _)) rfl rfl ?_
                        refine St.gOn (dj := 91) rfl rfl ?_
                        refine St.p rfl rfl ?_
                        refine St.gOn (dj := 91) rfl rfl ?_
                        obtain ⟨r3, hr3, hj3⟩ := bnd_e hj3
                        refine St.callV (c_activation_good hr3) ent36 rfl rfl rfl rfl ⟨(.tail _ (.tail _ (.head _))), (.tail _ (.tail _ (.tail _ (.head _)))), (.tail _ (.tail _ (.tail _ (.tail _ (.head _))))), trivial⟩ ?_
                        refine St.p rfl rfl ?_
                        refine St.done ?_
                        injection hj3 with hj3
                        subst hj3
                        refine St.thenN ?_
                        exact St.hereE () ⟨rfl, rfl, rfl, rfl, rfl, rfl, rfl, rfl, rfl, rfl, trivial⟩ (fun _ w => ((.k (.k (.k (.k (.k (.k .z)))))) : Keep _ _).sat w)
                      · replace hj3 := bif_f hb13 hj3
                        refine St.gOff (dj := 91) rfl rfl rfl rfl ?_
                        refine St.gOff (dj := 91) rfl rfl rfl rfl ?_
                        refine St.gOff (dj := 91) rfl rfl rfl rfl ?_
                        refine St.p rfl rfl ?_
                        refine St.done ?_
                        injection hj3 with hj3
                        subst hj3
                        refine St.thenN ?_
                        exact St.hereE () ⟨rfl, rfl, rfl, rfl, rfl, rfl, rfl, rfl, rfl, rfl, trivial⟩ (fun _ w => ((.k (.k (.k (.k (.k (.k .z)))))) : Keep _ _).sat w)
                    · replace hj3 := bif_f hb12 hj3
                      refine St.gOff (dj := 85) rfl rfl rfl rfl ?_
                      refine St.gOff (dj := 85) rfl rfl rfl rfl ?_
                      refine St.gOff (dj := 85) rfl rfl rfl rfl ?_
                      refine St.gOff (dj := 85) rfl rfl rfl rfl ?_
                      refine St.p rfl rfl ?_
                      refine St.p rfl rfl ?_
                      refine St.gOff (dj := 91) rfl rfl rfl rfl ?_
                      refine St.gOff (dj := 91) rfl rfl rfl rfl ?_
                      refine St.gOff (dj := 91) rfl rfl rfl rfl ?_
                      refine St.p rfl rfl ?_
                      refine St.done ?_
                      injection hj3 with hj3
                      subst hj3
                      refine St.thenN ?_
                      exact St.hereE () ⟨rfl, rfl, rfl, rfl, rfl, rfl, rfl, rfl, rfl, rfl, trivial⟩ (fun _ w => ((.k (.k (.k (.k (.k (.k .z)))))) : Keep _ _).sat w)
                  · rintro e9
                    refine St.cond _ rfl (fun hb14 => ?_) (fun hb14 => ?_)
                    · replace h3 := bif_t hb14 h3
                      refine St.seq ?_
                      refine St.region ?_
                      refine St.p rfl rfl ?_
                      refine St.done ?_
                      refine St.thenN ?_
                      refine St.prune (Γ' := [(4, _)]) ⟨rfl, trivial⟩ (.d (.d (.d (.d (.d (.d .z)))))) ?_
                      refine St.ret ?_
                      repeat (first | refine St.thenR ?_ | refine St.blkR ?_)
                      injection h3 with h3
                      subst h3
                      have ho := hd3 _ rfl
                      subst ho
                      have h2 : some _ = some _ := h2
                      injection h2 with h2
                      subst h2
                      have ho := hd2 _ rfl
                      subst ho
                      have h : some _ = some _ := h
                      injection h with h
                      subst h
                      exact St.finR Try.results12 (.tmp rfl .nil) rfl [] ⟨rfl, rfl⟩ (fun _ w => (.z : Keep _ _).sat w)
                    · replace h3 := bif_f hb14 h3
                      refine St.skip ?_
                      refine St.blkN ?_
                      refine St.thenN ?_
                      refine St.prune (Γ' := [(2, _), (5, _), (6, _), (10, _), (64, _), (65, _), (66, _), (72, _), (73, _)]) ⟨rfl, rfl, rfl, rfl, rfl, rfl, rfl, rfl, rfl, trivial⟩ (.k (.k (.k (.k (.k (.k .z)))))) ?_
                      refine St.region ?_
                      refine St.p rfl rfl ?_
                      refine St.p rfl rfl ?_
                      refine St.done ?_
                      injection h3 with h3
                      subst h3
                      refine St.thenN ?_
                      exact St.again _ () hm3 trivial ⟨rfl, rfl, rfl, rfl, rfl, rfl, rfl, rfl, rfl, trivial⟩ (fun _ w => ((.k (.k (.k (.k (.k (.k .z)))))) : Keep _ _).sat w)
                · replace h3 := bif_f hb11 h3
                  refine St.exit ?_
                  repeat (first | refine St.thenX ?_ | refine St.blkMiss rfl ?_)
                  refine St.blkHit ?_
                  injection h3 with h3
                  subst h3
                  have ho := hd3 _ rfl
                  subst ho
                  refine St.thenN ?_
                  exact St.hereI () () rfl ⟨rfl, rfl, rfl, rfl, rfl, rfl, trivial⟩ (fun _ w => ((.k (.k (.k (.k (.k (.k .z)))))) : Keep _ _).sat w)
              · rintro o8 e8 ho
                subst ho
                have h2 : _ = some _ := h2
                refine St.blkN ?_
                refine St.thenN ?_
                refine St.region ?_
                refine St.p rfl rfl ?_
                refine St.p rfl rfl ?_
                refine St.done ?_
                injection h2 with h2
                subst h2
                refine St.thenN ?_
                exact St.again _ () hm2 trivial ⟨rfl, rfl, rfl, rfl, rfl, rfl, trivial⟩ (fun _ w => ((.k (.k (.k (.k (.k (.k .z)))))) : Keep _ _).sat w)
            · replace h2 := bif_f hb10 h2
              refine St.exit ?_
              repeat (first | refine St.thenX ?_ | refine St.blkMiss rfl ?_)
              refine St.blkHit ?_
              injection h2 with h2
              subst h2
              have ho := hd2 _ rfl
              subst ho
              refine St.thenN ?_
              exact St.hereI () () rfl trivial (fun _ w => ((.d (.d (.d (.d (.d (.d .z)))))) : Keep _ _).sat w)
          · rintro o6 e6 ho
            subst ho
            have h : _ = some _ := h
            refine St.seq ?_
            refine St.region ?_
            refine St.p rfl rfl ?_
            refine St.done ?_
            refine St.thenN ?_
            refine St.ret ?_
            repeat (first | refine St.thenR ?_ | refine St.blkR ?_)
            injection h with h
            subst h
            exact St.finR Try.results12 (.tmp rfl .nil) rfl [] ⟨rfl, rfl⟩ (fun _ w => (.z : Keep _ _).sat w)

theorem ent13 : Ent Try.prog 13 := ⟨_, Try.func13, by kernel_rfl, by kernel_rfl⟩

noncomputable def m_field_New (l_p0 : (List Int)) (most : Int) : Option T_Codes :=
  bnd (sub l_p0 0 (min (l_p0.length : Int) most)) fun l1 => some (⟨l1, 0⟩ : T_Codes)

theorem c_field_New {l_p0 : (List Int)} {most : Int} {A1 : Option Addr} {c1 : Nat} {r : T_Codes} (h : m_field_New l_p0 most = some r) :
    Fun Try.prog 13 [.slice A1 l_p0.length c1, .int .i64 most] [.ro (SlL eu8 A1 c1 l_p0)] (fun v_ F_ => ∃ (g1 : Nat) (A1 : Option Addr) (c1 : Nat), v_ = .pointer (some ⟨g1, 0, none⟩) ∧ F_ = [.ro (SlL eu8 A1 c1 r.L), .res (Box g1 69 [.slice A1 r.L.length c1, .int .i64 r.At])]) := by
  unfold m_field_New at h
  refine Fun.intro Try.func13 rfl rfl rfl fun w R => ?_
  refine St.seq ?_
  refine St.region ?_
  refine St.p rfl rfl ?_
  refine St.done ?_
  refine St.thenN ?_
  refine St.prune (Γ' := [(0, _), (1, _)]) ⟨rfl, rfl, trivial⟩ (.k .z) ?_
  refine St.seq ?_
  refine St.region ?_
  iterate 5 refine St.p rfl rfl ?_
  obtain ⟨l1, hl1, h⟩ := bnd_e h
  refine St.sub (E := (cod eu8)) rfl rfl (.head _) rfl rfl rfl rfl rfl rfl rfl hl1 fun A2 c2 => ?_
  refine St.p rfl rfl ?_
  refine St.box rfl rfl fun g1 => ?_
  refine St.p rfl rfl ?_
  refine St.done ?_
  refine St.thenN ?_
  refine St.prune (Γ' := [(4, _)]) ⟨rfl, trivial⟩ (.k (.k (.d .z))) ?_
  refine St.ret ?_
  repeat (first | refine St.thenR ?_ | refine St.blkR ?_)
  injection h with h
  subst h
  exact St.finR Try.results13 (.tmp rfl .nil) rfl [.ro (SlL eu8 A2 c2 l1), .res (Box g1 69 [.slice A2 l1.length c2, .int .i64 0])] ⟨g1, A2, c2, rfl, rfl⟩ (fun _ w => ((.k (.k (.d .z))) : Keep _ _).sat (Sat.dup (G := [.ro (SlL eu8 A2 c2 l1)]) rfl ⟨(.tail _ (.head _)), trivial⟩ w))

theorem ent37 : Ent Try.prog 37 := ⟨_, Try.func37, by kernel_rfl, by kernel_rfl⟩

noncomputable def m_field_names  : Option (List ByteArray) :=
  some ([⟨#[98, 105, 111, 115]⟩, ⟨#[99, 112, 108, 100]⟩, ⟨#[109, 101]⟩, ⟨#[112, 115, 117]⟩, ⟨#[120, 45, 49]⟩, ⟨#[122, 122]⟩])

theorem c_field_names  {r : (List ByteArray)} (h : m_field_names = some r) :
    Fun Try.prog 37 [] [] (fun v_ F_ => ∃ (A1 : Option Addr) (c1 : Nat), v_ = .slice A1 r.length c1 ∧ F_ = [.res (OwnL estr 9 A1 c1 r)]) := by
  unfold m_field_names at h
  refine Fun.intro Try.func37 rfl rfl rfl fun w R => ?_
  refine St.seq ?_
  refine St.region ?_
  refine St.p rfl rfl ?_
  refine St.done ?_
  refine St.thenN ?_
  refine St.prune (Γ' := []) trivial .z ?_
  refine St.seq ?_
  refine St.region ?_
  refine St.buildSlice rfl rfl rfl rfl rfl rfl rfl rfl fun g1 => ?_
  refine St.p rfl rfl ?_
  refine St.done ?_
  refine St.thenN ?_
  refine St.prune (Γ' := [(0, _)]) ⟨rfl, trivial⟩ (.k .z) ?_
  refine St.ret ?_
  repeat (first | refine St.thenR ?_ | refine St.blkR ?_)
  refine St.asrt (fun _ w => (w.front .z).litL (E := estr) (e := 9) [⟨#[98, 105, 111, 115]⟩, ⟨#[99, 112, 108, 100]⟩, ⟨#[109, 101]⟩, ⟨#[112, 115, 117]⟩, ⟨#[120, 45, 49]⟩, ⟨#[122, 122]⟩] rfl rfl) ?_
  injection h with h
  subst h
  exact St.finR Try.results37 (.tmp rfl .nil) rfl [.res (OwnL estr 9 (some ⟨g1, 0, none⟩) ([⟨#[98, 105, 111, 115]⟩, ⟨#[99, 112, 108, 100]⟩, ⟨#[109, 101]⟩, ⟨#[112, 115, 117]⟩, ⟨#[120, 45, 49]⟩, ⟨#[122, 122]⟩] : List ByteArray).length ([⟨#[98, 105, 111, 115]⟩, ⟨#[99, 112, 108, 100]⟩, ⟨#[109, 101]⟩, ⟨#[112, 115, 117]⟩, ⟨#[120, 45, 49]⟩, ⟨#[122, 122]⟩]))] ⟨(some ⟨g1, 0, none⟩), ([⟨#[98, 105, 111, 115]⟩, ⟨#[99, 112, 108, 100]⟩, ⟨#[109, 101]⟩, ⟨#[112, 115, 117]⟩, ⟨#[120, 45, 49]⟩, ⟨#[122, 122]⟩] : List ByteArray).length, rfl, rfl⟩ (fun _ w => ((.k .z) : Keep _ _).sat w)

theorem ent49 : Ent Try.prog 49 := ⟨_, Try.func49, by kernel_rfl, by kernel_rfl⟩

noncomputable def m_field_Codes_Left (c_p0 : T_Codes) : Option Bool :=
  some (decide (c_p0.At < (c_p0.L.length : Int)))

theorem c_field_Codes_Left {c_p0 : T_Codes} {A1 : Option Addr} {c1 : Nat} {gb1 : Nat} {r : Bool} (h : m_field_Codes_Left c_p0 = some r) :
    Fun Try.prog 49 [.pointer (some ⟨gb1, 0, none⟩)] [.ro (SlL eu8 A1 c1 c_p0.L), .res (Box gb1 69 [.slice A1 c_p0.L.length c1, .int .i64 c_p0.At])] (fun v_ F_ => v_ = .bool r ∧ F_ = [.res (Box gb1 69 [.slice A1 c_p0.L.length c1, .int .i64 c_p0.At])]) := by
  unfold m_field_Codes_Left at h
  refine Fun.intro Try.func49 rfl rfl rfl fun w R => ?_
  refine St.seq ?_
  refine St.region ?_
  refine St.p rfl rfl ?_
  refine St.done ?_
  refine St.thenN ?_
  refine St.prune (Γ' := [(0, _)]) ⟨rfl, trivial⟩ (.k (.k .z)) ?_
  refine St.seq ?_
  refine St.regionF mixed (by kernel_rfl) ?_
  iterate 3 refine St.p rfl rfl ?_
  refine St.loadB 1 rfl rfl (.tail _ (.head _)) rfl rfl ?_
  iterate 3 refine St.p rfl rfl ?_
  refine St.loadB 0 rfl rfl (.tail _ (.head _)) rfl rfl ?_
  iterate 3 refine St.p rfl rfl ?_
  refine St.doneQ ?_
  refine St.thenN ?_
  refine St.prune (Γ' := [(2, _)]) ⟨rfl, trivial⟩ (.k (.k .z)) ?_
  refine St.ret ?_
  repeat (first | refine St.thenR ?_ | refine St.blkR ?_)
  injection h with h
  subst h
  exact St.finR Try.results49 (.tmp rfl .nil) rfl [.res (Box gb1 69 [.slice A1 c_p0.L.length c1, .int .i64 c_p0.At])] ⟨rfl, rfl⟩ (fun _ w => ((.k (.d .z)) : Keep _ _).sat (w.front (.s .z)))

theorem ent26 : Ent Try.prog 26 := ⟨_, Try.func26, by kernel_rfl, by kernel_rfl⟩

noncomputable def m_field_Codes_Next (c_p0 : T_Codes) (n_p1 : Int) : Option (T_Codes × Int) :=
  bnd ((bnd (m_field_Codes_Left c_p0) fun r1 => bif !r1 then (some true) else (some (decide (n_p1 < 1))) : Option Bool)) fun o1 => bif o1 then (some (c_p0, 0)) else (bnd (elt c_p0.L c_p0.At) fun x1 => bnd ((bif decide (n_p1 > 256) then (bnd (m_field_Codes_Left (⟨c_p0.L, IntKind.wrap .i64 (c_p0.At + 1)⟩ : T_Codes)) fun r2 => some r2) else (some false) : Option Bool)) fun o2 => bif o2 then (bnd (elt c_p0.L (IntKind.wrap .i64 (c_p0.At + 1))) fun x2 => bnd (remM (iOr .i64 (IntKind.wrap .i64 x1) (iShl .i64 (IntKind.wrap .i64 x2) 8)) n_p1) fun q1 => some ((⟨c_p0.L, IntKind.wrap .i64 ((IntKind.wrap .i64 (c_p0.At + 1)) + 1)⟩ : T_Codes), q1)) else (bnd (remM (IntKind.wrap .i64 x1) n_p1) fun q2 => some ((⟨c_p0.L, IntKind.wrap .i64 (c_p0.At + 1)⟩ : T_Codes), q2)))

theorem c_field_Codes_Next {c_p0 : T_Codes} {n_p1 : Int} {A1 : Option Addr} {c1 : Nat} {gb1 : Nat} {r : (T_Codes × Int)} (h : m_field_Codes_Next c_p0 n_p1 = some r) :
    Fun Try.prog 26 [.pointer (some ⟨gb1, 0, none⟩), .int .i64 n_p1] [.ro (SlL eu8 A1 c1 c_p0.L), .res (Box gb1 69 [.slice A1 c_p0.L.length c1, .int .i64 c_p0.At])] (fun v_ F_ => ∃ (A1 : Option Addr) (c1 : Nat), v_ = .int .i64 r.2 ∧ F_ = [.ro (SlL eu8 A1 c1 r.1.L), .res (Box gb1 69 [.slice A1 r.1.L.length c1, .int .i64 r.1.At])]) := by
  unfold m_field_Codes_Next at h
  refine Fun.intro Try.func26 rfl rfl rfl fun w R => ?_
  refine St.seq ?_
  refine St.region ?_
  refine St.p rfl rfl ?_
  refine St.done ?_
  refine St.thenN ?_
  refine St.prune (Γ' := [(0, _), (1, _)]) ⟨rfl, rfl, trivial⟩ (.k (.k .z)) ?_
  refine St.seq ?_
  refine St.seq ?_
  obtain ⟨o1, hj1, h⟩ := bnd_e h
  refine St.cutE (fun (e1 : Unit) => [(0, .pointer (some ⟨gb1, 0, none⟩)), (1, .int .i64 n_p1), (12, .bool o1)]) (fun e1 => .ro (SlL eu8 A1 c1 c_p0.L) :: .res (Box gb1 69 [.slice A1 c_p0.L.length c1, .int .i64 c_p0.At]) :: R) ?_ ?_
  · refine St.region ?_
    refine St.p rfl rfl ?_
    obtain ⟨r1, hr1, hj1⟩ := bnd_e hj1
    refine St.call (c_field_Codes_Left hr1) ent49 rfl rfl rfl (fun _ w => Sat.dup (G := [.ro (SlL eu8 A1 c1 c_p0.L)]) rfl ⟨(.tail _ (.head _)), trivial⟩ (w.front (.s .z))) ?_
    rintro _ _ ⟨rfl, rfl⟩
    refine St.asrt (F' := .res (Box gb1 69 [.slice A1 c_p0.L.length c1, .int .i64 c_p0.At]) :: .ro (SlL eu8 A1 c1 c_p0.L) :: R) (fun _ w => w) ?_
    refine St.p rfl rfl ?_
    refine St.p rfl rfl ?_
    refine St.gSplit (dj := 9) _ rfl (fun hb1 => ?_) (fun hb1 => ?_)
    · replace hj1 := bif_t hb1 hj1
      refine St.gOff (dj := 9) rfl rfl rfl rfl ?_
      refine St.gOff (dj := 9) rfl rfl rfl rfl ?_
      refine St.p rfl rfl ?_
      refine St.done ?_
      injection hj1 with hj1
      subst hj1
      refine St.thenN ?_
      exact St.hereE () ⟨rfl, rfl, rfl, trivial⟩ (fun _ w => ((.k (.k .z)) : Keep _ _).sat ((w.front .z).front (.s .z)))
    · replace hj1 := bif_f hb1 hj1
      refine St.gOn (dj := 9) rfl rfl ?_
      refine St.p rfl rfl ?_
      refine St.gOn (dj := 9) rfl rfl ?_
      refine St.p rfl rfl ?_
      refine St.p rfl rfl ?_
      refine St.done ?_
      injection hj1 with hj1
      subst hj1
      refine St.thenN ?_
      exact St.hereE () ⟨rfl, rfl, rfl, trivial⟩ (fun _ w => ((.k (.k .z)) : Keep _ _).sat ((w.front .z).front (.s .z)))
  · rintro e1
    refine St.cond _ rfl (fun hb2 => ?_) (fun hb2 => ?_)
    · replace h := bif_t hb2 h
      refine St.seq ?_
      refine St.region ?_
      refine St.p rfl rfl ?_
      refine St.done ?_
      refine St.thenN ?_
      refine St.prune (Γ' := [(4, _)]) ⟨rfl, trivial⟩ (.k (.k .z)) ?_
      refine St.ret ?_
      repeat (first | refine St.thenR ?_ | refine St.blkR ?_)
      injection h with h
      subst h
      exact St.finR Try.results26 (.tmp rfl .nil) rfl [.ro (SlL eu8 A1 c1 c_p0.L), .res (Box gb1 69 [.slice A1 c_p0.L.length c1, .int .i64 c_p0.At])] ⟨A1, c1, rfl, rfl⟩ (fun _ w => ((.k (.k (.d .z))) : Keep _ _).sat (Sat.dup (G := [.ro (SlL eu8 A1 c1 c_p0.L)]) rfl ⟨(.tail _ (.head _)), trivial⟩ (w.front (.s .z))))
    · replace h := bif_f hb2 h
      refine St.skip ?_
      refine St.thenN ?_
      refine St.prune (Γ' := [(0, _), (1, _)]) ⟨rfl, rfl, trivial⟩ (.k (.k .z)) ?_
      refine St.seq ?_
      refine St.regionF mixed (by kernel_rfl) ?_
      iterate 3 refine St.p rfl rfl ?_
      refine St.loadB 0 rfl rfl (.tail _ (.head _)) rfl rfl ?_
      iterate 3 refine St.p rfl rfl ?_
      refine St.loadB 1 rfl rfl (.tail _ (.head _)) rfl rfl ?_
      obtain ⟨x1, hx1, h⟩ := bnd_e h
      refine St.ixL hx1 rfl rfl rfl (.head _) rfl rfl rfl rfl rfl fun b1 ob1 => ?_
      refine St.load ob1 0 rfl rfl (.head _) rfl rfl ?_
      refine St.p rfl rfl ?_
      refine St.p rfl rfl ?_
      refine St.doneQ ?_
      refine St.thenN ?_
      refine St.prune (Γ' := [(0, _), (1, _), (5, _)]) ⟨rfl, rfl, rfl, trivial⟩ (.d (.k (.k .z))) ?_
      refine St.seq ?_
      refine St.region ?_
      iterate 3 refine St.p rfl rfl ?_
      refine St.loadB 1 rfl rfl (.tail _ (.head _)) rfl rfl ?_
      iterate 3 refine St.p rfl rfl ?_
      refine St.store 1 rfl rfl rfl rfl rfl rfl (.s .z) rfl ?_
      refine St.done ?_
      refine St.thenN ?_
      refine St.prune (Γ' := [(0, _), (1, _), (5, _)]) ⟨rfl, rfl, rfl, trivial⟩ (.k (.k .z)) ?_
      refine St.seq ?_
      refine St.seq ?_
      obtain ⟨o2, hj2, h⟩ := bnd_e h
      refine St.cutE (fun (e2 : Unit) => [(0, .pointer (some ⟨gb1, 0, none⟩)), (1, .int .i64 n_p1), (5, .int .i64 (IntKind.wrap .i64 x1)), (36, .bool o2)]) (fun e2 => .res (Box gb1 69 [.slice A1 c_p0.L.length c1, .int .i64 (IntKind.wrap .i64 (c_p0.At + 1))]) :: .ro (SlL eu8 A1 c1 c_p0.L) :: R) ?_ ?_
      · refine St.region ?_
        iterate 3 refine St.p rfl rfl ?_
        refine St.gSplit (dj := 33) _ rfl (fun hb3 => ?_) (fun hb3 => ?_)
        · replace hj2 := bif_t hb3 hj2
          refine St.gOn (dj := 33) rfl rfl ?_
          refine St.p rfl rfl ?_
          refine St.gOn (dj := 33) rfl rfl ?_
          obtain ⟨r2, hr2, hj2⟩ := bnd_e hj2
          refine St.call (c_field_Codes_Left hr2) ent49 rfl rfl rfl (fun _ w => Sat.dup (G := [.ro (SlL eu8 A1 c1 c_p0.L)]) rfl ⟨(.tail _ (.head _)), trivial⟩ (w.front .z)) ?_
          rintro _ _ ⟨rfl, rfl⟩
          refine St.asrt (F' := .res (Box gb1 69 [.slice A1 c_p0.L.length c1, .int .i64 (IntKind.wrap .i64 (c_p0.At + 1))]) :: .ro (SlL eu8 A1 c1 c_p0.L) :: R) (fun _ w => w) ?_
          refine St.p rfl rfl ?_
          refine St.done ?_
          injection hj2 with hj2
          subst hj2
          refine St.thenN ?_
          exact St.hereE () ⟨rfl, rfl, rfl, rfl, trivial⟩ (fun _ w => ((.k (.k .z)) : Keep _ _).sat w)
        · replace hj2 := bif_f hb3 hj2
          refine St.gOff (dj := 33) rfl rfl rfl rfl ?_
          refine St.gOff (dj := 33) rfl rfl rfl rfl ?_
          refine St.p rfl rfl ?_
          refine St.done ?_
          injection hj2 with hj2
          subst hj2
          refine St.thenN ?_
          exact St.hereE () ⟨rfl, rfl, rfl, rfl, trivial⟩ (fun _ w => ((.k (.k .z)) : Keep _ _).sat w)
      · rintro e2
        refine St.cond _ rfl (fun hb4 => ?_) (fun hb4 => ?_)
        · replace h := bif_t hb4 h
          refine St.seq ?_
          refine St.regionF mixed (by kernel_rfl) ?_
          iterate 4 refine St.p rfl rfl ?_
          refine St.loadB 0 rfl rfl (.head _) rfl rfl ?_
          iterate 3 refine St.p rfl rfl ?_
          refine St.loadB 1 rfl rfl (.head _) rfl rfl ?_
          obtain ⟨x2, hx2, h⟩ := bnd_e h
          refine St.ixL hx2 rfl rfl rfl (.tail _ (.head _)) rfl rfl rfl rfl rfl fun b2 ob2 => ?_
          refine St.load ob2 0 rfl rfl (.head _) rfl rfl ?_
          iterate 4 refine St.p rfl rfl ?_
          refine St.doneQ ?_
          refine St.thenN ?_
          refine St.prune (Γ' := [(0, _), (1, _), (5, _)]) ⟨rfl, rfl, rfl, trivial⟩ (.d (.k (.k .z))) ?_
          refine St.region ?_
          iterate 3 refine St.p rfl rfl ?_
          refine St.loadB 1 rfl rfl (.head _) rfl rfl ?_
          iterate 3 refine St.p rfl rfl ?_
          refine St.store 1 rfl rfl rfl rfl rfl rfl .z rfl ?_
          refine St.done ?_
          refine St.thenN ?_
          refine St.prune (Γ' := [(1, _), (5, _)]) ⟨rfl, rfl, trivial⟩ (.k (.k .z)) ?_
          refine St.seq ?_
          refine St.region ?_
          refine St.p rfl rfl ?_
          refine St.p rfl rfl ?_
          obtain ⟨q1, hq1, h⟩ := bnd_e h
          refine St.rem rfl rfl rfl hq1 ?_
          refine St.p rfl rfl ?_
          refine St.done ?_
          refine St.thenN ?_
          refine St.prune (Γ' := [(4, _)]) ⟨rfl, trivial⟩ (.k (.k .z)) ?_
          refine St.ret ?_
          repeat (first | refine St.thenR ?_ | refine St.blkR ?_)
          injection h with h
          subst h
          exact St.finR Try.results26 (.tmp rfl .nil) rfl [.ro (SlL eu8 A1 c1 c_p0.L), .res (Box gb1 69 [.slice A1 c_p0.L.length c1, .int .i64 (IntKind.wrap .i64 ((IntKind.wrap .i64 (c_p0.At + 1)) + 1))])] ⟨A1, c1, rfl, rfl⟩ (fun _ w => ((.k (.k (.d .z))) : Keep _ _).sat (Sat.dup (G := [.ro (SlL eu8 A1 c1 c_p0.L)]) rfl ⟨(.tail _ (.head _)), trivial⟩ w))
        · replace h := bif_f hb4 h
          refine St.skip ?_
          refine St.thenN ?_
          refine St.prune (Γ' := [(1, _), (5, _)]) ⟨rfl, rfl, trivial⟩ (.k (.k .z)) ?_
          refine St.seq ?_
          refine St.region ?_
          refine St.p rfl rfl ?_
          refine St.p rfl rfl ?_
          obtain ⟨q2, hq2, h⟩ := bnd_e h
          refine St.rem rfl rfl rfl hq2 ?_
          refine St.p rfl rfl ?_
          refine St.done ?_
          refine St.thenN ?_
          refine St.prune (Γ' := [(4, _)]) ⟨rfl, trivial⟩ (.k (.k .z)) ?_
          refine St.ret ?_
          repeat (first | refine St.thenR ?_ | refine St.blkR ?_)
          injection h with h
          subst h
          exact St.finR Try.results26 (.tmp rfl .nil) rfl [.ro (SlL eu8 A1 c1 c_p0.L), .res (Box gb1 69 [.slice A1 c_p0.L.length c1, .int .i64 (IntKind.wrap .i64 (c_p0.At + 1))])] ⟨A1, c1, rfl, rfl⟩ (fun _ w => ((.k (.k (.d .z))) : Keep _ _).sat (Sat.dup (G := [.ro (SlL eu8 A1 c1 c_p0.L)]) rfl ⟨(.tail _ (.head _)), trivial⟩ w))

theorem ent14 : Ent Try.prog 14 := ⟨_, Try.func14, by kernel_rfl, by kernel_rfl⟩

noncomputable def m_field_Codes_Plan (c_p0 : T_Codes) : Option (T_Codes × T_Plan) :=
  bnd (m_field_names) fun r1 => bnd (m_field_Codes_Next c_p0 4) fun r2 => bnd (sub r1 0 (IntKind.wrap .i64 (2 + r2.2))) fun l1 => bnd (loopM (τ := List T_Installed × List T_Installed × List Int × Int) (fun (s1 : Int × List T_Installed × List T_Installed × List Int × Int) => bif decide (s1.1 < (l1.length : Int)) then (bnd (elt l1 s1.1) fun x1 => bnd (app 40 s1.2.1 [(⟨x1, (⟨1, 0, 0⟩ : T_Version)⟩ : T_Installed)]) fun l2 => bnd (m_field_Codes_Next (⟨s1.2.2.2.1, s1.2.2.2.2⟩ : T_Codes) 4) fun r3 => bnd (app 40 s1.2.2.1 [(⟨x1, (⟨IntKind.wrap .i64 (1 + (IntKind.wrap .i64 ((IntKind.wrap .i64 (r3.2 + 2)).tdiv 3))), 0, 0⟩ : T_Version)⟩ : T_Installed)]) fun l3 => some (.next (IntKind.wrap .i64 (s1.1 + 1), l2, l3, r3.1.L, r3.1.At))) else (some (.done (s1.2.1, s1.2.2.1, s1.2.2.2.1, s1.2.2.2.2)))) (0, [], [], r2.1.L, r2.1.At)) fun o1 => bnd (m_field_Codes_Next (⟨o1.2.2.1, o1.2.2.2⟩ : T_Codes) 6) fun r4 => bnd (loopM (τ := List T_Installed × List T_Installed × List T_Need × List Int × Int) (fun (s2 : Int × List T_Installed × List T_Installed × List T_Need × List Int × Int) => bif decide (s2.1 > 0) then (bnd (m_field_Codes_Next (⟨s2.2.2.2.2.1, s2.2.2.2.2.2⟩ : T_Codes) (s2.2.1.length : Int)) fun r5 => bnd (m_field_Codes_Next r5.1 (s2.2.1.length : Int)) fun r6 => bnd (elt s2.2.1 r5.2) fun x2 => bnd (elt s2.2.1 r5.2) fun x3 => bnd (elt s2.2.1 r6.2) fun x4 => bnd (m_field_Codes_Next r6.1 2) fun r7 => bnd (m_field_Codes_Next r7.1 2) fun r8 => bnd ((bnd ((bif ((IntKind.wrap .i64 (1 + r7.2)) == 1) then (bnd (m_field_Codes_Next r8.1 5) fun r9 => some (decide (r9.2 < 4), r9.1.L, r9.1.At)) else (some (false, r8.1.L, r8.1.At)) : Option (Bool × List Int × Int))) fun o4 => bif o4.1 then (some (1, o4.2.1, o4.2.2)) else (some (IntKind.wrap .i64 (1 + r8.2), o4.2.1, o4.2.2)) : Option (Int × List Int × Int))) fun o3 => bnd ((bnd ((bif (o3.1 == 2) then (bnd (elt s2.2.2.1 r6.2) fun x5 => bif (x5.Version.Major == 1) then (bnd (m_field_Codes_Next (⟨o3.2.1, o3.2.2⟩ : T_Codes) 8) fun r10 => some (decide (r10.2 < 7), r10.1.L, r10.1.At, s2.2.2.1)) else (some (false, o3.2.1, o3.2.2, s2.2.2.1))) else (some (false, o3.2.1, o3.2.2, s2.2.2.1)) : Option (Bool × List Int × Int × List T_Installed))) fun o6 => bif o6.1 then (some (1, o6.2.1, o6.2.2.1, o6.2.2.2)) else (some (o3.1, o6.2.1, o6.2.2.1, o6.2.2.2)) : Option (Int × List Int × Int × List T_Installed))) fun o5 => bif (r5.2 != r6.2) then (bnd (app 80 s2.2.2.2.1 [(⟨x3.Name, (⟨IntKind.wrap .i64 (1 + r7.2), 0, 0⟩ : T_Version), x4.Name, (⟨o5.1, 0, 0⟩ : T_Version)⟩ : T_Need)]) fun l4 => some (.next (IntKind.wrap .i64 (s2.1 - 1), s2.2.1, o5.2.2.2, l4, o5.2.1, o5.2.2.1))) else (some (.next (IntKind.wrap .i64 (s2.1 - 1), s2.2.1, o5.2.2.2, s2.2.2.2.1, o5.2.1, o5.2.2.1)))) else (some (.done (s2.2.1, s2.2.2.1, s2.2.2.2.1, s2.2.2.2.2.1, s2.2.2.2.2.2)))) (r4.2, o1.1, o1.2.1, [], r4.1.L, r4.1.At)) fun o2 => bnd (m_field_Codes_Next (⟨o2.2.2.2.1, o2.2.2.2.2⟩ : T_Codes) 3) fun r11 => bif (r11.2 == 2) then (some (r11.1, (⟨o2.2.1, o2.1, o2.2.2.1⟩ : T_Plan))) else (some (r11.1, (⟨o2.1, o2.2.1, o2.2.2.1⟩ : T_Plan)))

set_option maxHeartbeats 4000000 in
theorem c_field_Codes_Plan {c_p0 : T_Codes} {A1 : Option Addr} {c1 : Nat} {gb1 : Nat} {r : (T_Codes × T_Plan)} (h : m_field_Codes_Plan c_p0 = some r) :
    Fun Try.prog 14 [.pointer (some ⟨gb1, 0, none⟩)] [.ro (SlL eu8 A1 c1 c_p0.L), .res (Box gb1 69 [.slice A1 c_p0.L.length c1, .int .i64 c_p0.At])] (fun v_ F_ => ∃ (A1 : Option Addr) (c1 : Nat) (A2 : Option Addr) (c2 : Nat) (A3 : Option Addr) (c3 : Nat) (A4 : Option Addr) (c4 : Nat), v_ = .agg #[.slice A2 r.2.Now.length c2, .slice A3 r.2.Next.length c3, .slice A4 r.2.Needs.length c4] ∧ F_ = [.ro (SlL eu8 A1 c1 r.1.L), .ro (SlL e_Installed A2 c2 r.2.Now), .ro (SlL e_Installed A3 c3 r.2.Next), .ro (SlL e_Need A4 c4 r.2.Needs), .res (Box gb1 69 [.slice A1 r.1.L.length c1, .int .i64 r.1.At])]) := by
  unfold m_field_Codes_Plan at h
  refine Fun.intro Try.func14 rfl rfl rfl fun w R => ?_
  refine St.seq ?_
  refine St.region ?_
  refine St.alloc rfl rfl fun g1 => ?_
  refine St.done ?_
  refine St.thenN ?_
  refine St.seq ?_
  refine St.region ?_
  refine St.alloc rfl rfl fun g2 => ?_
  refine St.done ?_
  refine St.thenN ?_
  refine St.seq ?_
  refine St.seq ?_
  refine St.region ?_
  obtain ⟨r1, hr1, h⟩ := bnd_e h
  refine St.call (c_field_names hr1) ent37 rfl rfl rfl (fun _ w => w) ?_
  rintro _ _ ⟨A2, c2, rfl, rfl⟩
  refine St.asrt (F' := .res (OwnL estr 9 A2 c2 r1) :: .res (Box g2 29 [.slice none 0 0, .slice none 0 0, .slice none 0 0]) :: .res (Box g1 29 [.slice none 0 0, .slice none 0 0, .slice none 0 0]) :: .ro (SlL eu8 A1 c1 c_p0.L) :: .res (Box gb1 69 [.slice A1 c_p0.L.length c1, .int .i64 c_p0.At]) :: R) (fun _ w => w) ?_
  refine St.p rfl rfl ?_
  obtain ⟨r2, hr2, h⟩ := bnd_e h
  refine St.call (c_field_Codes_Next hr2) ent26 rfl rfl rfl (fun _ w => Sat.dup (G := [.ro (SlL eu8 A1 c1 c_p0.L)]) rfl ⟨(.tail _ (.tail _ (.tail _ (.tail _ (.head _))))), trivial⟩ (w.front (.s (.s (.s (.s .z)))))) ?_
  rintro _ _ ⟨A3, c3, rfl, rfl⟩
  refine St.asrt (F' := .ro (SlL eu8 A3 c3 r2.1.L) :: .res (Box gb1 69 [.slice A3 r2.1.L.length c3, .int .i64 r2.1.At]) :: .res (OwnL estr 9 A2 c2 r1) :: .res (Box g2 29 [.slice none 0 0, .slice none 0 0, .slice none 0 0]) :: .res (Box g1 29 [.slice none 0 0, .slice none 0 0, .slice none 0 0]) :: .ro (SlL eu8 A1 c1 c_p0.L) :: R) (fun _ w => w) ?_
  refine St.p rfl rfl ?_
  refine St.asrt (fun _ w => (w.front (.s (.s .z))).meltL) ?_
  obtain ⟨l1, hl1, h⟩ := bnd_e h
  refine St.sub (E := (cod estr)) rfl rfl (.head _) rfl rfl rfl rfl rfl rfl rfl hl1 fun A4 c4 => ?_
  refine St.p rfl rfl ?_
  refine St.p rfl rfl ?_
  refine St.done ?_
  refine St.thenN ?_
  refine St.prune (Γ' := [(0, _), (2, _), (3, _), (14, _), (15, _), (16, _)]) ⟨rfl, rfl, rfl, rfl, rfl, rfl, trivial⟩ (.k (.d (.k (.k (.k (.k (.d .z))))))) ?_
  refine St.asrt (fun _ w => w.nilL e_Installed 31) ?_
  refine St.asrt (fun _ w => w.nilL e_Installed 31) ?_
  obtain ⟨o1, hl1, h⟩ := bnd_e h
  refine St.cutE (fun (e2 : Option Addr × Nat × Option Addr × Nat × Option Addr × Nat) => [(0, .pointer (some ⟨gb1, 0, none⟩)), (2, .pointer (some ⟨g1, 0, none⟩)), (3, .pointer (some ⟨g2, 0, none⟩))]) (fun e2 => .ro (SlL eu8 e2.2.2.2.2.1 e2.2.2.2.2.2 o1.2.2.1) :: .res (OwnL e_Installed 31 e2.2.2.1 e2.2.2.2.1 o1.2.1) :: .res (OwnL e_Installed 31 e2.1 e2.2.1 o1.1) :: .res (Box gb1 69 [.slice e2.2.2.2.2.1 o1.2.2.1.length e2.2.2.2.2.2, .int .i64 o1.2.2.2]) :: .res (Box g2 29 [.slice e2.1 o1.1.length e2.2.1, .slice e2.2.2.1 o1.2.1.length e2.2.2.2.1, .slice none 0 0]) :: .res (Box g1 29 [.slice none 0 0, .slice none 0 0, .slice none 0 0]) :: R) ?_ ?_
  · refine St.block ?_
    refine St.loop hl1 (fun (s1 : Int × List T_Installed × List T_Installed × List Int × Int) (e1 : Option Addr × Nat × Option Addr × Nat × Option Addr × Nat) => [(0, .pointer (some ⟨gb1, 0, none⟩)), (2, .pointer (some ⟨g1, 0, none⟩)), (3, .pointer (some ⟨g2, 0, none⟩)), (14, .slice A4 l1.length c4), (15, .int .i64 (l1.length : Int)), (16, .int .i64 s1.1)]) (fun s1 e1 => .ro (SlL eu8 e1.2.2.2.2.1 e1.2.2.2.2.2 s1.2.2.2.1) :: .res (OwnL e_Installed 31 e1.2.2.1 e1.2.2.2.1 s1.2.2.1) :: .res (OwnL e_Installed 31 e1.1 e1.2.1 s1.2.1) :: .ro (SlL estr A4 c4 l1) :: .res (Box gb1 69 [.slice e1.2.2.2.2.1 s1.2.2.2.1.length e1.2.2.2.2.2, .int .i64 s1.2.2.2.2]) :: .res (Box g2 29 [.slice e1.1 s1.2.1.length e1.2.1, .slice e1.2.2.1 s1.2.2.1.length e1.2.2.2.1, .slice none 0 0]) :: .res (Box g1 29 [.slice none 0 0, .slice none 0 0, .slice none 0 0]) :: R) (fun _ _ => True) (none, 0, none, 0, A3, c3) trivial ⟨rfl, rfl, rfl, rfl, rfl, rfl, trivial⟩ (fun _ w => ((.k (.k (.k (.k (.k (.k (.k .z))))))) : Keep _ _).sat (((((((w.front (.s (.s (.s (.s (.s (.s .z))))))).front (.s (.s (.s (.s (.s (.s .z))))))).front (.s (.s (.s (.s (.s (.s .z))))))).front (.s (.s (.s (.s (.s .z)))))).front (.s (.s (.s (.s .z))))).front (.s (.s (.s (.s (.s .z)))))).front (.s (.s (.s (.s (.s (.s .z)))))))) ?_
    rintro s1 ⟨A5, c5, A6, c6, A7, c7⟩ - hit1
    obtain ⟨st1, hm1, hd1⟩ := iter_e hit1
    have h1 := hm1
    refine St.seq ?_
    refine St.region ?_
    refine St.p rfl rfl ?_
    refine St.done ?_
    refine St.thenN ?_
    refine St.seq ?_
    refine St.cond _ rfl (fun hb1 => ?_) (fun hb1 => ?_)
    · replace h1 := bif_t hb1 h1
      refine St.skip ?_
      refine St.thenN ?_
      refine St.prune (Γ' := [(0, _), (2, _), (3, _), (14, _), (15, _), (16, _)]) ⟨rfl, rfl, rfl, rfl, rfl, rfl, trivial⟩ (.k (.k (.k (.k (.k (.k (.k .z))))))) ?_
      refine St.seq ?_
      refine St.block ?_
      refine St.seq ?_
      refine St.region ?_
      obtain ⟨x1, hx1, h1⟩ := bnd_e h1
      refine St.ixL hx1 rfl rfl rfl (.tail _ (.tail _ (.tail _ (.head _)))) rfl rfl rfl rfl rfl fun b1 ob1 => ?_
      refine St.load ob1 0 rfl rfl (.head _) rfl rfl ?_
      refine St.p rfl rfl ?_
      refine St.done ?_
      refine St.thenN ?_
      refine St.prune (Γ' := [(0, _), (2, _), (3, _), (5, _), (14, _), (15, _), (16, _)]) ⟨rfl, rfl, rfl, rfl, rfl, rfl, rfl, trivial⟩ (.d (.k (.k (.k (.k (.k (.k (.k .z)))))))) ?_
      refine St.seq ?_
      refine St.region ?_
      refine St.p rfl rfl ?_
      refine St.loadB 0 rfl rfl (.tail _ (.tail _ (.tail _ (.tail _ (.tail _ (.head _)))))) rfl rfl ?_
      iterate 3 refine St.p rfl rfl ?_
      refine St.buildSlice rfl rfl rfl rfl rfl rfl rfl rfl fun g3 => ?_
      obtain ⟨l2, hl2, h1⟩ := bnd_e h1
      refine St.app (E := e_Installed) hl2 rfl rfl rfl (.s (.s (.s .z))) rfl rfl rfl rfl rfl rfl rfl rfl (srcB (.head _) rfl rfl) rfl rfl fun A11 c11 => ?_
      refine St.p rfl rfl ?_
      refine St.store 0 rfl rfl rfl rfl rfl rfl (.s (.s (.s (.s (.s (.s .z)))))) rfl ?_
      refine St.done ?_
      refine St.thenN ?_
      refine St.prune (Γ' := [(0, _), (2, _), (3, _), (5, _), (14, _), (15, _), (16, _)]) ⟨rfl, rfl, rfl, rfl, rfl, rfl, rfl, trivial⟩ (.k (.k (.d (.k (.k (.k (.k (.k .z)))))))) ?_
      obtain ⟨r3, hr3, h1⟩ := bnd_e h1
      obtain ⟨l3, hl3, h1⟩ := bnd_e h1
      refine St.regionX (iL [(.fl, 0), (.fl, 2), (.fl, 3)] (.alt (iL [(.ef, 1)] (iL [(.ef, 4), (.fl, 5), (.fl, 6), (.fl, 7), (.fl, 8), (.fl, 9)] (iL [(.ef, 10)] (iL [(.ef, 11), (.fl, 12)] (iL [(.ef, 13)] .nil))))) (iL [(.ef, 4), (.fl, 5), (.fl, 6), (.fl, 7), (.fl, 8), (.fl, 9)] (.alt (iL [(.ef, 1)] (iL [(.ef, 10)] (iL [(.ef, 11), (.fl, 12)] (iL [(.ef, 13)] .nil)))) (iL [(.ef, 10)] (iL [(.ef, 1)] (iL [(.ef, 11), (.fl, 12)] (iL [(.ef, 13)] .nil)))))))) (.res (OwnL e_Installed 31 A11 c11 l2) :: .ro (SlL eu8 A7 c7 s1.2.2.2.1) :: .ro (SlL estr A4 c4 l1) :: .res (Box g1 29 [.slice none 0 0, .slice none 0 0, .slice none 0 0]) :: R) mixed (by kernel_rfl) (fun _ w => ((.d (.k (.k (.d (.k (.d (.k .z))))))) : Keep _ _).sat w) ?_
      refine St.share (Y := ?Ynd1_0) (fun (e : Nat × Option Addr × Nat) => [(0, .pointer (some ⟨gb1, 0, none⟩)), (2, .pointer (some ⟨g1, 0, none⟩)), (3, .pointer (some ⟨g2, 0, none⟩)), (5, .string x1), (14, .slice A4 l1.length c4), (15, .int .i64 (l1.length : Int)), (16, .int .i64 s1.1), (28, .pointer (some ⟨g2, 1, none⟩)), (29, .slice A6 s1.2.2.1.length c6), (30, .string x1), (31, .pointer (some ⟨gb1, 0, none⟩)), (32, .int .i64 r3.2), (33, .int .i64 (IntKind.wrap .i64 (r3.2 + 2))), (34, .int .i64 (IntKind.wrap .i64 ((IntKind.wrap .i64 (r3.2 + 2)).tdiv 3))), (35, .int .i64 (IntKind.wrap .i64 (1 + (IntKind.wrap .i64 ((IntKind.wrap .i64 (r3.2 + 2)).tdiv 3))))), (36, .agg #[.int .i64 (IntKind.wrap .i64 (1 + (IntKind.wrap .i64 ((IntKind.wrap .i64 (r3.2 + 2)).tdiv 3)))), .int .i64 0, .int .i64 0]), (37, .agg #[.string x1, .int .i64 (IntKind.wrap .i64 (1 + (IntKind.wrap .i64 ((IntKind.wrap .i64 (r3.2 + 2)).tdiv 3)))), .int .i64 0, .int .i64 0]), (38, .slice (some ⟨e.1, 0, none⟩) 1 1)]) (fun e => .res (Box e.1 31 [.string x1, .int .i64 (IntKind.wrap .i64 (1 + (IntKind.wrap .i64 ((IntKind.wrap .i64 (r3.2 + 2)).tdiv 3)))), .int .i64 0, .int .i64 0]) :: .ro (SlL eu8 e.2.1 e.2.2 r3.1.L) :: .res (Box gb1 69 [.slice e.2.1 r3.1.L.length e.2.2, .int .i64 r3.1.At]) :: .res (Box g2 29 [.slice A11 l2.length c11, .slice A6 s1.2.2.1.length c6, .slice none 0 0]) :: .res (OwnL e_Installed 31 A11 c11 l2) :: .ro (SlL eu8 A7 c7 s1.2.2.2.1) :: .res (OwnL e_Installed 31 A6 c6 s1.2.2.1) :: .ro (SlL estr A4 c4 l1) :: .res (Box g1 29 [.slice none 0 0, .slice none 0 0, .slice none 0 0]) :: R) (fun hnd1_0 => ?mnd1_0) ?tnd1_0
      case mnd1_0 =>
        refine St.share (Y := ?Ynd1_1) (fun (e : Option Addr × Nat) => [(0, .pointer (some ⟨gb1, 0, none⟩)), (2, .pointer (some ⟨g1, 0, none⟩)), (3, .pointer (some ⟨g2, 0, none⟩)), (5, .string x1), (14, .slice A4 l1.length c4), (15, .int .i64 (l1.length : Int)), (16, .int .i64 s1.1), (28, .pointer (some ⟨g2, 1, none⟩)), (29, .slice A6 s1.2.2.1.length c6), (30, .string x1), (31, .pointer (some ⟨gb1, 0, none⟩)), (32, .int .i64 r3.2), (33, .int .i64 (IntKind.wrap .i64 (r3.2 + 2))), (34, .int .i64 (IntKind.wrap .i64 ((IntKind.wrap .i64 (r3.2 + 2)).tdiv 3))), (35, .int .i64 (IntKind.wrap .i64 (1 + (IntKind.wrap .i64 ((IntKind.wrap .i64 (r3.2 + 2)).tdiv 3))))), (36, .agg #[.int .i64 (IntKind.wrap .i64 (1 + (IntKind.wrap .i64 ((IntKind.wrap .i64 (r3.2 + 2)).tdiv 3)))), .int .i64 0, .int .i64 0]), (37, .agg #[.string x1, .int .i64 (IntKind.wrap .i64 (1 + (IntKind.wrap .i64 ((IntKind.wrap .i64 (r3.2 + 2)).tdiv 3)))), .int .i64 0, .int .i64 0])]) (fun e => .ro (SlL eu8 e.1 e.2 r3.1.L) :: .res (Box gb1 69 [.slice e.1 r3.1.L.length e.2, .int .i64 r3.1.At]) :: .res (Box g2 29 [.slice A11 l2.length c11, .slice A6 s1.2.2.1.length c6, .slice none 0 0]) :: .res (OwnL e_Installed 31 A11 c11 l2) :: .ro (SlL eu8 A7 c7 s1.2.2.2.1) :: .res (OwnL e_Installed 31 A6 c6 s1.2.2.1) :: .ro (SlL estr A4 c4 l1) :: .res (Box g1 29 [.slice none 0 0, .slice none 0 0, .slice none 0 0]) :: R) (fun hnd1_1 => ?mnd1_1) ?tnd1_1
        case mnd1_1 =>
          refine St.xfl (fun _ h => h) (Rd.p rfl) rfl ?_
          refine St.xfl (fun _ h => h) (Rd.p rfl) rfl ?_
          refine St.xfl (fun _ h => h) (Rd.p rfl) rfl ?_
          refine St.xalt ?_ ?_
          · refine St.xef ?_
            refine St.loadB 1 rfl rfl (.head _) rfl rfl ?_
            refine St.xk (fun _ w => ((.d (.k (.k (.d (.k (.d (.k .z))))))) : Keep _ _).sat w) ?_
            refine St.xef ?_
            refine St.call (c_field_Codes_Next hr3) ent26 rfl rfl rfl (fun _ w => Sat.dup (G := [.ro (SlL eu8 A7 c7 s1.2.2.2.1)]) rfl ⟨(.tail _ (.tail _ (.tail _ (.head _)))), trivial⟩ (w.front (.s (.s (.s (.s (.s .z))))))) ?_
            rintro _ _ ⟨A12, c12, rfl, rfl⟩
            refine St.asrt (F' := .ro (SlL eu8 A12 c12 r3.1.L) :: .res (Box gb1 69 [.slice A12 r3.1.L.length c12, .int .i64 r3.1.At]) :: .res (Box g2 29 [.slice A11 l2.length c11, .slice A6 s1.2.2.1.length c6, .slice none 0 0]) :: .res (OwnL e_Installed 31 A11 c11 l2) :: .ro (SlL eu8 A7 c7 s1.2.2.2.1) :: .res (OwnL e_Installed 31 A6 c6 s1.2.2.1) :: .ro (SlL estr A4 c4 l1) :: .res (Box g1 29 [.slice none 0 0, .slice none 0 0, .slice none 0 0]) :: R) (fun _ w => w) ?_
            refine St.xk (fun _ w => ((.d (.d (.d (.k (.k (.d (.k (.k .z)))))))) : Keep _ _).sat w) ?_
            refine St.xfl (fun _ h => h) (Rd.p rfl) rfl ?_
            refine St.xfl (fun _ h => h) (Rd.p rfl) rfl ?_
            refine St.xfl (fun _ h => h) (Rd.p rfl) rfl ?_
            refine St.xfl (fun _ h => h) (Rd.p rfl) rfl ?_
            refine St.xfl (fun _ h => h) (Rd.p rfl) rfl ?_
            refine hnd1_1 _ _ (A12, c12) ?_ ?_
            · exact ⟨rfl, rfl, rfl, rfl, rfl, rfl, rfl, rfl, rfl, rfl, rfl, rfl, rfl, rfl, rfl, rfl, rfl, trivial⟩
            · exact fun _ w => ((.k (.k (.k (.k (.k (.k (.k (.k .z)))))))) : Keep _ _).sat w
          · refine St.xef ?_
            refine St.call (c_field_Codes_Next hr3) ent26 rfl rfl rfl (fun _ w => Sat.dup (G := [.ro (SlL eu8 A7 c7 s1.2.2.2.1)]) rfl ⟨(.tail _ (.tail _ (.tail _ (.head _)))), trivial⟩ (w.front (.s (.s (.s (.s (.s .z))))))) ?_
            rintro _ _ ⟨A12, c12, rfl, rfl⟩
            refine St.asrt (F' := .ro (SlL eu8 A12 c12 r3.1.L) :: .res (Box gb1 69 [.slice A12 r3.1.L.length c12, .int .i64 r3.1.At]) :: .res (Box g2 29 [.slice A11 l2.length c11, .slice A6 s1.2.2.1.length c6, .slice none 0 0]) :: .res (OwnL e_Installed 31 A11 c11 l2) :: .ro (SlL eu8 A7 c7 s1.2.2.2.1) :: .res (OwnL e_Installed 31 A6 c6 s1.2.2.1) :: .ro (SlL estr A4 c4 l1) :: .res (Box g1 29 [.slice none 0 0, .slice none 0 0, .slice none 0 0]) :: R) (fun _ w => w) ?_
            refine St.xk (fun _ w => ((.d (.d (.d (.k (.k (.d (.k (.k .z)))))))) : Keep _ _).sat w) ?_
            refine St.xfl (fun _ h => h) (Rd.p rfl) rfl ?_
            refine St.xfl (fun _ h => h) (Rd.p rfl) rfl ?_
            refine St.xfl (fun _ h => h) (Rd.p rfl) rfl ?_
            refine St.xfl (fun _ h => h) (Rd.p rfl) rfl ?_
            refine St.xfl (fun _ h => h) (Rd.p rfl) rfl ?_
            refine St.xalt ?_ ?_
            · refine St.xef ?_
              refine St.loadB 1 rfl rfl (.tail _ (.tail _ (.head _))) rfl rfl ?_
              refine St.xk (fun _ w => ((.d (.d (.d (.k (.k (.d (.k (.k .z)))))))) : Keep _ _).sat w) ?_
              refine hnd1_1 _ _ (A12, c12) ?_ ?_
              · exact ⟨rfl, rfl, rfl, rfl, rfl, rfl, rfl, rfl, rfl, rfl, rfl, rfl, rfl, rfl, rfl, rfl, rfl, trivial⟩
              · exact fun _ w => ((.k (.k (.k (.k (.k (.k (.k (.k .z)))))))) : Keep _ _).sat w
            · refine St.xef ?_
              refine St.buildSlice rfl rfl rfl rfl rfl rfl rfl rfl fun g4 => ?_
              refine St.xk (fun _ w => ((.d (.d (.d (.d (.k (.k (.d (.k (.k .z))))))))) : Keep _ _).sat w) ?_
              refine St.xef ?_
              refine St.loadB 1 rfl rfl (.tail _ (.tail _ (.tail _ (.head _)))) rfl rfl ?_
              refine St.xk (fun _ w => ((.d (.d (.d (.d (.k (.k (.d (.k (.k .z))))))))) : Keep _ _).sat w) ?_
              refine hnd1_0 _ _ (g4, A12, c12) ?_ ?_
              · exact ⟨rfl, rfl, rfl, rfl, rfl, rfl, rfl, rfl, rfl, rfl, rfl, rfl, rfl, rfl, rfl, rfl, rfl, rfl, trivial⟩
              · exact fun _ w => ((.k (.k (.k (.k (.k (.k (.k (.k (.k .z))))))))) : Keep _ _).sat w
        case tnd1_1 =>
          rintro ⟨A12, c12⟩
          refine St.asrt (F' := .ro (SlL eu8 A12 c12 r3.1.L) :: .res (Box gb1 69 [.slice A12 r3.1.L.length c12, .int .i64 r3.1.At]) :: .res (Box g2 29 [.slice A11 l2.length c11, .slice A6 s1.2.2.1.length c6, .slice none 0 0]) :: .res (OwnL e_Installed 31 A11 c11 l2) :: .ro (SlL eu8 A7 c7 s1.2.2.2.1) :: .res (OwnL e_Installed 31 A6 c6 s1.2.2.1) :: .ro (SlL estr A4 c4 l1) :: .res (Box g1 29 [.slice none 0 0, .slice none 0 0, .slice none 0 0]) :: R) (fun _ w => w) ?_
          refine St.xef ?_
          refine St.buildSlice rfl rfl rfl rfl rfl rfl rfl rfl fun g4 => ?_
          refine St.xk (fun _ w => ((.d (.d (.d (.d (.k (.k (.d (.k (.k .z))))))))) : Keep _ _).sat w) ?_
          refine hnd1_0 _ _ (g4, A12, c12) ?_ ?_
          · exact ⟨rfl, rfl, rfl, rfl, rfl, rfl, rfl, rfl, rfl, rfl, rfl, rfl, rfl, rfl, rfl, rfl, rfl, rfl, trivial⟩
          · exact fun _ w => ((.k (.k (.k (.k (.k (.k (.k (.k (.k .z))))))))) : Keep _ _).sat w
      case tnd1_0 =>
        rintro ⟨g4, A12, c12⟩
        refine St.asrt (F' := .res (Box g4 31 [.string x1, .int .i64 (IntKind.wrap .i64 (1 + (IntKind.wrap .i64 ((IntKind.wrap .i64 (r3.2 + 2)).tdiv 3)))), .int .i64 0, .int .i64 0]) :: .ro (SlL eu8 A12 c12 r3.1.L) :: .res (Box gb1 69 [.slice A12 r3.1.L.length c12, .int .i64 r3.1.At]) :: .res (Box g2 29 [.slice A11 l2.length c11, .slice A6 s1.2.2.1.length c6, .slice none 0 0]) :: .res (OwnL e_Installed 31 A11 c11 l2) :: .ro (SlL eu8 A7 c7 s1.2.2.2.1) :: .res (OwnL e_Installed 31 A6 c6 s1.2.2.1) :: .ro (SlL estr A4 c4 l1) :: .res (Box g1 29 [.slice none 0 0, .slice none 0 0, .slice none 0 0]) :: R) (fun _ w => w) ?_
        refine St.xef ?_
        refine St.app (E := e_Installed) hl3 rfl rfl rfl (.s (.s (.s (.s (.s (.s .z)))))) rfl rfl rfl rfl rfl rfl rfl rfl (srcB (.head _) rfl rfl) rfl rfl fun A13 c13 => ?_
        refine St.xk (fun _ w => ((.d (.d (.d (.d (.d (.k (.k (.k (.k .z))))))))) : Keep _ _).sat w) ?_
        refine St.xfl (fun _ h => h) (Rd.p rfl) rfl ?_
        refine St.xef ?_
        refine St.store 1 rfl rfl rfl rfl rfl rfl (.s (.s (.s (.s .z)))) rfl ?_
        refine St.xk (fun _ w => ((.d (.d (.d (.d (.d (.k (.k (.k (.k .z))))))))) : Keep _ _).sat w) ?_
        refine St.xdone ?_
        refine St.blkN ?_
        refine St.thenN ?_
        refine St.prune (Γ' := [(0, _), (2, _), (3, _), (14, _), (15, _), (16, _)]) ⟨rfl, rfl, rfl, rfl, rfl, rfl, trivial⟩ (.k (.k (.d (.k (.k (.k (.d (.k (.k .z))))))))) ?_
        refine St.region ?_
        refine St.p rfl rfl ?_
        refine St.p rfl rfl ?_
        refine St.done ?_
        injection h1 with h1
        subst h1
        refine St.thenN ?_
        exact St.again _ (A11, c11, A13, c13, A12, c12) hm1 trivial ⟨rfl, rfl, rfl, rfl, rfl, rfl, trivial⟩ (fun _ w => ((.k (.k (.k (.k (.k (.k (.k .z))))))) : Keep _ _).sat (((((((w.front (.s (.s (.s (.s (.s (.s .z))))))).front (.s .z)).front (.s (.s (.s (.s .z))))).front (.s (.s (.s (.s (.s (.s .z))))))).front (.s (.s (.s (.s (.s (.s .z))))))).front (.s (.s (.s (.s (.s .z)))))).front (.s (.s (.s (.s (.s (.s .z))))))))
    · replace h1 := bif_f hb1 h1
      refine St.exit ?_
      repeat (first | refine St.thenX ?_ | refine St.blkMiss rfl ?_)
      refine St.blkHit ?_
      injection h1 with h1
      subst h1
      have ho := hd1 _ rfl
      subst ho
      refine St.thenN ?_
      exact St.hereE (A5, c5, A6, c6, A7, c7) ⟨rfl, rfl, rfl, trivial⟩ (fun _ w => ((.k (.k (.k (.d (.k (.k (.k .z))))))) : Keep _ _).sat w)
  · rintro ⟨A8, c8, A9, c9, A10, c10⟩
    refine St.seq ?_
    refine St.seq ?_
    refine St.region ?_
    refine St.p rfl rfl ?_
    obtain ⟨r4, hr4, h⟩ := bnd_e h
    refine St.call (c_field_Codes_Next hr4) ent26 rfl rfl rfl (fun _ w => Sat.dup (G := [.ro (SlL eu8 A10 c10 o1.2.2.1)]) rfl ⟨(.tail _ (.head _)), trivial⟩ (w.front (.s (.s (.s .z))))) ?_
    rintro _ _ ⟨A14, c14, rfl, rfl⟩
    refine St.asrt (F' := .ro (SlL eu8 A14 c14 r4.1.L) :: .res (Box gb1 69 [.slice A14 r4.1.L.length c14, .int .i64 r4.1.At]) :: .ro (SlL eu8 A10 c10 o1.2.2.1) :: .res (OwnL e_Installed 31 A9 c9 o1.2.1) :: .res (OwnL e_Installed 31 A8 c8 o1.1) :: .res (Box g2 29 [.slice A8 o1.1.length c8, .slice A9 o1.2.1.length c9, .slice none 0 0]) :: .res (Box g1 29 [.slice none 0 0, .slice none 0 0, .slice none 0 0]) :: R) (fun _ w => w) ?_
    refine St.p rfl rfl ?_
    refine St.done ?_
    refine St.thenN ?_
    refine St.prune (Γ' := [(0, _), (2, _), (3, _), (6, _)]) ⟨rfl, rfl, rfl, rfl, trivial⟩ (.k (.k (.d (.k (.k (.k (.k .z))))))) ?_
    refine St.asrt (fun _ w => w.nilL e_Need 33) ?_
    obtain ⟨o2, hl2, h⟩ := bnd_e h
    refine St.cutE (fun (e4 : Option Addr × Nat × Option Addr × Nat × Option Addr × Nat × Option Addr × Nat) => [(0, .pointer (some ⟨gb1, 0, none⟩)), (2, .pointer (some ⟨g1, 0, none⟩)), (3, .pointer (some ⟨g2, 0, none⟩))]) (fun e4 => .ro (SlL eu8 e4.2.2.2.2.2.2.1 e4.2.2.2.2.2.2.2 o2.2.2.2.1) :: .res (OwnL e_Need 33 e4.2.2.2.2.1 e4.2.2.2.2.2.1 o2.2.2.1) :: .res (OwnL e_Installed 31 e4.2.2.1 e4.2.2.2.1 o2.2.1) :: .res (OwnL e_Installed 31 e4.1 e4.2.1 o2.1) :: .res (Box gb1 69 [.slice e4.2.2.2.2.2.2.1 o2.2.2.2.1.length e4.2.2.2.2.2.2.2, .int .i64 o2.2.2.2.2]) :: .res (Box g2 29 [.slice e4.1 o2.1.length e4.2.1, .slice e4.2.2.1 o2.2.1.length e4.2.2.2.1, .slice e4.2.2.2.2.1 o2.2.2.1.length e4.2.2.2.2.2.1]) :: .res (Box g1 29 [.slice none 0 0, .slice none 0 0, .slice none 0 0]) :: R) ?_ ?_
    · refine St.block ?_
      refine St.loop hl2 (fun (s2 : Int × List T_Installed × List T_Installed × List T_Need × List Int × Int) (e3 : Option Addr × Nat × Option Addr × Nat × Option Addr × Nat × Option Addr × Nat) => [(0, .pointer (some ⟨gb1, 0, none⟩)), (2, .pointer (some ⟨g1, 0, none⟩)), (3, .pointer (some ⟨g2, 0, none⟩)), (6, .int .i64 s2.1)]) (fun s2 e3 => .ro (SlL eu8 e3.2.2.2.2.2.2.1 e3.2.2.2.2.2.2.2 s2.2.2.2.2.1) :: .res (OwnL e_Need 33 e3.2.2.2.2.1 e3.2.2.2.2.2.1 s2.2.2.2.1) :: .res (OwnL e_Installed 31 e3.2.2.1 e3.2.2.2.1 s2.2.2.1) :: .res (OwnL e_Installed 31 e3.1 e3.2.1 s2.2.1) :: .res (Box gb1 69 [.slice e3.2.2.2.2.2.2.1 s2.2.2.2.2.1.length e3.2.2.2.2.2.2.2, .int .i64 s2.2.2.2.2.2]) :: .res (Box g2 29 [.slice e3.1 s2.2.1.length e3.2.1, .slice e3.2.2.1 s2.2.2.1.length e3.2.2.2.1, .slice e3.2.2.2.2.1 s2.2.2.2.1.length e3.2.2.2.2.2.1]) :: .res (Box g1 29 [.slice none 0 0, .slice none 0 0, .slice none 0 0]) :: R) (fun _ _ => True) (A8, c8, A9, c9, none, 0, A14, c14) trivial ⟨rfl, rfl, rfl, rfl, trivial⟩ (fun _ w => ((.k (.k (.k (.k (.k (.k (.k .z))))))) : Keep _ _).sat (((((((w.front (.s (.s (.s (.s (.s (.s .z))))))).front (.s (.s (.s (.s (.s (.s .z))))))).front (.s (.s (.s (.s .z))))).front (.s (.s (.s (.s (.s (.s .z))))))).front (.s (.s (.s (.s (.s (.s .z))))))).front (.s (.s (.s (.s (.s .z)))))).front (.s (.s (.s (.s (.s (.s .z)))))))) ?_
      rintro s2 ⟨A15, c15, A16, c16, A17, c17, A18, c18⟩ - hit2
      obtain ⟨st2, hm2, hd2⟩ := iter_e hit2
      have h2 := hm2
      refine St.seq ?_
      refine St.seq ?_
      refine St.region ?_
      refine St.p rfl rfl ?_
      refine St.p rfl rfl ?_
      refine St.done ?_
      refine St.thenN ?_
      refine St.prune (Γ' := [(0, _), (2, _), (3, _), (6, _), (45, _)]) ⟨rfl, rfl, rfl, rfl, rfl, trivial⟩ (.k (.k (.k (.k (.k (.k (.k .z))))))) ?_
      refine St.cond _ rfl (fun hb2 => ?_) (fun hb2 => ?_)
      · replace h2 := bif_t hb2 h2
        refine St.skip ?_
        refine St.thenN ?_
        refine St.prune (Γ' := [(0, _), (2, _), (3, _), (6, _)]) ⟨rfl, rfl, rfl, rfl, trivial⟩ (.k (.k (.k (.k (.k (.k (.k .z))))))) ?_
        refine St.seq ?_
        refine St.block ?_
        refine St.seq ?_
        refine St.regionX (iL [(.fl, 0), (.fl, 1), (.fx, 2), (.fl, 3), (.fl, 5), (.fl, 6), (.fl, 7), (.fl, 8), (.ef, 4), (.ef, 9), (.fl, 10), (.fl, 11)] .nil) (.ro (SlL eu8 A18 c18 s2.2.2.2.2.1) :: .res (OwnL e_Need 33 A17 c17 s2.2.2.2.1) :: .res (OwnL e_Installed 31 A16 c16 s2.2.2.1) :: .res (OwnL e_Installed 31 A15 c15 s2.2.1) :: .res (Box g2 29 [.slice A15 s2.2.1.length c15, .slice A16 s2.2.2.1.length c16, .slice A17 s2.2.2.2.1.length c17]) :: .res (Box g1 29 [.slice none 0 0, .slice none 0 0, .slice none 0 0]) :: R) mixed (by kernel_rfl) (fun _ w => ((.k (.k (.k (.k (.d (.k (.k .z))))))) : Keep _ _).sat w) ?_
        refine St.xfl (fun _ h => h) (Rd.p rfl) rfl ?_
        refine St.xfl (fun _ h => h) (Rd.p rfl) rfl ?_
        refine St.xfx (Rd.loadB 0 rfl (.tail _ (.tail _ (.tail _ (.tail _ (.tail _ (.head _)))))) rfl rfl) rfl ?_
        refine St.xfl (fun _ h => h) (Rd.p rfl) rfl ?_
        refine St.xfl (fun _ h => h) (Rd.p rfl) rfl ?_
        refine St.xfl (fun _ h => h) (Rd.p rfl) rfl ?_
        refine St.xfl (fun _ h => h) (Rd.loadB 0 rfl (.tail _ (.tail _ (.tail _ (.tail _ (.head _))))) rfl rfl) rfl ?_
        refine St.xfl (fun _ h => h) (Rd.p rfl) rfl ?_
        refine St.xef ?_
        obtain ⟨r5, hr5, h2⟩ := bnd_e h2
        refine St.call (c_field_Codes_Next hr5) ent26 rfl rfl rfl (fun _ w => Sat.dup (G := [.ro (SlL eu8 A18 c18 s2.2.2.2.2.1)]) rfl ⟨(.tail _ (.head _)), trivial⟩ (w.front (.s (.s (.s (.s .z)))))) ?_
        rintro _ _ ⟨A23, c23, rfl, rfl⟩
        refine St.asrt (F' := .ro (SlL eu8 A23 c23 r5.1.L) :: .res (Box gb1 69 [.slice A23 r5.1.L.length c23, .int .i64 r5.1.At]) :: .ro (SlL eu8 A18 c18 s2.2.2.2.2.1) :: .res (OwnL e_Need 33 A17 c17 s2.2.2.2.1) :: .res (OwnL e_Installed 31 A16 c16 s2.2.2.1) :: .res (OwnL e_Installed 31 A15 c15 s2.2.1) :: .res (Box g2 29 [.slice A15 s2.2.1.length c15, .slice A16 s2.2.2.1.length c16, .slice A17 s2.2.2.2.1.length c17]) :: .res (Box g1 29 [.slice none 0 0, .slice none 0 0, .slice none 0 0]) :: R) (fun _ w => w) ?_
        refine St.xk (fun _ w => ((.d (.d (.k (.k (.k (.k (.k (.k .z)))))))) : Keep _ _).sat w) ?_
        refine St.xef ?_
        obtain ⟨r6, hr6, h2⟩ := bnd_e h2
        refine St.call (c_field_Codes_Next hr6) ent26 rfl rfl rfl (fun _ w => Sat.dup (G := [.ro (SlL eu8 A23 c23 r5.1.L)]) rfl ⟨(.tail _ (.head _)), trivial⟩ (w.front (.s .z))) ?_
        rintro _ _ ⟨A24, c24, rfl, rfl⟩
        refine St.asrt (F' := .ro (SlL eu8 A24 c24 r6.1.L) :: .res (Box gb1 69 [.slice A24 r6.1.L.length c24, .int .i64 r6.1.At]) :: .ro (SlL eu8 A23 c23 r5.1.L) :: .ro (SlL eu8 A18 c18 s2.2.2.2.2.1) :: .res (OwnL e_Need 33 A17 c17 s2.2.2.2.1) :: .res (OwnL e_Installed 31 A16 c16 s2.2.2.1) :: .res (OwnL e_Installed 31 A15 c15 s2.2.1) :: .res (Box g2 29 [.slice A15 s2.2.1.length c15, .slice A16 s2.2.2.1.length c16, .slice A17 s2.2.2.2.1.length c17]) :: .res (Box g1 29 [.slice none 0 0, .slice none 0 0, .slice none 0 0]) :: R) (fun _ w => w) ?_
        refine St.xk (fun _ w => ((.d (.d (.d (.k (.k (.k (.k (.k (.k .z))))))))) : Keep _ _).sat w) ?_
        refine St.xfl (fun _ h => h) (Rd.p rfl) rfl ?_
        refine St.xfl (fun _ h => h) (Rd.p rfl) rfl ?_
        refine St.xdone ?_
        refine St.thenN ?_
        refine St.prune (Γ' := [(0, _), (2, _), (3, _), (6, _), (7, _), (8, _)]) ⟨rfl, rfl, rfl, rfl, rfl, rfl, trivial⟩ (.k (.k (.d (.d (.k (.k (.k (.k (.k .z))))))))) ?_
        refine St.seq ?_
        obtain ⟨x2, hx2, h2⟩ := bnd_e h2
        refine St.openO (.tail _ (.tail _ (.tail _ (.tail _ (.head _))))) hx2 fun g5 hA => ?_
        subst hA
        obtain ⟨x3, hx3, h2⟩ := bnd_e h2
        obtain ⟨x4, hx4, h2⟩ := bnd_e h2
        obtain ⟨r7, hr7, h2⟩ := bnd_e h2
        obtain ⟨r8, hr8, h2⟩ := bnd_e h2
        refine St.regionX (iL [(.fl, 0), (.fl, 1), (.fl, 2), (.fl, 3), (.fl, 4), (.fl, 5), (.fl, 6), (.fl, 10), (.fl, 11), (.fl, 12), (.fl, 13), (.fl, 14), (.fl, 15), (.fl, 16)] (.alt (iL [(.ef, 7), (.fl, 8), (.fl, 9)] (.alt (iL [(.ef, 17), (.fl, 18), (.fl, 19), (.fl, 20)] (iL [(.ef, 21)] (iL [(.ef, 22)] .nil))) (iL [(.ef, 21)] (iL [(.ef, 17), (.fl, 18), (.fl, 19), (.fl, 20)] (iL [(.ef, 22)] .nil))))) (iL [(.ef, 21)] (iL [(.ef, 7), (.fl, 8), (.fl, 9)] (iL [(.ef, 17), (.fl, 18), (.fl, 19), (.fl, 20)] (iL [(.ef, 22)] .nil)))))) (.ro (SlL eu8 A24 c24 r6.1.L) :: .res (OwnL e_Need 33 A17 c17 s2.2.2.2.1) :: .res (OwnL e_Installed 31 A16 c16 s2.2.2.1) :: .res (OwnL e_Installed 31 (some ⟨g5, 0, none⟩) c15 s2.2.1) :: .res (Box g2 29 [.slice (some ⟨g5, 0, none⟩) s2.2.1.length c15, .slice A16 s2.2.2.1.length c16, .slice A17 s2.2.2.2.1.length c17]) :: .res (Box g1 29 [.slice none 0 0, .slice none 0 0, .slice none 0 0]) :: R) mixed (by kernel_rfl) (fun _ w => ((.k (.d (.k (.k (.k (.k (.k .z))))))) : Keep _ _).sat w) ?_
        refine St.share (Y := ?Ynd2_0) (fun (e : Nat × Option Addr × Nat × Option Addr × Nat) => [(0, .pointer (some ⟨gb1, 0, none⟩)), (2, .pointer (some ⟨g1, 0, none⟩)), (3, .pointer (some ⟨g2, 0, none⟩)), (6, .int .i64 s2.1), (7, .int .i64 r5.2), (8, .int .i64 r6.2), (9, .pointer (some ⟨e.1, 0, none⟩)), (58, .pointer (some ⟨g2, 0, none⟩)), (59, .slice (some ⟨g5, 0, none⟩) s2.2.1.length c15), (60, .int .i64 r5.2), (61, .pointer (some ⟨g5, Int.toNat r5.2 * 4, none⟩)), (62, .pointer (some ⟨g5, Int.toNat r5.2 * 4, none⟩)), (63, .string x3.Name), (64, .pointer (some ⟨gb1, 0, none⟩)), (65, .int .i64 r7.2), (66, .int .i64 (IntKind.wrap .i64 (1 + r7.2))), (67, .agg #[.int .i64 (IntKind.wrap .i64 (1 + r7.2)), .int .i64 0, .int .i64 0]), (68, .pointer (some ⟨g2, 0, none⟩)), (69, .slice (some ⟨g5, 0, none⟩) s2.2.1.length c15), (70, .int .i64 r6.2), (71, .pointer (some ⟨g5, Int.toNat r6.2 * 4, none⟩)), (72, .pointer (some ⟨g5, Int.toNat r6.2 * 4, none⟩)), (73, .string x4.Name), (74, .pointer (some ⟨gb1, 0, none⟩)), (75, .int .i64 r8.2), (76, .int .i64 (IntKind.wrap .i64 (1 + r8.2))), (77, .agg #[.int .i64 (IntKind.wrap .i64 (1 + r8.2)), .int .i64 0, .int .i64 0]), (78, .agg #[.string x3.Name, .int .i64 (IntKind.wrap .i64 (1 + r7.2)), .int .i64 0, .int .i64 0, .string x4.Name, .int .i64 (IntKind.wrap .i64 (1 + r8.2)), .int .i64 0, .int .i64 0])]) (fun e => .res (Box e.1 33 [.string (⟨#[]⟩), .int .i64 0, .int .i64 0, .int .i64 0, .string (⟨#[]⟩), .int .i64 0, .int .i64 0, .int .i64 0]) :: .ro (SlL eu8 e.2.1 e.2.2.1 r8.1.L) :: .res (Box gb1 69 [.slice e.2.1 r8.1.L.length e.2.2.1, .int .i64 r8.1.At]) :: .ro (SlL eu8 e.2.2.2.1 e.2.2.2.2 r7.1.L) :: .ro (SlL eu8 A24 c24 r6.1.L) :: .res (OwnL e_Need 33 A17 c17 s2.2.2.2.1) :: .res (OwnL e_Installed 31 A16 c16 s2.2.2.1) :: .res (OwnL e_Installed 31 (some ⟨g5, 0, none⟩) c15 s2.2.1) :: .res (Box g2 29 [.slice (some ⟨g5, 0, none⟩) s2.2.1.length c15, .slice A16 s2.2.2.1.length c16, .slice A17 s2.2.2.2.1.length c17]) :: .res (Box g1 29 [.slice none 0 0, .slice none 0 0, .slice none 0 0]) :: R) (fun hnd2_0 => ?mnd2_0) ?tnd2_0
        case mnd2_0 =>
          refine St.share (Y := ?Ynd2_1) (fun (e : Nat × Option Addr × Nat) => [(0, .pointer (some ⟨gb1, 0, none⟩)), (2, .pointer (some ⟨g1, 0, none⟩)), (3, .pointer (some ⟨g2, 0, none⟩)), (6, .int .i64 s2.1), (7, .int .i64 r5.2), (8, .int .i64 r6.2), (9, .pointer (some ⟨e.1, 0, none⟩)), (58, .pointer (some ⟨g2, 0, none⟩)), (59, .slice (some ⟨g5, 0, none⟩) s2.2.1.length c15), (60, .int .i64 r5.2), (61, .pointer (some ⟨g5, Int.toNat r5.2 * 4, none⟩)), (62, .pointer (some ⟨g5, Int.toNat r5.2 * 4, none⟩)), (63, .string x3.Name), (64, .pointer (some ⟨gb1, 0, none⟩)), (65, .int .i64 r7.2), (66, .int .i64 (IntKind.wrap .i64 (1 + r7.2))), (67, .agg #[.int .i64 (IntKind.wrap .i64 (1 + r7.2)), .int .i64 0, .int .i64 0]), (68, .pointer (some ⟨g2, 0, none⟩)), (69, .slice (some ⟨g5, 0, none⟩) s2.2.1.length c15), (70, .int .i64 r6.2), (71, .pointer (some ⟨g5, Int.toNat r6.2 * 4, none⟩)), (72, .pointer (some ⟨g5, Int.toNat r6.2 * 4, none⟩)), (73, .string x4.Name), (74, .pointer (some ⟨gb1, 0, none⟩))]) (fun e => .res (Box e.1 33 [.string (⟨#[]⟩), .int .i64 0, .int .i64 0, .int .i64 0, .string (⟨#[]⟩), .int .i64 0, .int .i64 0, .int .i64 0]) :: .ro (SlL eu8 e.2.1 e.2.2 r7.1.L) :: .res (Box gb1 69 [.slice e.2.1 r7.1.L.length e.2.2, .int .i64 r7.1.At]) :: .ro (SlL eu8 A24 c24 r6.1.L) :: .res (OwnL e_Need 33 A17 c17 s2.2.2.2.1) :: .res (OwnL e_Installed 31 A16 c16 s2.2.2.1) :: .res (OwnL e_Installed 31 (some ⟨g5, 0, none⟩) c15 s2.2.1) :: .res (Box g2 29 [.slice (some ⟨g5, 0, none⟩) s2.2.1.length c15, .slice A16 s2.2.2.1.length c16, .slice A17 s2.2.2.2.1.length c17]) :: .res (Box g1 29 [.slice none 0 0, .slice none 0 0, .slice none 0 0]) :: R) (fun hnd2_1 => ?mnd2_1) ?tnd2_1
          case mnd2_1 =>
            refine St.xfl (fun _ h => h) (Rd.p rfl) rfl ?_
            refine St.xfl (fun _ h => h) (Rd.loadB 0 rfl (.tail _ (.tail _ (.tail _ (.tail _ (.head _))))) rfl rfl) rfl ?_
            refine St.xfl (fun _ h => h) (Rd.p rfl) rfl ?_
            refine St.xfl (fun _ h => h) (Rd.ixO (E := e_Installed) hx3 rfl rfl rfl rfl rfl rfl rfl) rfl ?_
            refine St.xfl (fun _ h => h) (Rd.p rfl) rfl ?_
            refine St.xfl (fun _ h => h) (Rd.ldO 0 hx3 rfl (.tail _ (.tail _ (.tail _ (.head _)))) rfl rfl) rfl ?_
            refine St.xfl (fun _ h => h) (Rd.p rfl) rfl ?_
            refine St.xfl (fun _ h => h) (Rd.p rfl) rfl ?_
            refine St.xfl (fun _ h => h) (Rd.loadB 0 rfl (.tail _ (.tail _ (.tail _ (.tail _ (.head _))))) rfl rfl) rfl ?_
            refine St.xfl (fun _ h => h) (Rd.p rfl) rfl ?_
            refine St.xfl (fun _ h => h) (Rd.ixO (E := e_Installed) hx4 rfl rfl rfl rfl rfl rfl rfl) rfl ?_
            refine St.xfl (fun _ h => h) (Rd.p rfl) rfl ?_
            refine St.xfl (fun _ h => h) (Rd.ldO 0 hx4 rfl (.tail _ (.tail _ (.tail _ (.head _)))) rfl rfl) rfl ?_
            refine St.xfl (fun _ h => h) (Rd.p rfl) rfl ?_
            refine St.xalt ?_ ?_
            · refine St.xef ?_
              refine St.call (c_field_Codes_Next hr7) ent26 rfl rfl rfl (fun _ w => Sat.dup (G := [.ro (SlL eu8 A24 c24 r6.1.L)]) rfl ⟨(.tail _ (.head _)), trivial⟩ (w.front (.s .z))) ?_
              rintro _ _ ⟨A25, c25, rfl, rfl⟩
              refine St.asrt (F' := .ro (SlL eu8 A25 c25 r7.1.L) :: .res (Box gb1 69 [.slice A25 r7.1.L.length c25, .int .i64 r7.1.At]) :: .ro (SlL eu8 A24 c24 r6.1.L) :: .res (OwnL e_Need 33 A17 c17 s2.2.2.2.1) :: .res (OwnL e_Installed 31 A16 c16 s2.2.2.1) :: .res (OwnL e_Installed 31 (some ⟨g5, 0, none⟩) c15 s2.2.1) :: .res (Box g2 29 [.slice (some ⟨g5, 0, none⟩) s2.2.1.length c15, .slice A16 s2.2.2.1.length c16, .slice A17 s2.2.2.2.1.length c17]) :: .res (Box g1 29 [.slice none 0 0, .slice none 0 0, .slice none 0 0]) :: R) (fun _ w => w) ?_
              refine St.xk (fun _ w => ((.d (.d (.k (.k (.k (.k (.k (.k .z)))))))) : Keep _ _).sat w) ?_
              refine St.xfl (fun _ h => h) (Rd.p rfl) rfl ?_
              refine St.xfl (fun _ h => h) (Rd.p rfl) rfl ?_
              refine St.xalt ?_ ?_
              · refine St.xef ?_
                refine St.call (c_field_Codes_Next hr8) ent26 rfl rfl rfl (fun _ w => Sat.dup (G := [.ro (SlL eu8 A25 c25 r7.1.L)]) rfl ⟨(.tail _ (.head _)), trivial⟩ (w.front (.s .z))) ?_
                rintro _ _ ⟨A26, c26, rfl, rfl⟩
                refine St.asrt (F' := .ro (SlL eu8 A26 c26 r8.1.L) :: .res (Box gb1 69 [.slice A26 r8.1.L.length c26, .int .i64 r8.1.At]) :: .ro (SlL eu8 A25 c25 r7.1.L) :: .ro (SlL eu8 A24 c24 r6.1.L) :: .res (OwnL e_Need 33 A17 c17 s2.2.2.2.1) :: .res (OwnL e_Installed 31 A16 c16 s2.2.2.1) :: .res (OwnL e_Installed 31 (some ⟨g5, 0, none⟩) c15 s2.2.1) :: .res (Box g2 29 [.slice (some ⟨g5, 0, none⟩) s2.2.1.length c15, .slice A16 s2.2.2.1.length c16, .slice A17 s2.2.2.2.1.length c17]) :: .res (Box g1 29 [.slice none 0 0, .slice none 0 0, .slice none 0 0]) :: R) (fun _ w => w) ?_
                refine St.xk (fun _ w => ((.d (.d (.d (.k (.k (.k (.k (.k (.k .z))))))))) : Keep _ _).sat w) ?_
                refine St.xfl (fun _ h => h) (Rd.p rfl) rfl ?_
                refine St.xfl (fun _ h => h) (Rd.p rfl) rfl ?_
                refine St.xfl (fun _ h => h) (Rd.p rfl) rfl ?_
                refine St.xef ?_
                refine St.alloc rfl rfl fun g8 => ?_
                refine St.xk (fun _ w => ((.d (.d (.d (.d (.k (.k (.k (.k (.k (.k .z)))))))))) : Keep _ _).sat w) ?_
                refine hnd2_0 _ _ (g8, A26, c26, A25, c25) ?_ ?_
                · exact ⟨rfl, rfl, rfl, rfl, rfl, rfl, rfl, rfl, rfl, rfl, rfl, rfl, rfl, rfl, rfl, rfl, rfl, rfl, rfl, rfl, rfl, rfl, rfl, rfl, rfl, rfl, rfl, rfl, trivial⟩
                · exact fun _ w => ((.k (.k (.k (.k (.k (.k (.k (.k (.k (.k .z)))))))))) : Keep _ _).sat w
              · refine St.xef ?_
                refine St.alloc rfl rfl fun g8 => ?_
                refine St.xk (fun _ w => ((.d (.d (.d (.k (.k (.k (.k (.k (.k .z))))))))) : Keep _ _).sat w) ?_
                refine hnd2_1 _ _ (g8, A25, c25) ?_ ?_
                · exact ⟨rfl, rfl, rfl, rfl, rfl, rfl, rfl, rfl, rfl, rfl, rfl, rfl, rfl, rfl, rfl, rfl, rfl, rfl, rfl, rfl, rfl, rfl, rfl, rfl, trivial⟩
                · exact fun _ w => ((.k (.k (.k (.k (.k (.k (.k (.k (.k .z))))))))) : Keep _ _).sat w
            · refine St.xef ?_
              refine St.alloc rfl rfl fun g8 => ?_
              refine St.xk (fun _ w => ((.d (.k (.d (.k (.k (.k (.k (.k .z)))))))) : Keep _ _).sat w) ?_
              refine St.xef ?_
              refine St.call (c_field_Codes_Next hr7) ent26 rfl rfl rfl (fun _ w => Sat.dup (G := [.ro (SlL eu8 A24 c24 r6.1.L)]) rfl ⟨(.tail _ (.tail _ (.head _))), trivial⟩ (w.front (.s (.s .z)))) ?_
              rintro _ _ ⟨A25, c25, rfl, rfl⟩
              refine St.asrt (F' := .ro (SlL eu8 A25 c25 r7.1.L) :: .res (Box gb1 69 [.slice A25 r7.1.L.length c25, .int .i64 r7.1.At]) :: .res (Box g8 33 [.string (⟨#[]⟩), .int .i64 0, .int .i64 0, .int .i64 0, .string (⟨#[]⟩), .int .i64 0, .int .i64 0, .int .i64 0]) :: .ro (SlL eu8 A24 c24 r6.1.L) :: .res (OwnL e_Need 33 A17 c17 s2.2.2.2.1) :: .res (OwnL e_Installed 31 A16 c16 s2.2.2.1) :: .res (OwnL e_Installed 31 (some ⟨g5, 0, none⟩) c15 s2.2.1) :: .res (Box g2 29 [.slice (some ⟨g5, 0, none⟩) s2.2.1.length c15, .slice A16 s2.2.2.1.length c16, .slice A17 s2.2.2.2.1.length c17]) :: .res (Box g1 29 [.slice none 0 0, .slice none 0 0, .slice none 0 0]) :: R) (fun _ w => w) ?_
              refine St.xk (fun _ w => ((.d (.d (.d (.k (.k (.k (.k (.k (.k .z))))))))) : Keep _ _).sat w) ?_
              refine St.xfl (fun _ h => h) (Rd.p rfl) rfl ?_
              refine St.xfl (fun _ h => h) (Rd.p rfl) rfl ?_
              refine hnd2_1 _ _ (g8, A25, c25) ?_ ?_
              · exact ⟨rfl, rfl, rfl, rfl, rfl, rfl, rfl, rfl, rfl, rfl, rfl, rfl, rfl, rfl, rfl, rfl, rfl, rfl, rfl, rfl, rfl, rfl, rfl, rfl, trivial⟩
              · exact fun _ w => ((.k (.k (.k (.k (.k (.k (.k (.k (.k .z))))))))) : Keep _ _).sat (((((((((w.front (.s (.s (.s (.s (.s (.s (.s (.s .z))))))))).front (.s (.s (.s (.s (.s (.s (.s (.s .z))))))))).front (.s (.s (.s (.s (.s (.s (.s (.s .z))))))))).front (.s (.s (.s (.s (.s (.s (.s (.s .z))))))))).front (.s (.s (.s (.s (.s (.s (.s (.s .z))))))))).front (.s (.s (.s (.s (.s (.s (.s (.s .z))))))))).front (.s (.s (.s (.s (.s (.s (.s .z)))))))).front (.s (.s (.s (.s (.s (.s (.s .z)))))))).front (.s (.s (.s (.s (.s (.s (.s (.s .z)))))))))
          case tnd2_1 =>
            rintro ⟨g8, A25, c25⟩
            refine St.asrt (F' := .res (Box g8 33 [.string (⟨#[]⟩), .int .i64 0, .int .i64 0, .int .i64 0, .string (⟨#[]⟩), .int .i64 0, .int .i64 0, .int .i64 0]) :: .ro (SlL eu8 A25 c25 r7.1.L) :: .res (Box gb1 69 [.slice A25 r7.1.L.length c25, .int .i64 r7.1.At]) :: .ro (SlL eu8 A24 c24 r6.1.L) :: .res (OwnL e_Need 33 A17 c17 s2.2.2.2.1) :: .res (OwnL e_Installed 31 A16 c16 s2.2.2.1) :: .res (OwnL e_Installed 31 (some ⟨g5, 0, none⟩) c15 s2.2.1) :: .res (Box g2 29 [.slice (some ⟨g5, 0, none⟩) s2.2.1.length c15, .slice A16 s2.2.2.1.length c16, .slice A17 s2.2.2.2.1.length c17]) :: .res (Box g1 29 [.slice none 0 0, .slice none 0 0, .slice none 0 0]) :: R) (fun _ w => w) ?_
            refine St.xef ?_
            refine St.call (c_field_Codes_Next hr8) ent26 rfl rfl rfl (fun _ w => Sat.dup (G := [.ro (SlL eu8 A25 c25 r7.1.L)]) rfl ⟨(.tail _ (.tail _ (.head _))), trivial⟩ (w.front (.s (.s .z)))) ?_
            rintro _ _ ⟨A26, c26, rfl, rfl⟩
            refine St.asrt (F' := .ro (SlL eu8 A26 c26 r8.1.L) :: .res (Box gb1 69 [.slice A26 r8.1.L.length c26, .int .i64 r8.1.At]) :: .res (Box g8 33 [.string (⟨#[]⟩), .int .i64 0, .int .i64 0, .int .i64 0, .string (⟨#[]⟩), .int .i64 0, .int .i64 0, .int .i64 0]) :: .ro (SlL eu8 A25 c25 r7.1.L) :: .ro (SlL eu8 A24 c24 r6.1.L) :: .res (OwnL e_Need 33 A17 c17 s2.2.2.2.1) :: .res (OwnL e_Installed 31 A16 c16 s2.2.2.1) :: .res (OwnL e_Installed 31 (some ⟨g5, 0, none⟩) c15 s2.2.1) :: .res (Box g2 29 [.slice (some ⟨g5, 0, none⟩) s2.2.1.length c15, .slice A16 s2.2.2.1.length c16, .slice A17 s2.2.2.2.1.length c17]) :: .res (Box g1 29 [.slice none 0 0, .slice none 0 0, .slice none 0 0]) :: R) (fun _ w => w) ?_
            refine St.xk (fun _ w => ((.d (.d (.d (.d (.k (.k (.k (.k (.k (.k .z)))))))))) : Keep _ _).sat w) ?_
            refine St.xfl (fun _ h => h) (Rd.p rfl) rfl ?_
            refine St.xfl (fun _ h => h) (Rd.p rfl) rfl ?_
            refine St.xfl (fun _ h => h) (Rd.p rfl) rfl ?_
            refine hnd2_0 _ _ (g8, A26, c26, A25, c25) ?_ ?_
            · exact ⟨rfl, rfl, rfl, rfl, rfl, rfl, rfl, rfl, rfl, rfl, rfl, rfl, rfl, rfl, rfl, rfl, rfl, rfl, rfl, rfl, rfl, rfl, rfl, rfl, rfl, rfl, rfl, rfl, trivial⟩
            · exact fun _ w => ((.k (.k (.k (.k (.k (.k (.k (.k (.k (.k .z)))))))))) : Keep _ _).sat ((((((((((w.front (.s (.s (.s (.s (.s (.s (.s (.s (.s .z)))))))))).front (.s (.s (.s (.s (.s (.s (.s (.s (.s .z)))))))))).front (.s (.s (.s (.s (.s (.s (.s (.s (.s .z)))))))))).front (.s (.s (.s (.s (.s (.s (.s (.s (.s .z)))))))))).front (.s (.s (.s (.s (.s (.s (.s (.s (.s .z)))))))))).front (.s (.s (.s (.s (.s (.s (.s (.s (.s .z)))))))))).front (.s (.s (.s (.s (.s (.s (.s (.s (.s .z)))))))))).front (.s (.s (.s (.s (.s (.s (.s (.s .z))))))))).front (.s (.s (.s (.s (.s (.s (.s (.s .z))))))))).front (.s (.s (.s (.s (.s (.s (.s (.s (.s .z))))))))))
        case tnd2_0 =>
          rintro ⟨g8, A26, c26, A25, c25⟩
          refine St.asrt (F' := .res (Box g8 33 [.string (⟨#[]⟩), .int .i64 0, .int .i64 0, .int .i64 0, .string (⟨#[]⟩), .int .i64 0, .int .i64 0, .int .i64 0]) :: .ro (SlL eu8 A26 c26 r8.1.L) :: .res (Box gb1 69 [.slice A26 r8.1.L.length c26, .int .i64 r8.1.At]) :: .ro (SlL eu8 A25 c25 r7.1.L) :: .ro (SlL eu8 A24 c24 r6.1.L) :: .res (OwnL e_Need 33 A17 c17 s2.2.2.2.1) :: .res (OwnL e_Installed 31 A16 c16 s2.2.2.1) :: .res (OwnL e_Installed 31 (some ⟨g5, 0, none⟩) c15 s2.2.1) :: .res (Box g2 29 [.slice (some ⟨g5, 0, none⟩) s2.2.1.length c15, .slice A16 s2.2.2.1.length c16, .slice A17 s2.2.2.2.1.length c17]) :: .res (Box g1 29 [.slice none 0 0, .slice none 0 0, .slice none 0 0]) :: R) (fun _ w => w) ?_
          refine St.xef ?_
          refine St.store 0 rfl rfl rfl rfl rfl rfl .z rfl ?_
          refine St.xk (fun _ w => ((.d (.d (.d (.d (.k (.k (.k (.k (.k (.k .z)))))))))) : Keep _ _).sat w) ?_
          refine St.xdone ?_
          refine St.thenN ?_
          refine St.prune (Γ' := [(0, _), (2, _), (3, _), (6, _), (7, _), (8, _), (9, _)]) ⟨rfl, rfl, rfl, rfl, rfl, rfl, rfl, trivial⟩ (.k (.k (.k (.d (.d (.k (.k (.k (.k (.k .z)))))))))) ?_
          refine St.seq ?_
          obtain ⟨o3, hj1, h2⟩ := bnd_e h2
          refine St.cutE (fun (e5 : Option Addr × Nat) => [(0, .pointer (some ⟨gb1, 0, none⟩)), (2, .pointer (some ⟨g1, 0, none⟩)), (3, .pointer (some ⟨g2, 0, none⟩)), (6, .int .i64 s2.1), (7, .int .i64 r5.2), (8, .int .i64 r6.2), (9, .pointer (some ⟨g8, 0, none⟩))]) (fun e5 => .ro (SlL eu8 e5.1 e5.2 o3.2.1) :: .res (Box g8 33 [.string x3.Name, .int .i64 (IntKind.wrap .i64 (1 + r7.2)), .int .i64 0, .int .i64 0, .string x4.Name, .int .i64 o3.1, .int .i64 0, .int .i64 0]) :: .res (Box gb1 69 [.slice e5.1 o3.2.1.length e5.2, .int .i64 o3.2.2]) :: .res (OwnL e_Need 33 A17 c17 s2.2.2.2.1) :: .res (OwnL e_Installed 31 A16 c16 s2.2.2.1) :: .res (OwnL e_Installed 31 (some ⟨g5, 0, none⟩) c15 s2.2.1) :: .res (Box g2 29 [.slice (some ⟨g5, 0, none⟩) s2.2.1.length c15, .slice A16 s2.2.2.1.length c16, .slice A17 s2.2.2.2.1.length c17]) :: .res (Box g1 29 [.slice none 0 0, .slice none 0 0, .slice none 0 0]) :: R) ?_ ?_
          · refine St.seq ?_
            obtain ⟨o4, hj2, hj1⟩ := bnd_e hj1
            refine St.cutE (fun (e6 : Option Addr × Nat) => [(0, .pointer (some ⟨gb1, 0, none⟩)), (2, .pointer (some ⟨g1, 0, none⟩)), (3, .pointer (some ⟨g2, 0, none⟩)), (6, .int .i64 s2.1), (7, .int .i64 r5.2), (8, .int .i64 r6.2), (9, .pointer (some ⟨g8, 0, none⟩)), (87, .bool o4.1)]) (fun e6 => .ro (SlL eu8 e6.1 e6.2 o4.2.1) :: .res (Box g8 33 [.string x3.Name, .int .i64 (IntKind.wrap .i64 (1 + r7.2)), .int .i64 0, .int .i64 0, .string x4.Name, .int .i64 (IntKind.wrap .i64 (1 + r8.2)), .int .i64 0, .int .i64 0]) :: .res (Box gb1 69 [.slice e6.1 o4.2.1.length e6.2, .int .i64 o4.2.2]) :: .res (OwnL e_Need 33 A17 c17 s2.2.2.2.1) :: .res (OwnL e_Installed 31 A16 c16 s2.2.2.1) :: .res (OwnL e_Installed 31 (some ⟨g5, 0, none⟩) c15 s2.2.1) :: .res (Box g2 29 [.slice (some ⟨g5, 0, none⟩) s2.2.1.length c15, .slice A16 s2.2.2.1.length c16, .slice A17 s2.2.2.2.1.length c17]) :: .res (Box g1 29 [.slice none 0 0, .slice none 0 0, .slice none 0 0]) :: R) ?_ ?_
            · refine St.region ?_
              refine St.p rfl rfl ?_
              refine St.p rfl rfl ?_
              refine St.loadB 1 rfl rfl (.head _) rfl rfl ?_
              refine St.p rfl rfl ?_
              refine St.p rfl rfl ?_
              refine St.gSplit (dj := 83) _ rfl (fun hb3 => ?_) (fun hb3 => ?_)
              · replace hj2 := bif_t hb3 hj2
                refine St.gOn (dj := 83) rfl rfl ?_
                refine St.p rfl rfl ?_
                refine St.gOn (dj := 83) rfl rfl ?_
                obtain ⟨r9, hr9, hj2⟩ := bnd_e hj2
                refine St.call (c_field_Codes_Next hr9) ent26 rfl rfl rfl (fun _ w => Sat.dup (G := [.ro (SlL eu8 A26 c26 r8.1.L)]) rfl ⟨(.tail _ (.tail _ (.head _))), trivial⟩ (w.front (.s (.s .z)))) ?_
                rintro _ _ ⟨A29, c29, rfl, rfl⟩
                refine St.asrt (F' := .ro (SlL eu8 A29 c29 r9.1.L) :: .res (Box gb1 69 [.slice A29 r9.1.L.length c29, .int .i64 r9.1.At]) :: .res (Box g8 33 [.string x3.Name, .int .i64 (IntKind.wrap .i64 (1 + r7.2)), .int .i64 0, .int .i64 0, .string x4.Name, .int .i64 (IntKind.wrap .i64 (1 + r8.2)), .int .i64 0, .int .i64 0]) :: .ro (SlL eu8 A26 c26 r8.1.L) :: .res (OwnL e_Need 33 A17 c17 s2.2.2.2.1) :: .res (OwnL e_Installed 31 A16 c16 s2.2.2.1) :: .res (OwnL e_Installed 31 (some ⟨g5, 0, none⟩) c15 s2.2.1) :: .res (Box g2 29 [.slice (some ⟨g5, 0, none⟩) s2.2.1.length c15, .slice A16 s2.2.2.1.length c16, .slice A17 s2.2.2.2.1.length c17]) :: .res (Box g1 29 [.slice none 0 0, .slice none 0 0, .slice none 0 0]) :: R) (fun _ w => w) ?_
                refine St.gOn (dj := 83) rfl rfl ?_
                refine St.p rfl rfl ?_
                refine St.p rfl rfl ?_
                refine St.done ?_
                injection hj2 with hj2
                subst hj2
                refine St.thenN ?_
                exact St.hereE (A29, c29) ⟨rfl, rfl, rfl, rfl, rfl, rfl, rfl, rfl, trivial⟩ (fun _ w => ((.k (.k (.k (.k (.k (.k (.k (.k (.d .z))))))))) : Keep _ _).sat ((((((((w.front (.s (.s (.s (.s (.s (.s (.s (.s .z))))))))).front (.s (.s (.s (.s (.s (.s (.s (.s .z))))))))).front (.s (.s (.s (.s (.s (.s (.s (.s .z))))))))).front (.s (.s (.s (.s (.s (.s (.s (.s .z))))))))).front (.s (.s (.s (.s (.s (.s (.s (.s .z))))))))).front (.s (.s (.s (.s (.s (.s .z))))))).front (.s (.s (.s (.s (.s (.s (.s .z)))))))).front (.s (.s (.s (.s (.s (.s (.s .z)))))))))
              · replace hj2 := bif_f hb3 hj2
                refine St.gOff (dj := 83) rfl rfl rfl rfl ?_
                refine St.gOff (dj := 83) rfl rfl rfl rfl ?_
                refine St.gOff (dj := 83) rfl rfl rfl rfl ?_
                refine St.p rfl rfl ?_
                refine St.done ?_
                injection hj2 with hj2
                subst hj2
                refine St.thenN ?_
                exact St.hereE (A26, c26) ⟨rfl, rfl, rfl, rfl, rfl, rfl, rfl, rfl, trivial⟩ (fun _ w => ((.k (.k (.k (.k (.k (.k (.k (.k .z)))))))) : Keep _ _).sat ((((((((w.front (.s (.s (.s (.s (.s (.s (.s .z)))))))).front (.s (.s (.s (.s (.s (.s (.s .z)))))))).front (.s (.s (.s (.s (.s (.s (.s .z)))))))).front (.s (.s (.s (.s (.s (.s (.s .z)))))))).front (.s (.s (.s (.s (.s (.s (.s .z)))))))).front (.s (.s (.s (.s (.s (.s (.s .z)))))))).front (.s (.s (.s (.s (.s (.s .z))))))).front (.s (.s (.s (.s (.s (.s (.s .z)))))))))
            · rintro ⟨A28, c28⟩
              refine St.cond _ rfl (fun hb4 => ?_) (fun hb4 => ?_)
              · replace hj1 := bif_t hb4 hj1
                refine St.region ?_
                refine St.p rfl rfl ?_
                refine St.p rfl rfl ?_
                refine St.store 5 rfl rfl rfl rfl rfl rfl (.s .z) rfl ?_
                refine St.done ?_
                injection hj1 with hj1
                subst hj1
                refine St.thenN ?_
                exact St.hereE (A28, c28) ⟨rfl, rfl, rfl, rfl, rfl, rfl, rfl, trivial⟩ (fun _ w => ((.k (.k (.k (.k (.k (.k (.k (.k .z)))))))) : Keep _ _).sat ((((((((w.front (.s (.s (.s (.s (.s (.s (.s .z)))))))).front (.s (.s (.s (.s (.s (.s (.s .z)))))))).front (.s (.s (.s (.s (.s (.s (.s .z)))))))).front (.s (.s (.s (.s (.s (.s (.s .z)))))))).front (.s (.s (.s (.s (.s (.s (.s .z)))))))).front (.s (.s (.s (.s (.s (.s (.s .z)))))))).front (.s (.s (.s (.s (.s (.s .z))))))).front (.s (.s (.s (.s (.s (.s (.s .z)))))))))
              · replace hj1 := bif_f hb4 hj1
                refine St.skip ?_
                injection hj1 with hj1
                subst hj1
                refine St.thenN ?_
                exact St.hereE (A28, c28) ⟨rfl, rfl, rfl, rfl, rfl, rfl, rfl, trivial⟩ (fun _ w => ((.k (.k (.k (.k (.k (.k (.k (.k .z)))))))) : Keep _ _).sat w)
          · rintro ⟨A27, c27⟩
            refine St.seq ?_
            obtain ⟨o5, hj3, h2⟩ := bnd_e h2
            refine St.cutE (fun (e7 : Option Addr × Nat × Option Addr × Nat) => [(0, .pointer (some ⟨gb1, 0, none⟩)), (2, .pointer (some ⟨g1, 0, none⟩)), (3, .pointer (some ⟨g2, 0, none⟩)), (6, .int .i64 s2.1), (7, .int .i64 r5.2), (8, .int .i64 r6.2), (9, .pointer (some ⟨g8, 0, none⟩))]) (fun e7 => .res (OwnL e_Installed 31 e7.2.2.1 e7.2.2.2 o5.2.2.2) :: .ro (SlL eu8 e7.1 e7.2.1 o5.2.1) :: .res (Box g8 33 [.string x3.Name, .int .i64 (IntKind.wrap .i64 (1 + r7.2)), .int .i64 0, .int .i64 0, .string x4.Name, .int .i64 o5.1, .int .i64 0, .int .i64 0]) :: .res (Box gb1 69 [.slice e7.1 o5.2.1.length e7.2.1, .int .i64 o5.2.2.1]) :: .res (OwnL e_Need 33 A17 c17 s2.2.2.2.1) :: .res (OwnL e_Installed 31 (some ⟨g5, 0, none⟩) c15 s2.2.1) :: .res (Box g2 29 [.slice (some ⟨g5, 0, none⟩) s2.2.1.length c15, .slice e7.2.2.1 o5.2.2.2.length e7.2.2.2, .slice A17 s2.2.2.2.1.length c17]) :: .res (Box g1 29 [.slice none 0 0, .slice none 0 0, .slice none 0 0]) :: R) ?_ ?_
            · refine St.seq ?_
              obtain ⟨o6, hj4, hj3⟩ := bnd_e hj3
              refine St.cutE (fun (e8 : Option Addr × Nat × Option Addr × Nat) => [(0, .pointer (some ⟨gb1, 0, none⟩)), (2, .pointer (some ⟨g1, 0, none⟩)), (3, .pointer (some ⟨g2, 0, none⟩)), (6, .int .i64 s2.1), (7, .int .i64 r5.2), (8, .int .i64 r6.2), (9, .pointer (some ⟨g8, 0, none⟩)), (108, .bool o6.1)]) (fun e8 => .res (OwnL e_Installed 31 e8.2.2.1 e8.2.2.2 o6.2.2.2) :: .ro (SlL eu8 e8.1 e8.2.1 o6.2.1) :: .res (Box g8 33 [.string x3.Name, .int .i64 (IntKind.wrap .i64 (1 + r7.2)), .int .i64 0, .int .i64 0, .string x4.Name, .int .i64 o3.1, .int .i64 0, .int .i64 0]) :: .res (Box gb1 69 [.slice e8.1 o6.2.1.length e8.2.1, .int .i64 o6.2.2.1]) :: .res (OwnL e_Need 33 A17 c17 s2.2.2.2.1) :: .res (OwnL e_Installed 31 (some ⟨g5, 0, none⟩) c15 s2.2.1) :: .res (Box g2 29 [.slice (some ⟨g5, 0, none⟩) s2.2.1.length c15, .slice e8.2.2.1 o6.2.2.2.length e8.2.2.2, .slice A17 s2.2.2.2.1.length c17]) :: .res (Box g1 29 [.slice none 0 0, .slice none 0 0, .slice none 0 0]) :: R) ?_ ?_
              · refine St.region ?_
                refine St.p rfl rfl ?_
                refine St.p rfl rfl ?_
                refine St.loadB 5 rfl rfl (.tail _ (.head _)) rfl rfl ?_
                refine St.p rfl rfl ?_
                refine St.p rfl rfl ?_
                refine St.gSplit (dj := 94) _ rfl (fun hb5 => ?_) (fun hb5 => ?_)
                · replace hj4 := bif_t hb5 hj4
                  refine St.gOn (dj := 94) rfl rfl ?_
                  refine St.p rfl rfl ?_
                  refine St.gOn (dj := 94) rfl rfl ?_
                  refine St.loadB 1 rfl rfl (.tail _ (.tail _ (.tail _ (.tail _ (.tail _ (.tail _ (.head _))))))) rfl rfl ?_
                  refine St.gOn (dj := 94) rfl rfl ?_
                  refine St.p rfl rfl ?_
                  refine St.gOn (dj := 94) rfl rfl ?_
                  obtain ⟨x5, hx5, hj4⟩ := bnd_e hj4
                  refine St.ixO hx5 rfl rfl rfl (.tail _ (.tail _ (.tail _ (.tail _ (.head _))))) rfl rfl rfl rfl rfl fun g9 hA => ?_
                  subst hA
                  refine St.gOn (dj := 94) rfl rfl ?_
                  refine St.p rfl rfl ?_
                  refine St.gOn (dj := 94) rfl rfl ?_
                  refine St.p rfl rfl ?_
                  refine St.gOn (dj := 94) rfl rfl ?_
                  refine St.ldO 1 hx5 rfl rfl (.tail _ (.tail _ (.tail _ (.tail _ (.head _))))) rfl rfl ?_
                  refine St.gOn (dj := 94) rfl rfl ?_
                  iterate 3 refine St.p rfl rfl ?_
                  refine St.gSplit (dj := 104) _ rfl (fun hb6 => ?_) (fun hb6 => ?_)
                  · replace hj4 := bif_t hb6 hj4
                    refine St.gOn (dj := 104) rfl rfl ?_
                    refine St.p rfl rfl ?_
                    refine St.gOn (dj := 104) rfl rfl ?_
                    obtain ⟨r10, hr10, hj4⟩ := bnd_e hj4
                    refine St.call (c_field_Codes_Next hr10) ent26 rfl rfl rfl (fun _ w => Sat.dup (G := [.ro (SlL eu8 A27 c27 o3.2.1)]) rfl ⟨(.tail _ (.head _)), trivial⟩ (w.front (.s (.s .z)))) ?_
                    rintro _ _ ⟨A34, c34, rfl, rfl⟩
                    refine St.asrt (F' := .ro (SlL eu8 A34 c34 r10.1.L) :: .res (Box gb1 69 [.slice A34 r10.1.L.length c34, .int .i64 r10.1.At]) :: .ro (SlL eu8 A27 c27 o3.2.1) :: .res (Box g8 33 [.string x3.Name, .int .i64 (IntKind.wrap .i64 (1 + r7.2)), .int .i64 0, .int .i64 0, .string x4.Name, .int .i64 o3.1, .int .i64 0, .int .i64 0]) :: .res (OwnL e_Need 33 A17 c17 s2.2.2.2.1) :: .res (OwnL e_Installed 31 (some ⟨g9, 0, none⟩) c16 s2.2.2.1) :: .res (OwnL e_Installed 31 (some ⟨g5, 0, none⟩) c15 s2.2.1) :: .res (Box g2 29 [.slice (some ⟨g5, 0, none⟩) s2.2.1.length c15, .slice (some ⟨g9, 0, none⟩) s2.2.2.1.length c16, .slice A17 s2.2.2.2.1.length c17]) :: .res (Box g1 29 [.slice none 0 0, .slice none 0 0, .slice none 0 0]) :: R) (fun _ w => w) ?_
                    refine St.gOn (dj := 104) rfl rfl ?_
                    refine St.p rfl rfl ?_
                    refine St.p rfl rfl ?_
                    refine St.done ?_
                    injection hj4 with hj4
                    subst hj4
                    refine St.thenN ?_
                    exact St.hereE (A34, c34, (some ⟨g9, 0, none⟩), c16) ⟨rfl, rfl, rfl, rfl, rfl, rfl, rfl, rfl, trivial⟩ (fun _ w => ((.k (.k (.k (.k (.k (.k (.k (.k (.d .z))))))))) : Keep _ _).sat ((((((((w.front (.s (.s (.s (.s (.s (.s (.s (.s .z))))))))).front (.s (.s (.s (.s (.s (.s (.s (.s .z))))))))).front (.s (.s (.s (.s (.s (.s (.s (.s .z))))))))).front (.s (.s (.s (.s (.s (.s (.s .z)))))))).front (.s (.s (.s (.s (.s .z)))))).front (.s (.s (.s (.s (.s (.s (.s .z)))))))).front (.s (.s (.s (.s (.s (.s .z))))))).front (.s (.s (.s (.s (.s (.s (.s (.s .z))))))))))
                  · replace hj4 := bif_f hb6 hj4
                    refine St.gOff (dj := 104) rfl rfl rfl rfl ?_
                    refine St.gOff (dj := 104) rfl rfl rfl rfl ?_
                    refine St.gOff (dj := 104) rfl rfl rfl rfl ?_
                    refine St.p rfl rfl ?_
                    refine St.done ?_
                    injection hj4 with hj4
                    subst hj4
                    refine St.thenN ?_
                    exact St.hereE (A27, c27, (some ⟨g9, 0, none⟩), c16) ⟨rfl, rfl, rfl, rfl, rfl, rfl, rfl, rfl, trivial⟩ (fun _ w => ((.k (.k (.k (.k (.k (.k (.k (.k .z)))))))) : Keep _ _).sat ((((((((w.front (.s (.s (.s (.s (.s (.s (.s .z)))))))).front (.s (.s (.s (.s (.s (.s (.s .z)))))))).front (.s (.s (.s (.s (.s (.s (.s .z)))))))).front (.s (.s (.s (.s (.s (.s .z))))))).front (.s (.s (.s (.s (.s (.s .z))))))).front (.s (.s (.s (.s (.s (.s .z))))))).front (.s (.s (.s (.s (.s (.s .z))))))).front (.s (.s (.s (.s (.s (.s (.s .z)))))))))
                · replace hj4 := bif_f hb5 hj4
                  refine St.gOff (dj := 94) rfl rfl rfl rfl ?_
                  refine St.gOff (dj := 94) rfl rfl rfl rfl ?_
                  refine St.gOff (dj := 94) rfl rfl rfl rfl ?_
                  refine St.gOff (dj := 94) rfl rfl rfl rfl ?_
                  refine St.gOff (dj := 94) rfl rfl rfl rfl ?_
                  refine St.gOff (dj := 94) rfl rfl rfl rfl ?_
                  refine St.gOff (dj := 94) rfl rfl rfl rfl ?_
                  refine St.gOff (dj := 94) rfl rfl rfl rfl ?_
                  refine St.p rfl rfl ?_
                  refine St.p rfl rfl ?_
                  refine St.gOff (dj := 104) rfl rfl rfl rfl ?_
                  refine St.gOff (dj := 104) rfl rfl rfl rfl ?_
                  refine St.gOff (dj := 104) rfl rfl rfl rfl ?_
                  refine St.p rfl rfl ?_
                  refine St.done ?_
                  injection hj4 with hj4
                  subst hj4
                  refine St.thenN ?_
                  exact St.hereE (A27, c27, A16, c16) ⟨rfl, rfl, rfl, rfl, rfl, rfl, rfl, rfl, trivial⟩ (fun _ w => ((.k (.k (.k (.k (.k (.k (.k (.k .z)))))))) : Keep _ _).sat ((((((((w.front (.s (.s (.s (.s (.s (.s (.s .z)))))))).front (.s (.s (.s (.s (.s (.s (.s .z)))))))).front (.s (.s (.s (.s (.s (.s (.s .z)))))))).front (.s (.s (.s (.s (.s (.s .z))))))).front (.s (.s (.s (.s (.s (.s .z))))))).front (.s (.s (.s (.s (.s (.s .z))))))).front (.s (.s (.s (.s (.s (.s .z))))))).front (.s (.s (.s (.s (.s (.s (.s .z)))))))))
              · rintro ⟨A32, c32, A33, c33⟩
                refine St.cond _ rfl (fun hb7 => ?_) (fun hb7 => ?_)
                · replace hj3 := bif_t hb7 hj3
                  refine St.region ?_
                  refine St.p rfl rfl ?_
                  refine St.p rfl rfl ?_
                  refine St.store 5 rfl rfl rfl rfl rfl rfl (.s (.s .z)) rfl ?_
                  refine St.done ?_
                  injection hj3 with hj3
                  subst hj3
                  refine St.thenN ?_
                  exact St.hereE (A32, c32, A33, c33) ⟨rfl, rfl, rfl, rfl, rfl, rfl, rfl, trivial⟩ (fun _ w => ((.k (.k (.k (.k (.k (.k (.k (.k .z)))))))) : Keep _ _).sat ((((((((w.front (.s (.s (.s (.s (.s (.s (.s .z)))))))).front (.s (.s (.s (.s (.s (.s (.s .z)))))))).front (.s (.s (.s (.s (.s (.s (.s .z)))))))).front (.s (.s (.s (.s (.s (.s (.s .z)))))))).front (.s (.s (.s (.s (.s (.s (.s .z)))))))).front (.s (.s (.s (.s (.s .z)))))).front (.s (.s (.s (.s (.s (.s (.s .z)))))))).front (.s (.s (.s (.s (.s (.s (.s .z)))))))))
                · replace hj3 := bif_f hb7 hj3
                  refine St.skip ?_
                  injection hj3 with hj3
                  subst hj3
                  refine St.thenN ?_
                  exact St.hereE (A32, c32, A33, c33) ⟨rfl, rfl, rfl, rfl, rfl, rfl, rfl, trivial⟩ (fun _ w => ((.k (.k (.k (.k (.k (.k (.k (.k .z)))))))) : Keep _ _).sat w)
            · rintro ⟨A30, c30, A31, c31⟩
              refine St.seq ?_
              refine St.region ?_
              iterate 3 refine St.p rfl rfl ?_
              refine St.done ?_
              refine St.thenN ?_
              refine St.prune (Γ' := [(0, _), (2, _), (3, _), (6, _), (9, _), (113, _)]) ⟨rfl, rfl, rfl, rfl, rfl, rfl, trivial⟩ (.k (.k (.k (.k (.k (.k (.k (.k .z)))))))) ?_
              refine St.cond _ rfl (fun hb8 => ?_) (fun hb8 => ?_)
              · replace h2 := bif_t hb8 h2
                refine St.region ?_
                refine St.p rfl rfl ?_
                refine St.loadB 2 rfl rfl (.tail _ (.tail _ (.tail _ (.tail _ (.tail _ (.tail _ (.head _))))))) rfl rfl ?_
                refine St.loadB 0 rfl rfl (.tail _ (.tail _ (.head _))) rfl rfl ?_
                refine St.buildSlice rfl rfl rfl rfl rfl rfl rfl rfl fun g10 => ?_
                obtain ⟨l4, hl4, h2⟩ := bnd_e h2
                refine St.app (E := e_Need) hl4 rfl rfl rfl (.s (.s (.s (.s (.s .z))))) rfl rfl rfl rfl rfl rfl rfl rfl (srcB (.head _) rfl rfl) rfl rfl fun A35 c35 => ?_
                refine St.p rfl rfl ?_
                refine St.store 2 rfl rfl rfl rfl rfl rfl (.s (.s (.s (.s (.s (.s (.s .z))))))) rfl ?_
                refine St.done ?_
                refine St.blkN ?_
                refine St.thenN ?_
                refine St.prune (Γ' := [(0, _), (2, _), (3, _), (6, _)]) ⟨rfl, rfl, rfl, rfl, trivial⟩ (.k (.k (.d (.k (.k (.d (.k (.k (.k .z))))))))) ?_
                refine St.region ?_
                iterate 3 refine St.p rfl rfl ?_
                refine St.done ?_
                injection h2 with h2
                subst h2
                refine St.thenN ?_
                exact St.again _ ((some ⟨g5, 0, none⟩), c15, A31, c31, A35, c35, A30, c30) hm2 trivial ⟨rfl, rfl, rfl, rfl, trivial⟩ (fun _ w => ((.k (.k (.k (.k (.k (.k (.k .z))))))) : Keep _ _).sat (((((((w.front (.s (.s (.s (.s (.s (.s .z))))))).front (.s .z)).front (.s (.s (.s (.s (.s .z)))))).front (.s (.s (.s (.s (.s (.s .z))))))).front (.s (.s (.s (.s (.s .z)))))).front (.s (.s (.s (.s (.s .z)))))).front (.s (.s (.s (.s (.s (.s .z))))))))
              · replace h2 := bif_f hb8 h2
                refine St.skip ?_
                refine St.blkN ?_
                refine St.thenN ?_
                refine St.prune (Γ' := [(0, _), (2, _), (3, _), (6, _)]) ⟨rfl, rfl, rfl, rfl, trivial⟩ (.k (.k (.d (.k (.k (.k (.k (.k .z)))))))) ?_
                refine St.region ?_
                iterate 3 refine St.p rfl rfl ?_
                refine St.done ?_
                injection h2 with h2
                subst h2
                refine St.thenN ?_
                exact St.again _ ((some ⟨g5, 0, none⟩), c15, A31, c31, A17, c17, A30, c30) hm2 trivial ⟨rfl, rfl, rfl, rfl, trivial⟩ (fun _ w => ((.k (.k (.k (.k (.k (.k (.k .z))))))) : Keep _ _).sat (((((((w.front (.s (.s (.s (.s (.s (.s .z))))))).front (.s (.s (.s (.s (.s (.s .z))))))).front (.s (.s (.s (.s .z))))).front (.s (.s (.s (.s (.s (.s .z))))))).front (.s (.s (.s (.s .z))))).front (.s (.s (.s (.s (.s (.s .z))))))).front (.s (.s (.s (.s (.s (.s .z))))))))
      · replace h2 := bif_f hb2 h2
        refine St.exit ?_
        repeat (first | refine St.thenX ?_ | refine St.blkMiss rfl ?_)
        refine St.blkHit ?_
        injection h2 with h2
        subst h2
        have ho := hd2 _ rfl
        subst ho
        refine St.thenN ?_
        exact St.hereE (A15, c15, A16, c16, A17, c17, A18, c18) ⟨rfl, rfl, rfl, trivial⟩ (fun _ w => ((.k (.k (.k (.k (.k (.k (.k .z))))))) : Keep _ _).sat w)
    · rintro ⟨A19, c19, A20, c20, A21, c21, A22, c22⟩
      refine St.seq ?_
      refine St.seq ?_
      refine St.region ?_
      refine St.p rfl rfl ?_
      obtain ⟨r11, hr11, h⟩ := bnd_e h
      refine St.call (c_field_Codes_Next hr11) ent26 rfl rfl rfl (fun _ w => Sat.dup (G := [.ro (SlL eu8 A22 c22 o2.2.2.2.1)]) rfl ⟨(.tail _ (.head _)), trivial⟩ (w.front (.s (.s (.s (.s .z)))))) ?_
      rintro _ _ ⟨A36, c36, rfl, rfl⟩
      refine St.asrt (F' := .ro (SlL eu8 A36 c36 r11.1.L) :: .res (Box gb1 69 [.slice A36 r11.1.L.length c36, .int .i64 r11.1.At]) :: .ro (SlL eu8 A22 c22 o2.2.2.2.1) :: .res (OwnL e_Need 33 A21 c21 o2.2.2.1) :: .res (OwnL e_Installed 31 A20 c20 o2.2.1) :: .res (OwnL e_Installed 31 A19 c19 o2.1) :: .res (Box g2 29 [.slice A19 o2.1.length c19, .slice A20 o2.2.1.length c20, .slice A21 o2.2.2.1.length c21]) :: .res (Box g1 29 [.slice none 0 0, .slice none 0 0, .slice none 0 0]) :: R) (fun _ w => w) ?_
      refine St.p rfl rfl ?_
      refine St.done ?_
      refine St.thenN ?_
      refine St.prune (Γ' := [(2, _), (3, _), (122, _)]) ⟨rfl, rfl, rfl, trivial⟩ (.k (.k (.d (.k (.k (.k (.k (.k .z)))))))) ?_
      refine St.cond _ rfl (fun hb9 => ?_) (fun hb9 => ?_)
      · replace h := bif_t hb9 h
        refine St.region ?_
        refine St.p rfl rfl ?_
        refine St.loadB 1 rfl rfl (.tail _ (.tail _ (.tail _ (.tail _ (.tail _ (.head _)))))) rfl rfl ?_
        refine St.p rfl rfl ?_
        refine St.loadB 0 rfl rfl (.tail _ (.tail _ (.tail _ (.tail _ (.tail _ (.head _)))))) rfl rfl ?_
        refine St.p rfl rfl ?_
        refine St.store 0 rfl rfl rfl rfl rfl rfl (.s (.s (.s (.s (.s .z))))) rfl ?_
        refine St.p rfl rfl ?_
        refine St.store 1 rfl rfl rfl rfl rfl rfl .z rfl ?_
        refine St.done ?_
        refine St.thenN ?_
        refine St.prune (Γ' := [(2, _), (3, _)]) ⟨rfl, rfl, trivial⟩ (.k (.k (.k (.k (.k (.k (.k .z))))))) ?_
        refine St.seq ?_
        refine St.region ?_
        refine St.loadB 0 rfl rfl (.head _) rfl rfl ?_
        refine St.store 0 rfl rfl rfl rfl rfl rfl (.s (.s (.s (.s (.s (.s .z)))))) rfl ?_
        refine St.done ?_
        refine St.thenN ?_
        refine St.prune (Γ' := [(2, _)]) ⟨rfl, trivial⟩ (.k (.d (.k (.k (.k (.k (.k .z))))))) ?_
        refine St.ret ?_
        repeat (first | refine St.thenR ?_ | refine St.blkR ?_)
        refine St.asrt (fun _ w => (w.front (.s (.s (.s (.s .z))))).meltL) ?_
        refine St.asrt (fun _ w => (w.front (.s (.s (.s (.s (.s .z)))))).meltL) ?_
        refine St.asrt (fun _ w => (w.front (.s (.s (.s (.s (.s .z)))))).meltL) ?_
        injection h with h
        subst h
        exact St.finR Try.results14 (.cell rfl (.tail _ (.tail _ (.tail _ (.head _)))) rfl .nil) rfl [.ro (SlL eu8 A36 c36 r11.1.L), .ro (SlL e_Installed A20 c20 o2.2.1), .ro (SlL e_Installed A19 c19 o2.1), .ro (SlL e_Need A21 c21 o2.2.2.1), .res (Box gb1 69 [.slice A36 r11.1.L.length c36, .int .i64 r11.1.At])] ⟨A36, c36, A20, c20, A19, c19, A21, c21, rfl, rfl⟩ (fun _ w => ((.k (.k (.k (.k (.k (.d (.d (.d (.d (.d .z)))))))))) : Keep _ _).sat (Sat.dup (G := [.ro (SlL eu8 A36 c36 r11.1.L), .ro (SlL e_Installed A20 c20 o2.2.1), .ro (SlL e_Installed A19 c19 o2.1), .ro (SlL e_Need A21 c21 o2.2.2.1)]) rfl ⟨(.tail _ (.tail _ (.tail _ (.tail _ (.tail _ (.head _)))))), (.tail _ (.tail _ (.tail _ (.head _)))), (.tail _ (.tail _ (.head _))), (.tail _ (.head _)), trivial⟩ (w.front (.s (.s (.s (.s (.s .z))))))))
      · replace h := bif_f hb9 h
        refine St.skip ?_
        refine St.thenN ?_
        refine St.prune (Γ' := [(2, _), (3, _)]) ⟨rfl, rfl, trivial⟩ (.k (.k (.k (.k (.k (.k (.k .z))))))) ?_
        refine St.seq ?_
        refine St.region ?_
        refine St.loadB 0 rfl rfl (.tail _ (.tail _ (.tail _ (.tail _ (.tail _ (.head _)))))) rfl rfl ?_
        refine St.store 0 rfl rfl rfl rfl rfl rfl (.s (.s (.s (.s (.s (.s .z)))))) rfl ?_
        refine St.done ?_
        refine St.thenN ?_
        refine St.prune (Γ' := [(2, _)]) ⟨rfl, trivial⟩ (.k (.k (.k (.k (.k (.k (.d .z))))))) ?_
        refine St.ret ?_
        repeat (first | refine St.thenR ?_ | refine St.blkR ?_)
        refine St.asrt (fun _ w => (w.front (.s (.s (.s (.s (.s .z)))))).meltL) ?_
        refine St.asrt (fun _ w => (w.front (.s (.s (.s (.s (.s .z)))))).meltL) ?_
        refine St.asrt (fun _ w => (w.front (.s (.s (.s (.s (.s .z)))))).meltL) ?_
        injection h with h
        subst h
        exact St.finR Try.results14 (.cell rfl (.tail _ (.tail _ (.tail _ (.head _)))) rfl .nil) rfl [.ro (SlL eu8 A36 c36 r11.1.L), .ro (SlL e_Installed A19 c19 o2.1), .ro (SlL e_Installed A20 c20 o2.2.1), .ro (SlL e_Need A21 c21 o2.2.2.1), .res (Box gb1 69 [.slice A36 r11.1.L.length c36, .int .i64 r11.1.At])] ⟨A36, c36, A19, c19, A20, c20, A21, c21, rfl, rfl⟩ (fun _ w => ((.k (.k (.k (.k (.k (.d (.d (.d (.d (.d .z)))))))))) : Keep _ _).sat (Sat.dup (G := [.ro (SlL eu8 A36 c36 r11.1.L), .ro (SlL e_Installed A19 c19 o2.1), .ro (SlL e_Installed A20 c20 o2.2.1), .ro (SlL e_Need A21 c21 o2.2.2.1)]) rfl ⟨(.tail _ (.tail _ (.tail _ (.tail _ (.tail _ (.head _)))))), (.tail _ (.tail _ (.tail _ (.head _)))), (.tail _ (.tail _ (.head _))), (.tail _ (.head _)), trivial⟩ (w.front (.s (.s (.s (.s (.s .z))))))))

theorem ent38 : Ent Try.prog 38 := ⟨_, Try.func38, by kernel_rfl, by kernel_rfl⟩

noncomputable def m_activation_gather (p_p0 : T_Plan) (done : (List Int)) : Option (Int × Int) :=
  bnd (m_activation_Valid p_p0) fun r1 => bif (r1 != 0) then (some (0, r1)) else (bnd (m_activation_all p_p0) fun r2 => bnd (loopM (τ := (Int × Int) ⊕ Int) (fun (s1 : Int × Int) => bif decide (s1.2 < (done.length : Int)) then (bnd (elt done s1.2) fun x1 => bnd ((bif decide (x1 < 0) then (some true) else (bif decide (x1 ≥ (p_p0.Now.length : Int)) then (some true) else (bnd (shrM .i64 r2 x1) fun q1 => some ((iAnd .i64 q1 1) == 0))) : Option Bool)) fun o3 => bif o3 then (some (.done (.inl (0, 2)))) else (bnd (shrM .i64 s1.1 x1) fun q2 => bif ((iAnd .i64 q2 1) == 1) then (some (.done (.inl (0, 7)))) else (bnd (shlM .i64 1 x1) fun q3 => some (.next (iOr .i64 s1.1 q3, IntKind.wrap .i64 (s1.2 + 1)))))) else (some (.done (.inr s1.1)))) (0, 0)) fun o1 => retOr o1 fun o2 => some (o2, 0))

set_option maxHeartbeats 4000000 in
theorem c_activation_gather {p_p0 : T_Plan} {done : (List Int)} {A1 : Option Addr} {c1 : Nat} {A2 : Option Addr} {c2 : Nat} {A3 : Option Addr} {c3 : Nat} {A4 : Option Addr} {c4 : Nat} {r : (Int × Int)} (h : m_activation_gather p_p0 done = some r) :
    Fun Try.prog 38 [.agg #[.slice A1 p_p0.Now.length c1, .slice A2 p_p0.Next.length c2, .slice A3 p_p0.Needs.length c3], .slice A4 done.length c4] [.ro (SlL e_Installed A1 c1 p_p0.Now), .ro (SlL e_Installed A2 c2 p_p0.Next), .ro (SlL e_Need A3 c3 p_p0.Needs), .ro (SlL ei64 A4 c4 done)] (Val (.tuple #[.int .i64 r.1, .int .i64 r.2])) := by
  unfold m_activation_gather at h
  refine Fun.intro Try.func38 rfl rfl rfl fun w R => ?_
  refine St.seq ?_
  refine St.region ?_
  refine St.box rfl rfl fun g1 => ?_
  refine St.p rfl rfl ?_
  refine St.p rfl rfl ?_
  refine St.done ?_
  refine St.thenN ?_
  refine St.prune (Γ' := [(1, _), (2, _)]) ⟨rfl, rfl, trivial⟩ (.k (.k (.k (.k (.k .z))))) ?_
  refine St.seq ?_
  refine St.seq ?_
  refine St.region ?_
  refine St.loadB 0 rfl rfl (.head _) rfl rfl ?_
  obtain ⟨r1, hr1, h⟩ := bnd_e h
  refine St.callV (c_activation_Valid hr1) ent20 rfl rfl rfl rfl ⟨(.tail _ (.head _)), (.tail _ (.tail _ (.head _))), (.tail _ (.tail _ (.tail _ (.head _)))), trivial⟩ ?_
  refine St.p rfl rfl ?_
  refine St.done ?_
  refine St.thenN ?_
  refine St.prune (Γ' := [(1, _), (2, _), (6, _)]) ⟨rfl, rfl, rfl, trivial⟩ (.k (.k (.k (.k (.k .z))))) ?_
  refine St.seq ?_
  refine St.region ?_
  refine St.p rfl rfl ?_
  refine St.p rfl rfl ?_
  refine St.done ?_
  refine St.thenN ?_
  refine St.prune (Γ' := [(1, _), (2, _), (6, _), (14, _)]) ⟨rfl, rfl, rfl, rfl, trivial⟩ (.k (.k (.k (.k (.k .z))))) ?_
  refine St.cond _ rfl (fun hb1 => ?_) (fun hb1 => ?_)
  · replace h := bif_t hb1 h
    refine St.seq ?_
    refine St.region ?_
    iterate 3 refine St.p rfl rfl ?_
    refine St.done ?_
    refine St.thenN ?_
    refine St.prune (Γ' := [(4, _), (5, _)]) ⟨rfl, rfl, trivial⟩ (.d (.d (.d (.d (.d .z))))) ?_
    refine St.ret ?_
    repeat (first | refine St.thenR ?_ | refine St.blkR ?_)
    injection h with h
    subst h
    exact St.finR Try.results38 (.tmp rfl (.tmp rfl .nil)) rfl [] ⟨rfl, rfl⟩ (fun _ w => (.z : Keep _ _).sat w)
  · replace h := bif_f hb1 h
    refine St.skip ?_
    refine St.thenN ?_
    refine St.prune (Γ' := [(1, _), (2, _)]) ⟨rfl, rfl, trivial⟩ (.k (.k (.k (.k (.k .z))))) ?_
    refine St.seq ?_
    refine St.region ?_
    refine St.loadB 0 rfl rfl (.head _) rfl rfl ?_
    obtain ⟨r2, hr2, h⟩ := bnd_e h
    refine St.callV (c_activation_all hr2) ent34 rfl rfl rfl rfl ⟨(.tail _ (.head _)), (.tail _ (.tail _ (.head _))), (.tail _ (.tail _ (.tail _ (.head _)))), trivial⟩ ?_
    refine St.p rfl rfl ?_
    refine St.p rfl rfl ?_
    refine St.done ?_
    refine St.thenN ?_
    refine St.prune (Γ' := [(1, _), (2, _), (7, _), (8, _)]) ⟨rfl, rfl, rfl, rfl, trivial⟩ (.k (.k (.k (.k (.k .z))))) ?_
    refine St.seq ?_
    refine St.seq ?_
    refine St.region ?_
    iterate 3 refine St.p rfl rfl ?_
    refine St.done ?_
    refine St.thenN ?_
    refine St.prune (Γ' := [(2, _), (7, _), (8, _), (18, _), (19, _), (20, _)]) ⟨rfl, rfl, rfl, rfl, rfl, rfl, trivial⟩ (.k (.k (.k (.k (.k .z))))) ?_
    obtain ⟨o1, hl1, h⟩ := bnd_e h
    refine St.cutI (fun (o2 : Int) (e2 : Unit) => [(8, .int .i64 o2)]) (fun o2 e2 => R) (fun o2 => o1 = .inr o2) ?_ ?_
    · refine St.block ?_
      refine St.loop hl1 (fun (s1 : Int × Int) (e1 : Unit) => [(2, .pointer (some ⟨g1, 0, none⟩)), (7, .int .i64 r2), (8, .int .i64 s1.1), (18, .slice A4 done.length c4), (19, .int .i64 (done.length : Int)), (20, .int .i64 s1.2)]) (fun s1 e1 => .res (Box g1 29 [.slice A1 p_p0.Now.length c1, .slice A2 p_p0.Next.length c2, .slice A3 p_p0.Needs.length c3]) :: .ro (SlL e_Installed A1 c1 p_p0.Now) :: .ro (SlL e_Installed A2 c2 p_p0.Next) :: .ro (SlL e_Need A3 c3 p_p0.Needs) :: .ro (SlL ei64 A4 c4 done) :: R) (fun _ _ => True) () trivial ⟨rfl, rfl, rfl, rfl, rfl, rfl, trivial⟩ (fun _ w => ((.k (.k (.k (.k (.k .z))))) : Keep _ _).sat w) ?_
      rintro s1 e1 - hit1
      obtain ⟨st1, hm1, hd1⟩ := iter_e hit1
      have h1 := hm1
      refine St.seq ?_
      refine St.region ?_
      refine St.p rfl rfl ?_
      refine St.done ?_
      refine St.thenN ?_
      refine St.seq ?_
      refine St.cond _ rfl (fun hb2 => ?_) (fun hb2 => ?_)
      · replace h1 := bif_t hb2 h1
        refine St.skip ?_
        refine St.thenN ?_
        refine St.prune (Γ' := [(2, _), (7, _), (8, _), (18, _), (19, _), (20, _)]) ⟨rfl, rfl, rfl, rfl, rfl, rfl, trivial⟩ (.k (.k (.k (.k (.k .z))))) ?_
        refine St.seq ?_
        refine St.block ?_
        refine St.seq ?_
        refine St.region ?_
        obtain ⟨x1, hx1, h1⟩ := bnd_e h1
        refine St.ixL hx1 rfl rfl rfl (.tail _ (.tail _ (.tail _ (.tail _ (.head _))))) rfl rfl rfl rfl rfl fun b1 ob1 => ?_
        refine St.load ob1 0 rfl rfl (.head _) rfl rfl ?_
        refine St.p rfl rfl ?_
        refine St.done ?_
        refine St.thenN ?_
        refine St.prune (Γ' := [(2, _), (7, _), (8, _), (10, _), (18, _), (19, _), (20, _)]) ⟨rfl, rfl, rfl, rfl, rfl, rfl, rfl, trivial⟩ (.d (.k (.k (.k (.k (.k .z)))))) ?_
        refine St.seq ?_
        refine St.seq ?_
        obtain ⟨o3, hj1, h1⟩ := bnd_e h1
        refine St.cutE (fun (e3 : Unit) => [(2, .pointer (some ⟨g1, 0, none⟩)), (7, .int .i64 r2), (8, .int .i64 s1.1), (10, .int .i64 x1), (18, .slice A4 done.length c4), (19, .int .i64 (done.length : Int)), (20, .int .i64 s1.2), (39, .bool o3)]) (fun e3 => .res (Box g1 29 [.slice A1 p_p0.Now.length c1, .slice A2 p_p0.Next.length c2, .slice A3 p_p0.Needs.length c3]) :: .ro (SlL e_Installed A1 c1 p_p0.Now) :: .ro (SlL e_Installed A2 c2 p_p0.Next) :: .ro (SlL e_Need A3 c3 p_p0.Needs) :: .ro (SlL ei64 A4 c4 done) :: R) ?_ ?_
        · refine St.region ?_
          iterate 3 refine St.p rfl rfl ?_
          refine St.gSplit (dj := 26) _ rfl (fun hb3 => ?_) (fun hb3 => ?_)
          · replace hj1 := bif_t hb3 hj1
            refine St.gOff (dj := 26) rfl rfl rfl rfl ?_
            refine St.gOff (dj := 26) rfl rfl rfl rfl ?_
            refine St.gOff (dj := 26) rfl rfl rfl rfl ?_
            refine St.gOff (dj := 26) rfl rfl rfl rfl ?_
            refine St.gOff (dj := 26) rfl rfl rfl rfl ?_
            refine St.p rfl rfl ?_
            refine St.p rfl rfl ?_
            refine St.gOff (dj := 33) rfl rfl rfl rfl ?_
            refine St.gOff (dj := 33) rfl rfl rfl rfl ?_
            refine St.gOff (dj := 33) rfl rfl rfl rfl ?_
            refine St.gOff (dj := 33) rfl rfl rfl rfl ?_
            refine St.gOff (dj := 33) rfl rfl rfl rfl ?_
            refine St.p rfl rfl ?_
            refine St.done ?_
            injection hj1 with hj1
            subst hj1
            refine St.thenN ?_
            exact St.hereE () ⟨rfl, rfl, rfl, rfl, rfl, rfl, rfl, rfl, trivial⟩ (fun _ w => ((.k (.k (.k (.k (.k .z))))) : Keep _ _).sat w)
          · replace hj1 := bif_f hb3 hj1
            refine St.gOn (dj := 26) rfl rfl ?_
            refine St.p rfl rfl ?_
            refine St.gOn (dj := 26) rfl rfl ?_
            refine St.p rfl rfl ?_
            refine St.gOn (dj := 26) rfl rfl ?_
            refine St.loadB 0 rfl rfl (.head _) rfl rfl ?_
            refine St.gOn (dj := 26) rfl rfl ?_
            refine St.p rfl rfl ?_
            refine St.gOn (dj := 26) rfl rfl ?_
            iterate 3 refine St.p rfl rfl ?_
            refine St.gSplit (dj := 33) _ rfl (fun hb4 => ?_) (fun hb4 => ?_)
            · replace hj1 := bif_t hb4 hj1
              refine St.gOff (dj := 33) rfl rfl rfl rfl ?_
              refine St.gOff (dj := 33) rfl rfl rfl rfl ?_
              refine St.gOff (dj := 33) rfl rfl rfl rfl ?_
              refine St.gOff (dj := 33) rfl rfl rfl rfl ?_
              refine St.gOff (dj := 33) rfl rfl rfl rfl ?_
              refine St.p rfl rfl ?_
              refine St.done ?_
              injection hj1 with hj1
              subst hj1
              refine St.thenN ?_
              exact St.hereE () ⟨rfl, rfl, rfl, rfl, rfl, rfl, rfl, rfl, trivial⟩ (fun _ w => ((.k (.k (.k (.k (.k .z))))) : Keep _ _).sat w)
            · replace hj1 := bif_f hb4 hj1
              refine St.gOn (dj := 33) rfl rfl ?_
              refine St.p rfl rfl ?_
              refine St.gOn (dj := 33) rfl rfl ?_
              refine St.p rfl rfl ?_
              refine St.gOn (dj := 33) rfl rfl ?_
              obtain ⟨q1, hq1, hj1⟩ := bnd_e hj1
              refine St.shr rfl rfl rfl hq1 ?_
              refine St.gOn (dj := 33) rfl rfl ?_
              refine St.p rfl rfl ?_
              refine St.gOn (dj := 33) rfl rfl ?_
              refine St.p rfl rfl ?_
              refine St.p rfl rfl ?_
              refine St.done ?_
              injection hj1 with hj1
              subst hj1
              refine St.thenN ?_
              exact St.hereE () ⟨rfl, rfl, rfl, rfl, rfl, rfl, rfl, rfl, trivial⟩ (fun _ w => ((.k (.k (.k (.k (.k .z))))) : Keep _ _).sat w)
        · rintro e3
          refine St.cond _ rfl (fun hb5 => ?_) (fun hb5 => ?_)
          · replace h1 := bif_t hb5 h1
            refine St.seq ?_
            refine St.region ?_
            refine St.p rfl rfl ?_
            refine St.p rfl rfl ?_
            refine St.done ?_
            refine St.thenN ?_
            refine St.prune (Γ' := [(4, _), (5, _)]) ⟨rfl, rfl, trivial⟩ (.d (.d (.d (.d (.d .z))))) ?_
            refine St.ret ?_
            repeat (first | refine St.thenR ?_ | refine St.blkR ?_)
            injection h1 with h1
            subst h1
            have ho := hd1 _ rfl
            subst ho
            have h : some _ = some _ := h
            injection h with h
            subst h
            exact St.finR Try.results38 (.tmp rfl (.tmp rfl .nil)) rfl [] ⟨rfl, rfl⟩ (fun _ w => (.z : Keep _ _).sat w)
          · replace h1 := bif_f hb5 h1
            refine St.skip ?_
            refine St.thenN ?_
            refine St.prune (Γ' := [(2, _), (7, _), (8, _), (10, _), (18, _), (19, _), (20, _)]) ⟨rfl, rfl, rfl, rfl, rfl, rfl, rfl, trivial⟩ (.k (.k (.k (.k (.k .z))))) ?_
            refine St.seq ?_
            refine St.seq ?_
            refine St.region ?_
            refine St.p rfl rfl ?_
            refine St.p rfl rfl ?_
            obtain ⟨q2, hq2, h1⟩ := bnd_e h1
            refine St.shr rfl rfl rfl hq2 ?_
            refine St.p rfl rfl ?_
            refine St.p rfl rfl ?_
            refine St.done ?_
            refine St.thenN ?_
            refine St.prune (Γ' := [(2, _), (7, _), (8, _), (10, _), (18, _), (19, _), (20, _), (44, _)]) ⟨rfl, rfl, rfl, rfl, rfl, rfl, rfl, rfl, trivial⟩ (.k (.k (.k (.k (.k .z))))) ?_
            refine St.cond _ rfl (fun hb6 => ?_) (fun hb6 => ?_)
            · replace h1 := bif_t hb6 h1
              refine St.seq ?_
              refine St.region ?_
              refine St.p rfl rfl ?_
              refine St.p rfl rfl ?_
              refine St.done ?_
              refine St.thenN ?_
              refine St.prune (Γ' := [(4, _), (5, _)]) ⟨rfl, rfl, trivial⟩ (.d (.d (.d (.d (.d .z))))) ?_
              refine St.ret ?_
              repeat (first | refine St.thenR ?_ | refine St.blkR ?_)
              injection h1 with h1
              subst h1
              have ho := hd1 _ rfl
              subst ho
              have h : some _ = some _ := h
              injection h with h
              subst h
              exact St.finR Try.results38 (.tmp rfl (.tmp rfl .nil)) rfl [] ⟨rfl, rfl⟩ (fun _ w => (.z : Keep _ _).sat w)
            · replace h1 := bif_f hb6 h1
              refine St.skip ?_
              refine St.thenN ?_
              refine St.prune (Γ' := [(2, _), (7, _), (8, _), (10, _), (18, _), (19, _), (20, _)]) ⟨rfl, rfl, rfl, rfl, rfl, rfl, rfl, trivial⟩ (.k (.k (.k (.k (.k .z))))) ?_
              refine St.region ?_
              refine St.p rfl rfl ?_
              refine St.p rfl rfl ?_
              obtain ⟨q3, hq3, h1⟩ := bnd_e h1
              refine St.shl rfl rfl rfl hq3 ?_
              refine St.p rfl rfl ?_
              refine St.p rfl rfl ?_
              refine St.done ?_
              refine St.blkN ?_
              refine St.thenN ?_
              refine St.prune (Γ' := [(2, _), (7, _), (8, _), (18, _), (19, _), (20, _)]) ⟨rfl, rfl, rfl, rfl, rfl, rfl, trivial⟩ (.k (.k (.k (.k (.k .z))))) ?_
              refine St.region ?_
              refine St.p rfl rfl ?_
              refine St.p rfl rfl ?_
              refine St.done ?_
              injection h1 with h1
              subst h1
              refine St.thenN ?_
              exact St.again _ () hm1 trivial ⟨rfl, rfl, rfl, rfl, rfl, rfl, trivial⟩ (fun _ w => ((.k (.k (.k (.k (.k .z))))) : Keep _ _).sat w)
      · replace h1 := bif_f hb2 h1
        refine St.exit ?_
        repeat (first | refine St.thenX ?_ | refine St.blkMiss rfl ?_)
        refine St.blkHit ?_
        injection h1 with h1
        subst h1
        have ho := hd1 _ rfl
        subst ho
        refine St.thenN ?_
        exact St.hereI s1.1 () rfl ⟨rfl, trivial⟩ (fun _ w => ((.d (.d (.d (.d (.d .z))))) : Keep _ _).sat w)
    · rintro o2 e2 ho
      subst ho
      have h : _ = some _ := h
      refine St.seq ?_
      refine St.region ?_
      iterate 3 refine St.p rfl rfl ?_
      refine St.done ?_
      refine St.thenN ?_
      refine St.prune (Γ' := [(4, _), (5, _)]) ⟨rfl, rfl, trivial⟩ .z ?_
      refine St.ret ?_
      repeat (first | refine St.thenR ?_ | refine St.blkR ?_)
      injection h with h
      subst h
      exact St.finR Try.results38 (.tmp rfl (.tmp rfl .nil)) rfl [] ⟨rfl, rfl⟩ (fun _ w => (.z : Keep _ _).sat w)

theorem ent15 : Ent Try.prog 15 := ⟨_, Try.func15, by kernel_rfl, by kernel_rfl⟩

noncomputable def m_activation_Check (p_p0 : T_Plan) (order : (List Int)) : Option (Int × Int) :=
  bnd (m_activation_gather p_p0 order) fun r1 => bif (r1.2 != 0) then (some (0, r1.2)) else (bnd (loopM (τ := (Int × Int) ⊕ Unit) (fun (s1 : Int × Int) => bnd (m_activation_good p_p0 s1.1) fun r2 => bif !r2 then (some (.done (.inl (s1.2, 0)))) else (bif (s1.2 == (order.length : Int)) then (some (.done (.inl ((-1), 0)))) else (bnd (elt order s1.2) fun x1 => bnd (shlM .i64 1 x1) fun q1 => some (.next (iOr .i64 s1.1 q1, IntKind.wrap .i64 (s1.2 + 1)))))) (0, 0)) fun o1 => retOr o1 fun o2 => none)

theorem c_activation_Check {p_p0 : T_Plan} {order : (List Int)} {A1 : Option Addr} {c1 : Nat} {A2 : Option Addr} {c2 : Nat} {A3 : Option Addr} {c3 : Nat} {A4 : Option Addr} {c4 : Nat} {r : (Int × Int)} (h : m_activation_Check p_p0 order = some r) :
    Fun Try.prog 15 [.agg #[.slice A1 p_p0.Now.length c1, .slice A2 p_p0.Next.length c2, .slice A3 p_p0.Needs.length c3], .slice A4 order.length c4] [.ro (SlL e_Installed A1 c1 p_p0.Now), .ro (SlL e_Installed A2 c2 p_p0.Next), .ro (SlL e_Need A3 c3 p_p0.Needs), .ro (SlL ei64 A4 c4 order)] (Val (.tuple #[.int .i64 r.1, .int .i64 r.2])) := by
  unfold m_activation_Check at h
  refine Fun.intro Try.func15 rfl rfl rfl fun w R => ?_
  refine St.seq ?_
  refine St.region ?_
  refine St.box rfl rfl fun g1 => ?_
  refine St.p rfl rfl ?_
  refine St.p rfl rfl ?_
  refine St.done ?_
  refine St.thenN ?_
  refine St.prune (Γ' := [(1, _), (2, _)]) ⟨rfl, rfl, trivial⟩ (.k (.k (.k (.k (.k .z))))) ?_
  refine St.seq ?_
  refine St.seq ?_
  refine St.region ?_
  refine St.loadB 0 rfl rfl (.head _) rfl rfl ?_
  refine St.p rfl rfl ?_
  obtain ⟨r1, hr1, h⟩ := bnd_e h
  refine St.callV (c_activation_gather hr1) ent38 rfl rfl rfl rfl ⟨(.tail _ (.head _)), (.tail _ (.tail _ (.head _))), (.tail _ (.tail _ (.tail _ (.head _)))), (.tail _ (.tail _ (.tail _ (.tail _ (.head _))))), trivial⟩ ?_
  iterate 5 refine St.p rfl rfl ?_
  refine St.done ?_
  refine St.thenN ?_
  refine St.prune (Γ' := [(1, _), (2, _), (7, _)]) ⟨rfl, rfl, rfl, trivial⟩ (.k (.k (.k (.k (.k .z))))) ?_
  refine St.seq ?_
  refine St.region ?_
  refine St.p rfl rfl ?_
  refine St.p rfl rfl ?_
  refine St.done ?_
  refine St.thenN ?_
  refine St.prune (Γ' := [(1, _), (2, _), (7, _), (17, _)]) ⟨rfl, rfl, rfl, rfl, trivial⟩ (.k (.k (.k (.k (.k .z))))) ?_
  refine St.cond _ rfl (fun hb1 => ?_) (fun hb1 => ?_)
  · replace h := bif_t hb1 h
    refine St.seq ?_
    refine St.region ?_
    iterate 3 refine St.p rfl rfl ?_
    refine St.done ?_
    refine St.thenN ?_
    refine St.prune (Γ' := [(4, _), (5, _)]) ⟨rfl, rfl, trivial⟩ (.d (.d (.d (.d (.d .z))))) ?_
    refine St.ret ?_
    repeat (first | refine St.thenR ?_ | refine St.blkR ?_)
    injection h with h
    subst h
    exact St.finR Try.results15 (.tmp rfl (.tmp rfl .nil)) rfl [] ⟨rfl, rfl⟩ (fun _ w => (.z : Keep _ _).sat w)
  · replace h := bif_f hb1 h
    refine St.skip ?_
    refine St.thenN ?_
    refine St.prune (Γ' := [(1, _), (2, _)]) ⟨rfl, rfl, trivial⟩ (.k (.k (.k (.k (.k .z))))) ?_
    refine St.seq ?_
    refine St.region ?_
    refine St.p rfl rfl ?_
    refine St.done ?_
    refine St.thenN ?_
    refine St.seq ?_
    refine St.region ?_
    refine St.p rfl rfl ?_
    refine St.done ?_
    refine St.thenN ?_
    obtain ⟨o1, hl1, h⟩ := bnd_e h
    refine St.selfThen ?_
    refine St.cutI (fun (o2 : Unit) (e2 : Unit) => []) (fun o2 e2 => R) (fun o2 => o1 = .inr o2) ?_ ?_
    · refine St.block ?_
      refine St.loop hl1 (fun (s1 : Int × Int) (e1 : Unit) => [(1, .slice A4 order.length c4), (2, .pointer (some ⟨g1, 0, none⟩)), (8, .int .i64 s1.1), (9, .int .i64 s1.2)]) (fun s1 e1 => .res (Box g1 29 [.slice A1 p_p0.Now.length c1, .slice A2 p_p0.Next.length c2, .slice A3 p_p0.Needs.length c3]) :: .ro (SlL e_Installed A1 c1 p_p0.Now) :: .ro (SlL e_Installed A2 c2 p_p0.Next) :: .ro (SlL e_Need A3 c3 p_p0.Needs) :: .ro (SlL ei64 A4 c4 order) :: R) (fun _ _ => True) () trivial ⟨rfl, rfl, rfl, rfl, trivial⟩ (fun _ w => ((.k (.k (.k (.k (.k .z))))) : Keep _ _).sat w) ?_
      rintro s1 e1 - hit1
      obtain ⟨st1, hm1, hd1⟩ := iter_e hit1
      have h1 := hm1
      refine St.seq ?_
      refine St.block ?_
      refine St.seq ?_
      refine St.seq ?_
      refine St.region ?_
      refine St.loadB 0 rfl rfl (.head _) rfl rfl ?_
      refine St.p rfl rfl ?_
      obtain ⟨r2, hr2, h1⟩ := bnd_e h1
      refine St.callV (c_activation_good hr2) ent36 rfl rfl rfl rfl ⟨(.tail _ (.head _)), (.tail _ (.tail _ (.head _))), (.tail _ (.tail _ (.tail _ (.head _)))), trivial⟩ ?_
      refine St.p rfl rfl ?_
      refine St.done ?_
      refine St.thenN ?_
      refine St.prune (Γ' := [(1, _), (2, _), (8, _), (9, _), (24, _)]) ⟨rfl, rfl, rfl, rfl, rfl, trivial⟩ (.k (.k (.k (.k (.k .z))))) ?_
      refine St.cond _ rfl (fun hb2 => ?_) (fun hb2 => ?_)
      · replace h1 := bif_t hb2 h1
        refine St.seq ?_
        refine St.region ?_
        iterate 3 refine St.p rfl rfl ?_
        refine St.done ?_
        refine St.thenN ?_
        refine St.prune (Γ' := [(4, _), (5, _)]) ⟨rfl, rfl, trivial⟩ (.d (.d (.d (.d (.d .z))))) ?_
        refine St.ret ?_
        repeat (first | refine St.thenR ?_ | refine St.blkR ?_)
        injection h1 with h1
        subst h1
        have ho := hd1 _ rfl
        subst ho
        have h : some _ = some _ := h
        injection h with h
        subst h
        exact St.finR Try.results15 (.tmp rfl (.tmp rfl .nil)) rfl [] ⟨rfl, rfl⟩ (fun _ w => (.z : Keep _ _).sat w)
      · replace h1 := bif_f hb2 h1
        refine St.skip ?_
        refine St.thenN ?_
        refine St.prune (Γ' := [(1, _), (2, _), (8, _), (9, _)]) ⟨rfl, rfl, rfl, rfl, trivial⟩ (.k (.k (.k (.k (.k .z))))) ?_
        refine St.seq ?_
        refine St.seq ?_
        refine St.region ?_
        iterate 4 refine St.p rfl rfl ?_
        refine St.done ?_
        refine St.thenN ?_
        refine St.prune (Γ' := [(1, _), (2, _), (8, _), (9, _), (29, _)]) ⟨rfl, rfl, rfl, rfl, rfl, trivial⟩ (.k (.k (.k (.k (.k .z))))) ?_
        refine St.cond _ rfl (fun hb3 => ?_) (fun hb3 => ?_)
        · replace h1 := bif_t hb3 h1
          refine St.seq ?_
          refine St.region ?_
          refine St.p rfl rfl ?_
          refine St.p rfl rfl ?_
          refine St.done ?_
          refine St.thenN ?_
          refine St.prune (Γ' := [(4, _), (5, _)]) ⟨rfl, rfl, trivial⟩ (.d (.d (.d (.d (.d .z))))) ?_
          refine St.ret ?_
          repeat (first | refine St.thenR ?_ | refine St.blkR ?_)
          injection h1 with h1
          subst h1
          have ho := hd1 _ rfl
          subst ho
          have h : some _ = some _ := h
          injection h with h
          subst h
          exact St.finR Try.results15 (.tmp rfl (.tmp rfl .nil)) rfl [] ⟨rfl, rfl⟩ (fun _ w => (.z : Keep _ _).sat w)
        · replace h1 := bif_f hb3 h1
          refine St.skip ?_
          refine St.thenN ?_
          refine St.prune (Γ' := [(1, _), (2, _), (8, _), (9, _)]) ⟨rfl, rfl, rfl, rfl, trivial⟩ (.k (.k (.k (.k (.k .z))))) ?_
          refine St.region ?_
          iterate 3 refine St.p rfl rfl ?_
          obtain ⟨x1, hx1, h1⟩ := bnd_e h1
          refine St.ixL hx1 rfl rfl rfl (.tail _ (.tail _ (.tail _ (.tail _ (.head _))))) rfl rfl rfl rfl rfl fun b1 ob1 => ?_
          refine St.load ob1 0 rfl rfl (.head _) rfl rfl ?_
          obtain ⟨q1, hq1, h1⟩ := bnd_e h1
          refine St.shl rfl rfl rfl hq1 ?_
          refine St.p rfl rfl ?_
          refine St.p rfl rfl ?_
          refine St.done ?_
          refine St.blkN ?_
          refine St.thenN ?_
          refine St.prune (Γ' := [(1, _), (2, _), (8, _), (9, _)]) ⟨rfl, rfl, rfl, rfl, trivial⟩ (.d (.k (.k (.k (.k (.k .z)))))) ?_
          refine St.region ?_
          iterate 3 refine St.p rfl rfl ?_
          refine St.done ?_
          injection h1 with h1
          subst h1
          refine St.thenN ?_
          exact St.again _ () hm1 trivial ⟨rfl, rfl, rfl, rfl, trivial⟩ (fun _ w => ((.k (.k (.k (.k (.k .z))))) : Keep _ _).sat w)
    · rintro o2 e2 ho
      subst ho
      have h : _ = some _ := h
      have h : none = some _ := h
      cases h

theorem ent16 : Ent Try.prog 16 := ⟨_, Try.func16, by kernel_rfl, by kernel_rfl⟩

noncomputable def m_activation_State (p_p0 : T_Plan) (done : (List Int)) : Option ((List T_Installed) × Int) :=
  bnd (m_activation_gather p_p0 done) fun r1 => bif (r1.2 != 0) then (some ([], r1.2)) else (bnd (m_activation_state p_p0 r1.1) fun r2 => some (r2, 0))

theorem c_activation_State {p_p0 : T_Plan} {done : (List Int)} {A1 : Option Addr} {c1 : Nat} {A2 : Option Addr} {c2 : Nat} {A3 : Option Addr} {c3 : Nat} {A4 : Option Addr} {c4 : Nat} {r : ((List T_Installed) × Int)} (h : m_activation_State p_p0 done = some r) :
    Fun Try.prog 16 [.agg #[.slice A1 p_p0.Now.length c1, .slice A2 p_p0.Next.length c2, .slice A3 p_p0.Needs.length c3], .slice A4 done.length c4] [.ro (SlL e_Installed A1 c1 p_p0.Now), .ro (SlL e_Installed A2 c2 p_p0.Next), .ro (SlL e_Need A3 c3 p_p0.Needs), .ro (SlL ei64 A4 c4 done)] (fun v_ F_ => ∃ (A1 : Option Addr) (c1 : Nat), v_ = .tuple #[.slice A1 r.1.length c1, .int .i64 r.2] ∧ F_ = [.res (OwnL e_Installed 31 A1 c1 r.1)]) := by
  unfold m_activation_State at h
  refine Fun.intro Try.func16 rfl rfl rfl fun w R => ?_
  refine St.seq ?_
  refine St.region ?_
  refine St.box rfl rfl fun g1 => ?_
  refine St.p rfl rfl ?_
  refine St.p rfl rfl ?_
  refine St.done ?_
  refine St.thenN ?_
  refine St.prune (Γ' := [(1, _), (2, _)]) ⟨rfl, rfl, trivial⟩ (.k (.k (.k (.k (.k .z))))) ?_
  refine St.seq ?_
  refine St.region ?_
  refine St.loadB 0 rfl rfl (.head _) rfl rfl ?_
  refine St.p rfl rfl ?_
  obtain ⟨r1, hr1, h⟩ := bnd_e h
  refine St.callV (c_activation_gather hr1) ent38 rfl rfl rfl rfl ⟨(.tail _ (.head _)), (.tail _ (.tail _ (.head _))), (.tail _ (.tail _ (.tail _ (.head _)))), (.tail _ (.tail _ (.tail _ (.tail _ (.head _))))), trivial⟩ ?_
  iterate 5 refine St.p rfl rfl ?_
  refine St.done ?_
  refine St.thenN ?_
  refine St.prune (Γ' := [(2, _), (6, _), (7, _)]) ⟨rfl, rfl, rfl, trivial⟩ (.k (.k (.k (.k (.d .z))))) ?_
  refine St.seq ?_
  refine St.seq ?_
  refine St.region ?_
  refine St.p rfl rfl ?_
  refine St.p rfl rfl ?_
  refine St.done ?_
  refine St.thenN ?_
  refine St.prune (Γ' := [(2, _), (6, _), (7, _), (15, _)]) ⟨rfl, rfl, rfl, rfl, trivial⟩ (.k (.k (.k (.k .z)))) ?_
  refine St.cond _ rfl (fun hb1 => ?_) (fun hb1 => ?_)
  · replace h := bif_t hb1 h
    refine St.seq ?_
    refine St.region ?_
    iterate 3 refine St.p rfl rfl ?_
    refine St.done ?_
    refine St.thenN ?_
    refine St.prune (Γ' := [(4, _), (5, _)]) ⟨rfl, rfl, trivial⟩ (.d (.d (.d (.d .z)))) ?_
    refine St.ret ?_
    repeat (first | refine St.thenR ?_ | refine St.blkR ?_)
    refine St.asrt (fun _ w => w.nilL e_Installed 31) ?_
    injection h with h
    subst h
    exact St.finR Try.results16 (.tmp rfl (.tmp rfl .nil)) rfl [.res (OwnL e_Installed 31 none 0 ([] : List T_Installed))] ⟨none, 0, rfl, rfl⟩ (fun _ w => ((.k .z) : Keep _ _).sat w)
  · replace h := bif_f hb1 h
    refine St.skip ?_
    refine St.thenN ?_
    refine St.prune (Γ' := [(2, _), (6, _)]) ⟨rfl, rfl, trivial⟩ (.k (.k (.k (.k .z)))) ?_
    refine St.seq ?_
    refine St.region ?_
    refine St.loadB 0 rfl rfl (.head _) rfl rfl ?_
    refine St.p rfl rfl ?_
    obtain ⟨r2, hr2, h⟩ := bnd_e h
    refine St.call (c_activation_state hr2) ent39 rfl rfl rfl (fun _ w => Sat.dup (G := [.ro (SlL e_Installed A1 c1 p_p0.Now), .ro (SlL e_Installed A2 c2 p_p0.Next), .ro (SlL e_Need A3 c3 p_p0.Needs)]) rfl ⟨(.tail _ (.head _)), (.tail _ (.tail _ (.head _))), (.tail _ (.tail _ (.tail _ (.head _)))), trivial⟩ w) ?_
    rintro _ _ ⟨A5, c5, rfl, rfl⟩
    refine St.asrt (F' := .res (OwnL e_Installed 31 A5 c5 r2) :: .res (Box g1 29 [.slice A1 p_p0.Now.length c1, .slice A2 p_p0.Next.length c2, .slice A3 p_p0.Needs.length c3]) :: .ro (SlL e_Installed A1 c1 p_p0.Now) :: .ro (SlL e_Installed A2 c2 p_p0.Next) :: .ro (SlL e_Need A3 c3 p_p0.Needs) :: R) (fun _ w => w) ?_
    refine St.p rfl rfl ?_
    refine St.p rfl rfl ?_
    refine St.done ?_
    refine St.thenN ?_
    refine St.prune (Γ' := [(4, _), (5, _)]) ⟨rfl, rfl, trivial⟩ (.k (.d (.d (.d (.d .z))))) ?_
    refine St.ret ?_
    repeat (first | refine St.thenR ?_ | refine St.blkR ?_)
    injection h with h
    subst h
    exact St.finR Try.results16 (.tmp rfl (.tmp rfl .nil)) rfl [.res (OwnL e_Installed 31 A5 c5 r2)] ⟨A5, c5, rfl, rfl⟩ (fun _ w => ((.k .z) : Keep _ _).sat w)

theorem ent19 : Ent Try.prog 19 := ⟨_, Try.func19, by kernel_rfl, by kernel_rfl⟩

noncomputable def m_activation_Steps (p_p0 : T_Plan) : Option (List Int) :=
  bnd (m_activation_Valid p_p0) fun r1 => bif (r1 != 0) then (some ([])) else (bnd (m_activation_all p_p0) fun r2 => bnd (loopM (τ := List Int) (fun (s1 : List Int × Int × Int) => bif decide (s1.2.2 > 0) then (bif ((iAnd .i64 s1.2.2 1) == 1) then (bnd (app 8 s1.1 [s1.2.1]) fun l1 => some (.next (l1, IntKind.wrap .i64 (s1.2.1 + 1), iShr .i64 s1.2.2 1))) else (some (.next (s1.1, IntKind.wrap .i64 (s1.2.1 + 1), iShr .i64 s1.2.2 1)))) else (some (.done s1.1))) ([], 0, r2)) fun o1 => some o1)

theorem c_activation_Steps {p_p0 : T_Plan} {A1 : Option Addr} {c1 : Nat} {A2 : Option Addr} {c2 : Nat} {A3 : Option Addr} {c3 : Nat} {r : (List Int)} (h : m_activation_Steps p_p0 = some r) :
    Fun Try.prog 19 [.agg #[.slice A1 p_p0.Now.length c1, .slice A2 p_p0.Next.length c2, .slice A3 p_p0.Needs.length c3]] [.ro (SlL e_Installed A1 c1 p_p0.Now), .ro (SlL e_Installed A2 c2 p_p0.Next), .ro (SlL e_Need A3 c3 p_p0.Needs)] (fun v_ F_ => ∃ (A1 : Option Addr) (c1 : Nat), v_ = .slice A1 r.length c1 ∧ F_ = [.res (OwnL ei64 3 A1 c1 r)]) := by
  unfold m_activation_Steps at h
  refine Fun.intro Try.func19 rfl rfl rfl fun w R => ?_
  refine St.seq ?_
  refine St.region ?_
  refine St.box rfl rfl fun g1 => ?_
  refine St.p rfl rfl ?_
  refine St.done ?_
  refine St.thenN ?_
  refine St.prune (Γ' := [(1, _)]) ⟨rfl, trivial⟩ (.k (.k (.k (.k .z)))) ?_
  refine St.seq ?_
  refine St.seq ?_
  refine St.region ?_
  refine St.loadB 0 rfl rfl (.head _) rfl rfl ?_
  obtain ⟨r1, hr1, h⟩ := bnd_e h
  refine St.callV (c_activation_Valid hr1) ent20 rfl rfl rfl rfl ⟨(.tail _ (.head _)), (.tail _ (.tail _ (.head _))), (.tail _ (.tail _ (.tail _ (.head _)))), trivial⟩ ?_
  refine St.p rfl rfl ?_
  refine St.done ?_
  refine St.thenN ?_
  refine St.prune (Γ' := [(1, _), (8, _)]) ⟨rfl, rfl, trivial⟩ (.k (.k (.k (.k .z)))) ?_
  refine St.cond _ rfl (fun hb1 => ?_) (fun hb1 => ?_)
  · replace h := bif_t hb1 h
    refine St.seq ?_
    refine St.region ?_
    refine St.p rfl rfl ?_
    refine St.done ?_
    refine St.thenN ?_
    refine St.prune (Γ' := [(2, _)]) ⟨rfl, trivial⟩ (.d (.d (.d (.d .z)))) ?_
    refine St.ret ?_
    repeat (first | refine St.thenR ?_ | refine St.blkR ?_)
    refine St.asrt (fun _ w => w.nilL ei64 3) ?_
    injection h with h
    subst h
    exact St.finR Try.results19 (.tmp rfl .nil) rfl [.res (OwnL ei64 3 none 0 ([] : List Int))] ⟨none, 0, rfl, rfl⟩ (fun _ w => ((.k .z) : Keep _ _).sat w)
  · replace h := bif_f hb1 h
    refine St.skip ?_
    refine St.thenN ?_
    refine St.prune (Γ' := [(1, _)]) ⟨rfl, trivial⟩ (.k (.k (.k (.k .z)))) ?_
    refine St.seq ?_
    refine St.region ?_
    refine St.p rfl rfl ?_
    refine St.done ?_
    refine St.thenN ?_
    refine St.seq ?_
    refine St.seq ?_
    refine St.region ?_
    refine St.loadB 0 rfl rfl (.head _) rfl rfl ?_
    obtain ⟨r2, hr2, h⟩ := bnd_e h
    refine St.callV (c_activation_all hr2) ent34 rfl rfl rfl rfl ⟨(.tail _ (.head _)), (.tail _ (.tail _ (.head _))), (.tail _ (.tail _ (.tail _ (.head _)))), trivial⟩ ?_
    refine St.p rfl rfl ?_
    refine St.p rfl rfl ?_
    refine St.done ?_
    refine St.thenN ?_
    refine St.prune (Γ' := [(3, _), (4, _), (5, _)]) ⟨rfl, rfl, rfl, trivial⟩ (.d (.d (.d (.d .z)))) ?_
    refine St.asrt (fun _ w => w.nilL ei64 3) ?_
    obtain ⟨o1, hl1, h⟩ := bnd_e h
    refine St.cutE (fun (e2 : Option Addr × Nat) => [(3, .slice e2.1 o1.length e2.2)]) (fun e2 => .res (OwnL ei64 3 e2.1 e2.2 o1) :: R) ?_ ?_
    · refine St.block ?_
      refine St.loop hl1 (fun (s1 : List Int × Int × Int) (e1 : Option Addr × Nat) => [(3, .slice e1.1 s1.1.length e1.2), (4, .int .i64 s1.2.1), (5, .int .i64 s1.2.2)]) (fun s1 e1 => .res (OwnL ei64 3 e1.1 e1.2 s1.1) :: R) (fun _ _ => True) (none, 0) trivial ⟨rfl, rfl, rfl, trivial⟩ (fun _ w => ((.k .z) : Keep _ _).sat w) ?_
      rintro s1 ⟨A4, c4⟩ - hit1
      obtain ⟨st1, hm1, hd1⟩ := iter_e hit1
      have h1 := hm1
      refine St.seq ?_
      refine St.seq ?_
      refine St.region ?_
      refine St.p rfl rfl ?_
      refine St.p rfl rfl ?_
      refine St.done ?_
      refine St.thenN ?_
      refine St.prune (Γ' := [(3, _), (4, _), (5, _), (12, _)]) ⟨rfl, rfl, rfl, rfl, trivial⟩ (.k .z) ?_
      refine St.cond _ rfl (fun hb2 => ?_) (fun hb2 => ?_)
      · replace h1 := bif_t hb2 h1
        refine St.skip ?_
        refine St.thenN ?_
        refine St.prune (Γ' := [(3, _), (4, _), (5, _)]) ⟨rfl, rfl, rfl, trivial⟩ (.k .z) ?_
        refine St.seq ?_
        refine St.block ?_
        refine St.seq ?_
        refine St.region ?_
        iterate 3 refine St.p rfl rfl ?_
        refine St.done ?_
        refine St.thenN ?_
        refine St.prune (Γ' := [(3, _), (4, _), (5, _), (19, _)]) ⟨rfl, rfl, rfl, rfl, trivial⟩ (.k .z) ?_
        refine St.cond _ rfl (fun hb3 => ?_) (fun hb3 => ?_)
        · replace h1 := bif_t hb3 h1
          refine St.region ?_
          refine St.p rfl rfl ?_
          refine St.p rfl rfl ?_
          refine St.buildSlice rfl rfl rfl rfl rfl rfl rfl rfl fun g2 => ?_
          obtain ⟨l1, hl1, h1⟩ := bnd_e h1
          refine St.app (E := ei64) hl1 rfl rfl rfl (.s .z) rfl rfl rfl rfl rfl rfl rfl rfl (srcB (.head _) rfl rfl) rfl rfl fun A6 c6 => ?_
          refine St.p rfl rfl ?_
          refine St.done ?_
          refine St.blkN ?_
          refine St.thenN ?_
          refine St.prune (Γ' := [(3, _), (4, _), (5, _)]) ⟨rfl, rfl, rfl, trivial⟩ (.k (.d .z)) ?_
          refine St.region ?_
          iterate 6 refine St.p rfl rfl ?_
          refine St.done ?_
          injection h1 with h1
          subst h1
          refine St.thenN ?_
          exact St.again _ (A6, c6) hm1 trivial ⟨rfl, rfl, rfl, trivial⟩ (fun _ w => ((.k .z) : Keep _ _).sat w)
        · replace h1 := bif_f hb3 h1
          refine St.skip ?_
          refine St.blkN ?_
          refine St.thenN ?_
          refine St.prune (Γ' := [(3, _), (4, _), (5, _)]) ⟨rfl, rfl, rfl, trivial⟩ (.k .z) ?_
          refine St.region ?_
          iterate 6 refine St.p rfl rfl ?_
          refine St.done ?_
          injection h1 with h1
          subst h1
          refine St.thenN ?_
          exact St.again _ (A4, c4) hm1 trivial ⟨rfl, rfl, rfl, trivial⟩ (fun _ w => ((.k .z) : Keep _ _).sat w)
      · replace h1 := bif_f hb2 h1
        refine St.exit ?_
        repeat (first | refine St.thenX ?_ | refine St.blkMiss rfl ?_)
        refine St.blkHit ?_
        injection h1 with h1
        subst h1
        have ho := hd1 _ rfl
        subst ho
        refine St.thenN ?_
        exact St.hereE (A4, c4) ⟨rfl, trivial⟩ (fun _ w => ((.k .z) : Keep _ _).sat w)
    · rintro ⟨A5, c5⟩
      refine St.seq ?_
      refine St.region ?_
      refine St.p rfl rfl ?_
      refine St.p rfl rfl ?_
      refine St.done ?_
      refine St.thenN ?_
      refine St.prune (Γ' := [(2, _)]) ⟨rfl, trivial⟩ (.k .z) ?_
      refine St.ret ?_
      repeat (first | refine St.thenR ?_ | refine St.blkR ?_)
      injection h with h
      subst h
      exact St.finR Try.results19 (.tmp rfl .nil) rfl [.res (OwnL ei64 3 A5 c5 o1)] ⟨A5, c5, rfl, rfl⟩ (fun _ w => ((.k .z) : Keep _ _).sat w)

theorem ent18 : Ent Try.prog 18 := ⟨_, Try.func18, by kernel_rfl, by kernel_rfl⟩

noncomputable def m_law31_ints (a_p0 : (List Int)) (b_p1 : (List Int)) : Option Bool :=
  bif ((a_p0.length : Int) != (b_p1.length : Int)) then (some false) else (bnd (loopM (τ := Bool ⊕ Unit) (fun (s1 : Int) => bif decide (s1 < (a_p0.length : Int)) then (bnd (elt a_p0 s1) fun x1 => bnd (elt b_p1 s1) fun x2 => bif (x1 != x2) then (some (.done (.inl false))) else (some (.next (IntKind.wrap .i64 (s1 + 1))))) else (some (.done (.inr ())))) 0) fun o1 => retOr o1 fun o2 => some true)

theorem c_law31_ints {a_p0 : (List Int)} {b_p1 : (List Int)} {A1 : Option Addr} {c1 : Nat} {A2 : Option Addr} {c2 : Nat} {r : Bool} (h : m_law31_ints a_p0 b_p1 = some r) :
    Fun Try.prog 18 [.slice A1 a_p0.length c1, .slice A2 b_p1.length c2] [.ro (SlL ei64 A1 c1 a_p0), .ro (SlL ei64 A2 c2 b_p1)] (Val (.bool r)) := by
  unfold m_law31_ints at h
  refine Fun.intro Try.func18 rfl rfl rfl fun w R => ?_
  refine St.seq ?_
  refine St.region ?_
  refine St.p rfl rfl ?_
  refine St.done ?_
  refine St.thenN ?_
  refine St.prune (Γ' := [(0, _), (1, _)]) ⟨rfl, rfl, trivial⟩ (.k (.k .z)) ?_
  refine St.seq ?_
  refine St.seq ?_
  refine St.region ?_
  iterate 5 refine St.p rfl rfl ?_
  refine St.done ?_
  refine St.thenN ?_
  refine St.prune (Γ' := [(0, _), (1, _), (10, _)]) ⟨rfl, rfl, rfl, trivial⟩ (.k (.k .z)) ?_
  refine St.cond _ rfl (fun hb1 => ?_) (fun hb1 => ?_)
  · replace h := bif_t hb1 h
    refine St.seq ?_
    refine St.region ?_
    refine St.p rfl rfl ?_
    refine St.done ?_
    refine St.thenN ?_
    refine St.prune (Γ' := [(4, _)]) ⟨rfl, trivial⟩ (.d (.d .z)) ?_
    refine St.ret ?_
    repeat (first | refine St.thenR ?_ | refine St.blkR ?_)
    injection h with h
    subst h
    exact St.finR Try.results18 (.tmp rfl .nil) rfl [] ⟨rfl, rfl⟩ (fun _ w => (.z : Keep _ _).sat w)
  · replace h := bif_f hb1 h
    refine St.skip ?_
    refine St.thenN ?_
    refine St.prune (Γ' := [(0, _), (1, _)]) ⟨rfl, rfl, trivial⟩ (.k (.k .z)) ?_
    refine St.seq ?_
    refine St.seq ?_
    refine St.region ?_
    refine St.p rfl rfl ?_
    refine St.done ?_
    refine St.thenN ?_
    obtain ⟨o1, hl1, h⟩ := bnd_e h
    refine St.cutI (fun (o2 : Unit) (e2 : Unit) => []) (fun o2 e2 => R) (fun o2 => o1 = .inr o2) ?_ ?_
    · refine St.block ?_
      refine St.loop hl1 (fun (s1 : Int) (e1 : Unit) => [(0, .slice A1 a_p0.length c1), (1, .slice A2 b_p1.length c2), (5, .int .i64 s1)]) (fun s1 e1 => .ro (SlL ei64 A1 c1 a_p0) :: .ro (SlL ei64 A2 c2 b_p1) :: R) (fun _ _ => True) () trivial ⟨rfl, rfl, rfl, trivial⟩ (fun _ w => ((.k (.k .z)) : Keep _ _).sat w) ?_
      rintro s1 e1 - hit1
      obtain ⟨st1, hm1, hd1⟩ := iter_e hit1
      have h1 := hm1
      refine St.seq ?_
      refine St.seq ?_
      refine St.region ?_
      iterate 4 refine St.p rfl rfl ?_
      refine St.done ?_
      refine St.thenN ?_
      refine St.prune (Γ' := [(0, _), (1, _), (5, _), (14, _)]) ⟨rfl, rfl, rfl, rfl, trivial⟩ (.k (.k .z)) ?_
      refine St.cond _ rfl (fun hb2 => ?_) (fun hb2 => ?_)
      · replace h1 := bif_t hb2 h1
        refine St.skip ?_
        refine St.thenN ?_
        refine St.prune (Γ' := [(0, _), (1, _), (5, _)]) ⟨rfl, rfl, rfl, trivial⟩ (.k (.k .z)) ?_
        refine St.seq ?_
        refine St.block ?_
        refine St.seq ?_
        refine St.regionF mixed (by kernel_rfl) ?_
        refine St.p rfl rfl ?_
        refine St.p rfl rfl ?_
        obtain ⟨x1, hx1, h1⟩ := bnd_e h1
        refine St.ixL hx1 rfl rfl rfl (.head _) rfl rfl rfl rfl rfl fun b1 ob1 => ?_
        refine St.load ob1 0 rfl rfl (.head _) rfl rfl ?_
        refine St.p rfl rfl ?_
        refine St.p rfl rfl ?_
        obtain ⟨x2, hx2, h1⟩ := bnd_e h1
        refine St.ixL hx2 rfl rfl rfl (.tail _ (.tail _ (.head _))) rfl rfl rfl rfl rfl fun b2 ob2 => ?_
        refine St.load ob2 0 rfl rfl (.head _) rfl rfl ?_
        refine St.p rfl rfl ?_
        refine St.doneQ ?_
        refine St.thenN ?_
        refine St.prune (Γ' := [(0, _), (1, _), (5, _), (25, _)]) ⟨rfl, rfl, rfl, rfl, trivial⟩ (.d (.d (.k (.k .z)))) ?_
        refine St.cond _ rfl (fun hb3 => ?_) (fun hb3 => ?_)
        · replace h1 := bif_t hb3 h1
          refine St.seq ?_
          refine St.region ?_
          refine St.p rfl rfl ?_
          refine St.done ?_
          refine St.thenN ?_
          refine St.prune (Γ' := [(4, _)]) ⟨rfl, trivial⟩ (.d (.d .z)) ?_
          refine St.ret ?_
          repeat (first | refine St.thenR ?_ | refine St.blkR ?_)
          injection h1 with h1
          subst h1
          have ho := hd1 _ rfl
          subst ho
          have h : some _ = some _ := h
          injection h with h
          subst h
          exact St.finR Try.results18 (.tmp rfl .nil) rfl [] ⟨rfl, rfl⟩ (fun _ w => (.z : Keep _ _).sat w)
        · replace h1 := bif_f hb3 h1
          refine St.skip ?_
          refine St.blkN ?_
          refine St.thenN ?_
          refine St.prune (Γ' := [(0, _), (1, _), (5, _)]) ⟨rfl, rfl, rfl, trivial⟩ (.k (.k .z)) ?_
          refine St.region ?_
          iterate 3 refine St.p rfl rfl ?_
          refine St.done ?_
          injection h1 with h1
          subst h1
          refine St.thenN ?_
          exact St.again _ () hm1 trivial ⟨rfl, rfl, rfl, trivial⟩ (fun _ w => ((.k (.k .z)) : Keep _ _).sat w)
      · replace h1 := bif_f hb2 h1
        refine St.exit ?_
        repeat (first | refine St.thenX ?_ | refine St.blkMiss rfl ?_)
        refine St.blkHit ?_
        injection h1 with h1
        subst h1
        have ho := hd1 _ rfl
        subst ho
        refine St.thenN ?_
        exact St.hereI () () rfl trivial (fun _ w => ((.d (.d .z)) : Keep _ _).sat w)
    · rintro o2 e2 ho
      subst ho
      have h : _ = some _ := h
      refine St.seq ?_
      refine St.region ?_
      refine St.p rfl rfl ?_
      refine St.done ?_
      refine St.thenN ?_
      refine St.ret ?_
      repeat (first | refine St.thenR ?_ | refine St.blkR ?_)
      injection h with h
      subst h
      exact St.finR Try.results18 (.tmp rfl .nil) rfl [] ⟨rfl, rfl⟩ (fun _ w => (.z : Keep _ _).sat w)

theorem ent21 : Ent Try.prog 21 := ⟨_, Try.func21, by kernel_rfl, by kernel_rfl⟩

noncomputable def m_ref27_Same (a_p0 : (List T_Installed)) (b_p1 : (List T_Installed)) : Option Bool :=
  bif ((a_p0.length : Int) != (b_p1.length : Int)) then (some false) else (bnd (loopM (τ := Bool ⊕ Unit) (fun (s1 : Int) => bif decide (s1 < (a_p0.length : Int)) then (bnd (elt a_p0 s1) fun x1 => bnd (elt b_p1 s1) fun x2 => bif !((x1.Name.toList == x2.Name.toList) && (((x1.Version.Major == x2.Version.Major) && ((x1.Version.Minor == x2.Version.Minor) && ((x1.Version.Patch == x2.Version.Patch) && true))) && true)) then (some (.done (.inl false))) else (some (.next (IntKind.wrap .i64 (s1 + 1))))) else (some (.done (.inr ())))) 0) fun o1 => retOr o1 fun o2 => some true)

theorem c_ref27_Same {a_p0 : (List T_Installed)} {b_p1 : (List T_Installed)} {A1 : Option Addr} {c1 : Nat} {A2 : Option Addr} {c2 : Nat} {r : Bool} (h : m_ref27_Same a_p0 b_p1 = some r) :
    Fun Try.prog 21 [.slice A1 a_p0.length c1, .slice A2 b_p1.length c2] [.ro (SlL e_Installed A1 c1 a_p0), .ro (SlL e_Installed A2 c2 b_p1)] (Val (.bool r)) := by
  unfold m_ref27_Same at h
  refine Fun.intro Try.func21 rfl rfl rfl fun w R => ?_
  refine St.seq ?_
  refine St.region ?_
  refine St.p rfl rfl ?_
  refine St.done ?_
  refine St.thenN ?_
  refine St.prune (Γ' := [(0, _), (1, _)]) ⟨rfl, rfl, trivial⟩ (.k (.k .z)) ?_
  refine St.seq ?_
  refine St.seq ?_
  refine St.region ?_
  iterate 5 refine St.p rfl rfl ?_
  refine St.done ?_
  refine St.thenN ?_
  refine St.prune (Γ' := [(0, _), (1, _), (10, _)]) ⟨rfl, rfl, rfl, trivial⟩ (.k (.k .z)) ?_
  refine St.cond _ rfl (fun hb1 => ?_) (fun hb1 => ?_)
  · replace h := bif_t hb1 h
    refine St.seq ?_
    refine St.region ?_
    refine St.p rfl rfl ?_
    refine St.done ?_
    refine St.thenN ?_
    refine St.prune (Γ' := [(4, _)]) ⟨rfl, trivial⟩ (.d (.d .z)) ?_
    refine St.ret ?_
    repeat (first | refine St.thenR ?_ | refine St.blkR ?_)
    injection h with h
    subst h
    exact St.finR Try.results21 (.tmp rfl .nil) rfl [] ⟨rfl, rfl⟩ (fun _ w => (.z : Keep _ _).sat w)
  · replace h := bif_f hb1 h
    refine St.skip ?_
    refine St.thenN ?_
    refine St.prune (Γ' := [(0, _), (1, _)]) ⟨rfl, rfl, trivial⟩ (.k (.k .z)) ?_
    refine St.seq ?_
    refine St.seq ?_
    refine St.region ?_
    refine St.p rfl rfl ?_
    refine St.done ?_
    refine St.thenN ?_
    obtain ⟨o1, hl1, h⟩ := bnd_e h
    refine St.cutI (fun (o2 : Unit) (e2 : Unit) => []) (fun o2 e2 => R) (fun o2 => o1 = .inr o2) ?_ ?_
    · refine St.block ?_
      refine St.loop hl1 (fun (s1 : Int) (e1 : Unit) => [(0, .slice A1 a_p0.length c1), (1, .slice A2 b_p1.length c2), (5, .int .i64 s1)]) (fun s1 e1 => .ro (SlL e_Installed A1 c1 a_p0) :: .ro (SlL e_Installed A2 c2 b_p1) :: R) (fun _ _ => True) () trivial ⟨rfl, rfl, rfl, trivial⟩ (fun _ w => ((.k (.k .z)) : Keep _ _).sat w) ?_
      rintro s1 e1 - hit1
      obtain ⟨st1, hm1, hd1⟩ := iter_e hit1
      have h1 := hm1
      refine St.seq ?_
      refine St.seq ?_
      refine St.region ?_
      iterate 4 refine St.p rfl rfl ?_
      refine St.done ?_
      refine St.thenN ?_
      refine St.prune (Γ' := [(0, _), (1, _), (5, _), (14, _)]) ⟨rfl, rfl, rfl, rfl, trivial⟩ (.k (.k .z)) ?_
      refine St.cond _ rfl (fun hb2 => ?_) (fun hb2 => ?_)
      · replace h1 := bif_t hb2 h1
        refine St.skip ?_
        refine St.thenN ?_
        refine St.prune (Γ' := [(0, _), (1, _), (5, _)]) ⟨rfl, rfl, rfl, trivial⟩ (.k (.k .z)) ?_
        refine St.seq ?_
        refine St.block ?_
        refine St.seq ?_
        refine St.regionF mixed (by kernel_rfl) ?_
        refine St.p rfl rfl ?_
        refine St.p rfl rfl ?_
        obtain ⟨x1, hx1, h1⟩ := bnd_e h1
        refine St.ixL hx1 rfl rfl rfl (.head _) rfl rfl rfl rfl rfl fun b1 ob1 => ?_
        refine St.load ob1 0 rfl rfl (.head _) rfl rfl ?_
        refine St.p rfl rfl ?_
        refine St.p rfl rfl ?_
        obtain ⟨x2, hx2, h1⟩ := bnd_e h1
        refine St.ixL hx2 rfl rfl rfl (.tail _ (.tail _ (.head _))) rfl rfl rfl rfl rfl fun b2 ob2 => ?_
        refine St.load ob2 0 rfl rfl (.head _) rfl rfl ?_
        refine St.p rfl rfl ?_
        refine St.doneQ ?_
        refine St.thenN ?_
        refine St.prune (Γ' := [(0, _), (1, _), (5, _), (25, _)]) ⟨rfl, rfl, rfl, rfl, trivial⟩ (.d (.d (.k (.k .z)))) ?_
        refine St.cond _ rfl (fun hb3 => ?_) (fun hb3 => ?_)
        · replace h1 := bif_t hb3 h1
          refine St.seq ?_
          refine St.region ?_
          refine St.p rfl rfl ?_
          refine St.done ?_
          refine St.thenN ?_
          refine St.prune (Γ' := [(4, _)]) ⟨rfl, trivial⟩ (.d (.d .z)) ?_
          refine St.ret ?_
          repeat (first | refine St.thenR ?_ | refine St.blkR ?_)
          injection h1 with h1
          subst h1
          have ho := hd1 _ rfl
          subst ho
          have h : some _ = some _ := h
          injection h with h
          subst h
          exact St.finR Try.results21 (.tmp rfl .nil) rfl [] ⟨rfl, rfl⟩ (fun _ w => (.z : Keep _ _).sat w)
        · replace h1 := bif_f hb3 h1
          refine St.skip ?_
          refine St.blkN ?_
          refine St.thenN ?_
          refine St.prune (Γ' := [(0, _), (1, _), (5, _)]) ⟨rfl, rfl, rfl, trivial⟩ (.k (.k .z)) ?_
          refine St.region ?_
          iterate 3 refine St.p rfl rfl ?_
          refine St.done ?_
          injection h1 with h1
          subst h1
          refine St.thenN ?_
          exact St.again _ () hm1 trivial ⟨rfl, rfl, rfl, trivial⟩ (fun _ w => ((.k (.k .z)) : Keep _ _).sat w)
      · replace h1 := bif_f hb2 h1
        refine St.exit ?_
        repeat (first | refine St.thenX ?_ | refine St.blkMiss rfl ?_)
        refine St.blkHit ?_
        injection h1 with h1
        subst h1
        have ho := hd1 _ rfl
        subst ho
        refine St.thenN ?_
        exact St.hereI () () rfl trivial (fun _ w => ((.d (.d .z)) : Keep _ _).sat w)
    · rintro o2 e2 ho
      subst ho
      have h : _ = some _ := h
      refine St.seq ?_
      refine St.region ?_
      refine St.p rfl rfl ?_
      refine St.done ?_
      refine St.thenN ?_
      refine St.ret ?_
      repeat (first | refine St.thenR ?_ | refine St.blkR ?_)
      injection h with h
      subst h
      exact St.finR Try.results21 (.tmp rfl .nil) rfl [] ⟨rfl, rfl⟩ (fun _ w => (.z : Keep _ _).sat w)

theorem ent22 : Ent Try.prog 22 := ⟨_, Try.func22, by kernel_rfl, by kernel_rfl⟩

noncomputable def m_field_Codes_Need (c_p0 : T_Codes) : Option (T_Codes × T_Need) :=
  bnd (m_field_names) fun r1 => bnd (m_field_Codes_Next c_p0 4) fun r2 => bnd (elt r1 r2.2) fun x1 => bnd (m_field_Codes_Next r2.1 3) fun r3 => bnd (m_field_Codes_Next r3.1 4) fun r4 => bnd (elt r1 r4.2) fun x2 => bnd (m_field_Codes_Next r4.1 3) fun r5 => bnd ((bif (x1.toList == x2.toList) then (bnd (m_field_Codes_Next r5.1 6) fun r6 => some (decide (r6.2 < 5), r6.1.L, r6.1.At)) else (some (false, r5.1.L, r5.1.At)) : Option (Bool × List Int × Int))) fun o1 => bif o1.1 then (bnd (elt r1 4) fun x3 => some ((⟨o1.2.1, o1.2.2⟩ : T_Codes), (⟨x1, (⟨IntKind.wrap .i64 (1 + r3.2), 0, 0⟩ : T_Version), x3, (⟨IntKind.wrap .i64 (1 + r5.2), 0, 0⟩ : T_Version)⟩ : T_Need))) else (some ((⟨o1.2.1, o1.2.2⟩ : T_Codes), (⟨x1, (⟨IntKind.wrap .i64 (1 + r3.2), 0, 0⟩ : T_Version), x2, (⟨IntKind.wrap .i64 (1 + r5.2), 0, 0⟩ : T_Version)⟩ : T_Need)))

end Go.Proofs.Yteaoblglgcpdnaa
