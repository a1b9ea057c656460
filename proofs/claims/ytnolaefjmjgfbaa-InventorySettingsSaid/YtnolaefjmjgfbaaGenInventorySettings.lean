/-
  Models of functions of the program, and that the functions compute them.
  Conditions: none.
-/
import Derived.Test.YtnolaefjmjgfbaaGenInventorySettingsa
namespace Go.Proofs.Ytnolaefjmjgfbaa
open Go
set_option linter.unusedVariables false
set_option maxRecDepth 4000

set_option maxHeartbeats 4000000 in
theorem c_ref19_Load {l_p0 : (List T_Setting)} {A1 : Option Addr} {c1 : Nat} {r : ((List T_Known) × Int)} (h : m_ref19_Load l_p0 = some r) :
    Fun Try.prog 33 [.slice A1 l_p0.length c1] [.ro (Sl (codL l_T_Setting) A1 c1 l_p0)] (fun v_ F_ => ∃ (A1 : Option Addr) (c1 : Nat), v_ = .tuple #[.slice A1 r.1.length c1, .int .i64 r.2] ∧ F_ = [.res (OwnL e_Known 45 A1 c1 r.1)]) := by
  unfold m_ref19_Load at h
  refine Fun.intro Try.func33 rfl rfl rfl fun w R => ?_
  refine St.seq ?_
  refine St.region ?_
  refine St.p rfl rfl ?_
  refine St.p rfl rfl ?_
  refine St.done ?_
  refine St.thenN ?_
  refine St.prune (Γ' := [(0, _)]) ⟨rfl, trivial⟩ (.k .z) ?_
  refine St.seq ?_
  refine St.region ?_
  refine St.p rfl rfl ?_
  refine St.done ?_
  refine St.thenN ?_
  refine St.seq ?_
  refine St.seq ?_
  refine St.region ?_
  refine St.p rfl rfl ?_
  refine St.done ?_
  refine St.thenN ?_
  refine St.asrt (fun _ w => w.nilL e_Known 45) ?_
  obtain ⟨o1, hl1, h⟩ := bnd_e h
  refine St.cutI (fun (o2 : List T_Known) (e2 : Option Addr × Nat) => [(4, .slice e2.1 o2.length e2.2)]) (fun o2 e2 => .res (OwnL e_Known 45 e2.1 e2.2 o2) :: R) (fun o2 => o1 = .inr o2) ?_ ?_
  · refine St.block ?_
    refine St.loop hl1 (fun (s1 : List T_Known × Int) (e1 : Option Addr × Nat) => [(0, .slice A1 l_p0.length c1), (4, .slice e1.1 s1.1.length e1.2), (5, .int .i64 s1.2)]) (fun s1 e1 => .res (OwnL e_Known 45 e1.1 e1.2 s1.1) :: .ro (Sl (codL l_T_Setting) A1 c1 l_p0) :: R) (fun _ _ => True) (none, 0) trivial ⟨rfl, rfl, rfl, trivial⟩ (fun _ w => ((.k (.k .z)) : Keep _ _).sat w) ?_
    rintro s1 ⟨A2, c2⟩ - hit1
    obtain ⟨st1, hm1, hd1⟩ := iter_e hit1
    have h1 := hm1
    refine St.seq ?_
    refine St.seq ?_
    refine St.region ?_
    iterate 4 refine St.p rfl rfl ?_
    refine St.done ?_
    refine St.thenN ?_
    refine St.prune (Γ' := [(0, _), (4, _), (5, _), (11, _)]) ⟨rfl, rfl, rfl, rfl, trivial⟩ (.k (.k .z)) ?_
    refine St.cond _ rfl (fun hb1 => ?_) (fun hb1 => ?_)
    · replace h1 := bif_t hb1 h1
      refine St.skip ?_
      refine St.thenN ?_
      refine St.prune (Γ' := [(0, _), (4, _), (5, _)]) ⟨rfl, rfl, rfl, trivial⟩ (.k (.k .z)) ?_
      refine St.seq ?_
      refine St.block ?_
      refine St.seq ?_
      refine St.seq ?_
      obtain ⟨o3, hj1, h1⟩ := bnd_e h1
      refine St.cutE (fun (e3 : Unit) => [(0, .slice A1 l_p0.length c1), (4, .slice A2 s1.1.length c2), (5, .int .i64 s1.2), (34, .bool o3)]) (fun e3 => .res (OwnL e_Known 45 A2 c2 s1.1) :: .ro (Sl (codL l_T_Setting) A1 c1 l_p0) :: R) ?_ ?_
      · refine St.region ?_
        refine St.p rfl rfl ?_
        refine St.p rfl rfl ?_
        obtain ⟨x1, hx1, hj1⟩ := bnd_e hj1
        refine St.ixN hx1 rfl rfl rfl (.tail _ (.head _)) rfl rfl rfl rfl rfl fun b1 ob1 ex1 => ?_
        obtain ⟨⟨A4, c4⟩, _⟩ := ex1
        refine St.asrt (F' := .ro (Cells b1 ob1 [.int .u8 x1.Key, .slice A4 x1.Value.length c4, .bool x1.Delete]) :: .ro (SlL eu8 A4 c4 x1.Value) :: .res (OwnL e_Known 45 A2 c2 s1.1) :: .ro (Sl (codL l_T_Setting) A1 c1 l_p0) :: R) (fun _ w => w) ?_
        refine St.p rfl rfl ?_
        refine St.load ob1 0 rfl rfl (.head _) rfl rfl ?_
        refine St.p rfl rfl ?_
        refine St.p rfl rfl ?_
        refine St.gSplit (dj := 20) _ rfl (fun hb2 => ?_) (fun hb2 => ?_)
        · replace hj1 := bif_t hb2 hj1
          refine St.gOff (dj := 20) rfl rfl rfl rfl ?_
          refine St.gOff (dj := 20) rfl rfl rfl rfl ?_
          refine St.gOff (dj := 20) rfl rfl rfl rfl ?_
          refine St.gOff (dj := 20) rfl rfl rfl rfl ?_
          refine St.gOff (dj := 20) rfl rfl rfl rfl ?_
          refine St.gOff (dj := 20) rfl rfl rfl rfl ?_
          refine St.p rfl rfl ?_
          refine St.p rfl rfl ?_
          refine St.gOff (dj := 28) rfl rfl rfl rfl ?_
          refine St.gOff (dj := 28) rfl rfl rfl rfl ?_
          refine St.gOff (dj := 28) rfl rfl rfl rfl ?_
          refine St.gOff (dj := 28) rfl rfl rfl rfl ?_
          refine St.gOff (dj := 28) rfl rfl rfl rfl ?_
          refine St.p rfl rfl ?_
          refine St.done ?_
          injection hj1 with hj1
          subst hj1
          refine St.thenN ?_
          exact St.hereE () ⟨rfl, rfl, rfl, rfl, trivial⟩ (fun _ w => ((.d (.d (.k (.k .z)))) : Keep _ _).sat w)
        · replace hj1 := bif_f hb2 hj1
          refine St.gOn (dj := 20) rfl rfl ?_
          refine St.p rfl rfl ?_
          refine St.gOn (dj := 20) rfl rfl ?_
          refine St.p rfl rfl ?_
          refine St.gOn (dj := 20) rfl rfl ?_
          refine St.ixN hx1 rfl rfl rfl (.tail _ (.tail _ (.tail _ (.head _)))) rfl rfl rfl rfl rfl fun b2 ob2 ex2 => ?_
          obtain ⟨⟨A5, c5⟩, _⟩ := ex2
          refine St.asrt (F' := .ro (Cells b2 ob2 [.int .u8 x1.Key, .slice A5 x1.Value.length c5, .bool x1.Delete]) :: .ro (SlL eu8 A5 c5 x1.Value) :: .ro (Cells b1 ob1 [.int .u8 x1.Key, .slice A4 x1.Value.length c4, .bool x1.Delete]) :: .ro (SlL eu8 A4 c4 x1.Value) :: .res (OwnL e_Known 45 A2 c2 s1.1) :: .ro (Sl (codL l_T_Setting) A1 c1 l_p0) :: R) (fun _ w => w) ?_
          refine St.gOn (dj := 20) rfl rfl ?_
          refine St.p rfl rfl ?_
          refine St.gOn (dj := 20) rfl rfl ?_
          refine St.load ob2 0 rfl rfl (.head _) rfl rfl ?_
          refine St.gOn (dj := 20) rfl rfl ?_
          iterate 3 refine St.p rfl rfl ?_
          refine St.gSplit (dj := 28) _ rfl (fun hb3 => ?_) (fun hb3 => ?_)
          · replace hj1 := bif_t hb3 hj1
            refine St.gOff (dj := 28) rfl rfl rfl rfl ?_
            refine St.gOff (dj := 28) rfl rfl rfl rfl ?_
            refine St.gOff (dj := 28) rfl rfl rfl rfl ?_
            refine St.gOff (dj := 28) rfl rfl rfl rfl ?_
            refine St.gOff (dj := 28) rfl rfl rfl rfl ?_
            refine St.p rfl rfl ?_
            refine St.done ?_
            injection hj1 with hj1
            subst hj1
            refine St.thenN ?_
            exact St.hereE () ⟨rfl, rfl, rfl, rfl, trivial⟩ (fun _ w => ((.d (.d (.d (.d (.k (.k .z)))))) : Keep _ _).sat w)
          · replace hj1 := bif_f hb3 hj1
            refine St.gOn (dj := 28) rfl rfl ?_
            refine St.p rfl rfl ?_
            refine St.gOn (dj := 28) rfl rfl ?_
            refine St.p rfl rfl ?_
            refine St.gOn (dj := 28) rfl rfl ?_
            refine St.ixN hx1 rfl rfl rfl (.tail _ (.tail _ (.tail _ (.tail _ (.tail _ (.head _)))))) rfl rfl rfl rfl rfl fun b3 ob3 ex3 => ?_
            obtain ⟨⟨A6, c6⟩, _⟩ := ex3
            refine St.asrt (F' := .ro (Cells b3 ob3 [.int .u8 x1.Key, .slice A6 x1.Value.length c6, .bool x1.Delete]) :: .ro (SlL eu8 A6 c6 x1.Value) :: .ro (Cells b2 ob2 [.int .u8 x1.Key, .slice A5 x1.Value.length c5, .bool x1.Delete]) :: .ro (SlL eu8 A5 c5 x1.Value) :: .ro (Cells b1 ob1 [.int .u8 x1.Key, .slice A4 x1.Value.length c4, .bool x1.Delete]) :: .ro (SlL eu8 A4 c4 x1.Value) :: .res (OwnL e_Known 45 A2 c2 s1.1) :: .ro (Sl (codL l_T_Setting) A1 c1 l_p0) :: R) (fun _ w => w) ?_
            refine St.gOn (dj := 28) rfl rfl ?_
            refine St.p rfl rfl ?_
            refine St.gOn (dj := 28) rfl rfl ?_
            refine St.load ob3 2 rfl rfl (.head _) rfl rfl ?_
            refine St.p rfl rfl ?_
            refine St.done ?_
            injection hj1 with hj1
            subst hj1
            refine St.thenN ?_
            exact St.hereE () ⟨rfl, rfl, rfl, rfl, trivial⟩ (fun _ w => ((.d (.d (.d (.d (.d (.d (.k (.k .z)))))))) : Keep _ _).sat w)
      · rintro e3
        refine St.cond _ rfl (fun hb4 => ?_) (fun hb4 => ?_)
        · replace h1 := bif_t hb4 h1
          refine St.exit ?_
          repeat (first | refine St.thenX ?_ | refine St.blkMiss rfl ?_)
          refine St.blkHit ?_
          refine St.thenN ?_
          refine St.prune (Γ' := [(0, _), (4, _), (5, _)]) ⟨rfl, rfl, rfl, trivial⟩ (.k (.k .z)) ?_
          refine St.region ?_
          iterate 3 refine St.p rfl rfl ?_
          refine St.done ?_
          injection h1 with h1
          subst h1
          refine St.thenN ?_
          exact St.again _ (A2, c2) hm1 trivial ⟨rfl, rfl, rfl, trivial⟩ (fun _ w => ((.k (.k .z)) : Keep _ _).sat w)
        · replace h1 := bif_f hb4 h1
          refine St.skip ?_
          refine St.thenN ?_
          refine St.prune (Γ' := [(0, _), (4, _), (5, _)]) ⟨rfl, rfl, rfl, trivial⟩ (.k (.k .z)) ?_
          refine St.seq ?_
          refine St.region ?_
          refine St.p rfl rfl ?_
          refine St.p rfl rfl ?_
          obtain ⟨x2, hx2, h1⟩ := bnd_e h1
          refine St.ixN hx2 rfl rfl rfl (.tail _ (.head _)) rfl rfl rfl rfl rfl fun b4 ob4 ex4 => ?_
          obtain ⟨⟨A7, c7⟩, _⟩ := ex4
          refine St.asrt (F' := .ro (Cells b4 ob4 [.int .u8 x2.Key, .slice A7 x2.Value.length c7, .bool x2.Delete]) :: .ro (SlL eu8 A7 c7 x2.Value) :: .res (OwnL e_Known 45 A2 c2 s1.1) :: .ro (Sl (codL l_T_Setting) A1 c1 l_p0) :: R) (fun _ w => w) ?_
          refine St.p rfl rfl ?_
          refine St.load ob4 0 rfl rfl (.head _) rfl rfl ?_
          iterate 3 refine St.p rfl rfl ?_
          refine St.done ?_
          refine St.thenN ?_
          refine St.prune (Γ' := [(0, _), (4, _), (5, _), (6, _)]) ⟨rfl, rfl, rfl, rfl, trivial⟩ (.d (.d (.k (.k .z)))) ?_
          refine St.seq ?_
          refine St.seq ?_
          obtain ⟨o4, hj2, h1⟩ := bnd_e h1
          refine St.cutE (fun (e4 : Option Addr × Nat) => [(0, .slice A1 l_p0.length c1), (4, .slice e4.1 o4.1.length e4.2), (5, .int .i64 s1.2), (6, .int .i64 (IntKind.wrap .i64 ((IntKind.wrap .i64 x2.Key) - 16))), (55, .bool o4.2)]) (fun e4 => .res (OwnL e_Known 45 e4.1 e4.2 o4.1) :: .ro (Sl (codL l_T_Setting) A1 c1 l_p0) :: R) ?_ ?_
          · refine St.region ?_
            iterate 4 refine St.p rfl rfl ?_
            refine St.gSplit (dj := 45) _ rfl (fun hb5 => ?_) (fun hb5 => ?_)
            · replace hj2 := bif_t hb5 hj2
              refine St.gOn (dj := 45) rfl rfl ?_
              refine St.p rfl rfl ?_
              refine St.gOn (dj := 45) rfl rfl ?_
              refine St.p rfl rfl ?_
              refine St.gOn (dj := 45) rfl rfl ?_
              refine St.p rfl rfl ?_
              refine St.gOn (dj := 45) rfl rfl ?_
              refine St.p rfl rfl ?_
              refine St.gOn (dj := 45) rfl rfl ?_
              refine St.p rfl rfl ?_
              refine St.gOn (dj := 45) rfl rfl ?_
              obtain ⟨x3, hx3, hj2⟩ := bnd_e hj2
              refine St.ixO hx3 rfl rfl rfl (.head _) rfl rfl rfl rfl rfl fun g1 hA => ?_
              subst hA
              refine St.gOn (dj := 45) rfl rfl ?_
              refine St.p rfl rfl ?_
              refine St.gOn (dj := 45) rfl rfl ?_
              refine St.ldO 0 hx3 rfl rfl (.head _) rfl rfl ?_
              refine St.gOn (dj := 45) rfl rfl ?_
              refine St.p rfl rfl ?_
              refine St.p rfl rfl ?_
              refine St.done ?_
              injection hj2 with hj2
              subst hj2
              refine St.thenN ?_
              exact St.hereE ((some ⟨g1, 0, none⟩), c2) ⟨rfl, rfl, rfl, rfl, rfl, trivial⟩ (fun _ w => ((.k (.k .z)) : Keep _ _).sat w)
            · replace hj2 := bif_f hb5 hj2
              refine St.gOff (dj := 45) rfl rfl rfl rfl ?_
              refine St.gOff (dj := 45) rfl rfl rfl rfl ?_
              refine St.gOff (dj := 45) rfl rfl rfl rfl ?_
              refine St.gOff (dj := 45) rfl rfl rfl rfl ?_
              refine St.gOff (dj := 45) rfl rfl rfl rfl ?_
              refine St.gOff (dj := 45) rfl rfl rfl rfl ?_
              refine St.gOff (dj := 45) rfl rfl rfl rfl ?_
              refine St.gOff (dj := 45) rfl rfl rfl rfl ?_
              refine St.gOff (dj := 45) rfl rfl rfl rfl ?_
              refine St.p rfl rfl ?_
              refine St.done ?_
              injection hj2 with hj2
              subst hj2
              refine St.thenN ?_
              exact St.hereE (A2, c2) ⟨rfl, rfl, rfl, rfl, rfl, trivial⟩ (fun _ w => ((.k (.k .z)) : Keep _ _).sat w)
          · rintro ⟨A8, c8⟩
            refine St.cond _ rfl (fun hb6 => ?_) (fun hb6 => ?_)
            · replace h1 := bif_t hb6 h1
              refine St.seq ?_
              refine St.region ?_
              refine St.p rfl rfl ?_
              refine St.p rfl rfl ?_
              refine St.done ?_
              refine St.thenN ?_
              refine St.prune (Γ' := [(2, _), (3, _)]) ⟨rfl, rfl, trivial⟩ (.d (.d .z)) ?_
              refine St.ret ?_
              repeat (first | refine St.thenR ?_ | refine St.blkR ?_)
              refine St.asrt (fun _ w => w.nilL e_Known 45) ?_
              injection h1 with h1
              subst h1
              have ho := hd1 _ rfl
              subst ho
              have h : some _ = some _ := h
              injection h with h
              subst h
              exact St.finR Try.results33 (.tmp rfl (.tmp rfl .nil)) rfl [.res (OwnL e_Known 45 none 0 ([] : List T_Known))] ⟨none, 0, rfl, rfl⟩ (fun _ w => ((.k .z) : Keep _ _).sat w)
            · replace h1 := bif_f hb6 h1
              refine St.skip ?_
              refine St.thenN ?_
              refine St.prune (Γ' := [(0, _), (4, _), (5, _), (6, _)]) ⟨rfl, rfl, rfl, rfl, trivial⟩ (.k (.k .z)) ?_
              refine St.seq ?_
              refine St.region ?_
              refine St.p rfl rfl ?_
              refine St.p rfl rfl ?_
              obtain ⟨x4, hx4, h1⟩ := bnd_e h1
              refine St.ixN hx4 rfl rfl rfl (.tail _ (.head _)) rfl rfl rfl rfl rfl fun b5 ob5 ex5 => ?_
              obtain ⟨⟨A9, c9⟩, _⟩ := ex5
              refine St.asrt (F' := .ro (Cells b5 ob5 [.int .u8 x4.Key, .slice A9 x4.Value.length c9, .bool x4.Delete]) :: .ro (SlL eu8 A9 c9 x4.Value) :: .res (OwnL e_Known 45 A8 c8 o4.1) :: .ro (Sl (codL l_T_Setting) A1 c1 l_p0) :: R) (fun _ w => w) ?_
              refine St.p rfl rfl ?_
              refine St.load ob5 1 rfl rfl (.head _) rfl rfl ?_
              refine St.p rfl rfl ?_
              refine St.done ?_
              refine St.thenN ?_
              refine St.prune (Γ' := [(0, _), (4, _), (5, _), (6, _), (7, _)]) ⟨rfl, rfl, rfl, rfl, rfl, trivial⟩ (.d (.k (.k (.k .z)))) ?_
              refine St.seq ?_
              refine St.seq ?_
              obtain ⟨o5, hj3, h1⟩ := bnd_e h1
              refine St.cutE (fun (e5 : Unit) => [(0, .slice A1 l_p0.length c1), (4, .slice A8 o4.1.length c8), (5, .int .i64 s1.2), (6, .int .i64 (IntKind.wrap .i64 ((IntKind.wrap .i64 x2.Key) - 16))), (7, .slice A9 x4.Value.length c9), (85, .bool o5)]) (fun e5 => .ro (SlL eu8 A9 c9 x4.Value) :: .res (OwnL e_Known 45 A8 c8 o4.1) :: .ro (Sl (codL l_T_Setting) A1 c1 l_p0) :: R) ?_ ?_
              · refine St.region ?_
                iterate 4 refine St.p rfl rfl ?_
                refine St.gSplit (dj := 64) _ rfl (fun hb7 => ?_) (fun hb7 => ?_)
                · replace hj3 := bif_t hb7 hj3
                  refine St.gOff (dj := 64) rfl rfl rfl rfl ?_
                  refine St.gOff (dj := 64) rfl rfl rfl rfl ?_
                  refine St.gOff (dj := 64) rfl rfl rfl rfl ?_
                  refine St.p rfl rfl ?_
                  refine St.p rfl rfl ?_
                  refine St.gOff (dj := 69) rfl rfl rfl rfl ?_
                  refine St.gOff (dj := 69) rfl rfl rfl rfl ?_
                  refine St.gOff (dj := 69) rfl rfl rfl rfl ?_
                  refine St.gOff (dj := 69) rfl rfl rfl rfl ?_
                  refine St.p rfl rfl ?_
                  refine St.p rfl rfl ?_
                  refine St.gOff (dj := 75) rfl rfl rfl rfl ?_
                  refine St.gOff (dj := 75) rfl rfl rfl rfl ?_
                  refine St.gOff (dj := 75) rfl rfl rfl rfl ?_
                  refine St.gOff (dj := 75) rfl rfl rfl rfl ?_
                  refine St.gOff (dj := 75) rfl rfl rfl rfl ?_
                  refine St.gOff (dj := 80) rfl rfl rfl rfl ?_
                  refine St.gOff (dj := 80) rfl rfl rfl rfl ?_
                  refine St.gOff (dj := 80) rfl rfl rfl rfl ?_
                  refine St.gOff (dj := 75) rfl rfl rfl rfl ?_
                  refine St.p rfl rfl ?_
                  refine St.done ?_
                  injection hj3 with hj3
                  subst hj3
                  refine St.thenN ?_
                  exact St.hereE () ⟨rfl, rfl, rfl, rfl, rfl, rfl, trivial⟩ (fun _ w => ((.k (.k (.k .z))) : Keep _ _).sat w)
                · replace hj3 := bif_f hb7 hj3
                  refine St.gOn (dj := 64) rfl rfl ?_
                  refine St.p rfl rfl ?_
                  refine St.gOn (dj := 64) rfl rfl ?_
                  refine St.p rfl rfl ?_
                  refine St.gOn (dj := 64) rfl rfl ?_
                  iterate 3 refine St.p rfl rfl ?_
                  refine St.gSplit (dj := 69) _ rfl (fun hb8 => ?_) (fun hb8 => ?_)
                  · replace hj3 := bif_t hb8 hj3
                    refine St.gOff (dj := 69) rfl rfl rfl rfl ?_
                    refine St.gOff (dj := 69) rfl rfl rfl rfl ?_
                    refine St.gOff (dj := 69) rfl rfl rfl rfl ?_
                    refine St.gOff (dj := 69) rfl rfl rfl rfl ?_
                    refine St.p rfl rfl ?_
                    refine St.p rfl rfl ?_
                    refine St.gOff (dj := 75) rfl rfl rfl rfl ?_
                    refine St.gOff (dj := 75) rfl rfl rfl rfl ?_
                    refine St.gOff (dj := 75) rfl rfl rfl rfl ?_
                    refine St.gOff (dj := 75) rfl rfl rfl rfl ?_
                    refine St.gOff (dj := 75) rfl rfl rfl rfl ?_
                    refine St.gOff (dj := 80) rfl rfl rfl rfl ?_
                    refine St.gOff (dj := 80) rfl rfl rfl rfl ?_
                    refine St.gOff (dj := 80) rfl rfl rfl rfl ?_
                    refine St.gOff (dj := 75) rfl rfl rfl rfl ?_
                    refine St.p rfl rfl ?_
                    refine St.done ?_
                    injection hj3 with hj3
                    subst hj3
                    refine St.thenN ?_
                    exact St.hereE () ⟨rfl, rfl, rfl, rfl, rfl, rfl, trivial⟩ (fun _ w => ((.k (.k (.k .z))) : Keep _ _).sat w)
                  · replace hj3 := bif_f hb8 hj3
                    refine St.gOn (dj := 69) rfl rfl ?_
                    refine St.p rfl rfl ?_
                    refine St.gOn (dj := 69) rfl rfl ?_
                    obtain ⟨x5, hx5, hj3⟩ := bnd_e hj3
                    refine St.ixL hx5 rfl rfl rfl (.head _) rfl rfl rfl rfl rfl fun b6 ob6 => ?_
                    refine St.gOn (dj := 69) rfl rfl ?_
                    refine St.load ob6 0 rfl rfl (.head _) rfl rfl ?_
                    refine St.gOn (dj := 69) rfl rfl ?_
                    iterate 3 refine St.p rfl rfl ?_
                    refine St.gSplit (dj := 75) _ rfl (fun hb9 => ?_) (fun hb9 => ?_)
                    · replace hj3 := bif_t hb9 hj3
                      refine St.gOff (dj := 75) rfl rfl rfl rfl ?_
                      refine St.gOff (dj := 75) rfl rfl rfl rfl ?_
                      refine St.gOff (dj := 75) rfl rfl rfl rfl ?_
                      refine St.gOff (dj := 75) rfl rfl rfl rfl ?_
                      refine St.gOff (dj := 75) rfl rfl rfl rfl ?_
                      refine St.gOff (dj := 80) rfl rfl rfl rfl ?_
                      refine St.gOff (dj := 80) rfl rfl rfl rfl ?_
                      refine St.gOff (dj := 80) rfl rfl rfl rfl ?_
                      refine St.gOff (dj := 75) rfl rfl rfl rfl ?_
                      refine St.p rfl rfl ?_
                      refine St.done ?_
                      injection hj3 with hj3
                      subst hj3
                      refine St.thenN ?_
                      exact St.hereE () ⟨rfl, rfl, rfl, rfl, rfl, rfl, trivial⟩ (fun _ w => ((.d (.k (.k (.k .z)))) : Keep _ _).sat w)
                    · replace hj3 := bif_f hb9 hj3
                      refine St.gOn (dj := 75) rfl rfl ?_
                      refine St.p rfl rfl ?_
                      refine St.gOn (dj := 75) rfl rfl ?_
                      refine St.ixL hx5 rfl rfl rfl (.tail _ (.head _)) rfl rfl rfl rfl rfl fun b7 ob7 => ?_
                      refine St.gOn (dj := 75) rfl rfl ?_
                      refine St.load ob7 0 rfl rfl (.head _) rfl rfl ?_
                      refine St.gOn (dj := 75) rfl rfl ?_
                      refine St.p rfl rfl ?_
                      refine St.gOn (dj := 75) rfl rfl ?_
                      refine St.p rfl rfl ?_
                      refine St.gSplit (dj := 80) _ rfl (fun hb10 => ?_) (fun hb10 => ?_)
                      · replace hj3 := bif_t hb10 hj3
                        refine St.gOn (dj := 80) rfl rfl ?_
                        refine St.p rfl rfl ?_
                        refine St.gOn (dj := 80) rfl rfl ?_
                        refine St.p rfl rfl ?_
                        refine St.gOn (dj := 80) rfl rfl ?_
                        refine St.p rfl rfl ?_
                        refine St.gOn (dj := 75) rfl rfl ?_
                        refine St.p rfl rfl ?_
                        refine St.p rfl rfl ?_
                        refine St.done ?_
                        injection hj3 with hj3
                        subst hj3
                        refine St.thenN ?_
                        exact St.hereE () ⟨rfl, rfl, rfl, rfl, rfl, rfl, trivial⟩ (fun _ w => ((.d (.d (.k (.k (.k .z))))) : Keep _ _).sat w)
                      · replace hj3 := bif_f hb10 hj3
                        refine St.gOff (dj := 80) rfl rfl rfl rfl ?_
                        refine St.gOff (dj := 80) rfl rfl rfl rfl ?_
                        refine St.gOff (dj := 80) rfl rfl rfl rfl ?_
                        refine St.gOn (dj := 75) rfl rfl ?_
                        refine St.p rfl rfl ?_
                        refine St.p rfl rfl ?_
                        refine St.done ?_
                        injection hj3 with hj3
                        subst hj3
                        refine St.thenN ?_
                        exact St.hereE () ⟨rfl, rfl, rfl, rfl, rfl, rfl, trivial⟩ (fun _ w => ((.d (.d (.k (.k (.k .z))))) : Keep _ _).sat w)
              · rintro e5
                refine St.cond _ rfl (fun hb11 => ?_) (fun hb11 => ?_)
                · replace h1 := bif_t hb11 h1
                  refine St.seq ?_
                  refine St.region ?_
                  refine St.p rfl rfl ?_
                  refine St.p rfl rfl ?_
                  refine St.done ?_
                  refine St.thenN ?_
                  refine St.prune (Γ' := [(2, _), (3, _)]) ⟨rfl, rfl, trivial⟩ (.d (.d (.d .z))) ?_
                  refine St.ret ?_
                  repeat (first | refine St.thenR ?_ | refine St.blkR ?_)
                  refine St.asrt (fun _ w => w.nilL e_Known 45) ?_
                  injection h1 with h1
                  subst h1
                  have ho := hd1 _ rfl
                  subst ho
                  have h : some _ = some _ := h
                  injection h with h
                  subst h
                  exact St.finR Try.results33 (.tmp rfl (.tmp rfl .nil)) rfl [.res (OwnL e_Known 45 none 0 ([] : List T_Known))] ⟨none, 0, rfl, rfl⟩ (fun _ w => ((.k .z) : Keep _ _).sat w)
                · replace h1 := bif_f hb11 h1
                  refine St.skip ?_
                  refine St.thenN ?_
                  refine St.prune (Γ' := [(0, _), (4, _), (5, _), (6, _), (7, _)]) ⟨rfl, rfl, rfl, rfl, rfl, trivial⟩ (.k (.k (.k .z))) ?_
                  refine St.regionX (iL [(.fl, 0), (.fl, 1), (.fl, 2), (.fx, 3), (.fx, 4), (.fl, 5), (.fl, 6), (.fx, 7), (.fx, 8), (.fl, 9), (.fx, 10), (.qc, 11), (.fl, 12), (.fl, 13), (.ef, 14), (.ef, 15), (.fl, 16)] .nil) (.ro (SlL eu8 A9 c9 x4.Value) :: .ro (Sl (codL l_T_Setting) A1 c1 l_p0) :: R) mixed (by kernel_rfl) (fun _ w => ((.k (.d (.k .z))) : Keep _ _).sat w) ?_
                  refine St.xfl (fun _ h => h) (Rd.p rfl) rfl ?_
                  refine St.xfl (fun _ h => h) (Rd.p rfl) rfl ?_
                  refine St.xfl (fun _ h => h) (Rd.p rfl) rfl ?_
                  obtain ⟨x6, hx6, h1⟩ := bnd_e h1
                  refine St.openA (.head _) hx6 fun b8 ob8 hqb8 => ?_
                  refine St.asrt (fun _ w => Sat.addC hqb8 (.head _) hx6 w) ?_
                  have hc1 := fun w h => Sat.addC hqb8 (.head _) hx6 ((fun (w : World) (h : Sat (.ro (SlL eu8 A9 c9 x4.Value) :: .ro (Sl (codL l_T_Setting) A1 c1 l_p0) :: R) w) => h) w h)
                  refine St.xfx (Rd.ixL (E := eu8) hqb8 hx6 rfl rfl rfl rfl rfl rfl rfl) rfl ?_
                  refine St.xfx (Rd.load ob8 0 rfl (.head _) rfl rfl) rfl ?_
                  refine St.xfl (fun _ h => h) (Rd.p rfl) rfl ?_
                  refine St.xfl (fun _ h => h) (Rd.p rfl) rfl ?_
                  obtain ⟨l1, hl1, h1⟩ := bnd_e h1
                  refine St.openS (.tail _ (.head _)) hl1 fun A10 c10 hS1 => ?_
                  have hc2 := fun w h => Sat.addS hS1 (.tail _ (.head _)) hl1 (hc1 w h)
                  refine St.xfx (Rd.sub hS1 hl1 (.tail _ (.tail _ (.head _))) rfl rfl rfl rfl rfl rfl rfl rfl) rfl ?_
                  refine St.xfx (Rd.b2s (.head _) rfl rfl rfl rfl rfl rfl rfl rfl) rfl ?_
                  refine St.xfl (fun _ h => h) (Rd.p rfl) rfl ?_
                  obtain ⟨l2, hl2, h1⟩ := bnd_e h1
                  refine St.openS (.tail _ (.tail _ (.head _))) hl2 fun A11 c11 hS2 => ?_
                  have hc3 := fun w h => Sat.addS hS2 (.tail _ (.tail _ (.head _))) hl2 (hc2 w h)
                  refine St.xfx (Rd.sub hS2 hl2 (.tail _ (.tail _ (.tail _ (.head _)))) rfl rfl rfl rfl rfl rfl rfl rfl) rfl ?_
                  obtain ⟨r1, hr1, h1⟩ := bnd_e h1
                  refine St.xqc hc3 (c_ref01_Number hr1) ent47 rfl rfl rfl rfl ⟨(.head _), trivial⟩ ?_
                  refine St.xfl (fun _ h => h) (Rd.p rfl) rfl ?_
                  refine St.xfl (fun _ h => h) (Rd.p rfl) rfl ?_
                  refine St.xef ?_
                  refine St.buildSlice rfl rfl rfl rfl rfl rfl rfl rfl fun g2 => ?_
                  refine St.xk (fun _ w => ((.d (.d (.d (.d (.k (.d (.k .z))))))) : Keep _ _).sat w) ?_
                  refine St.xef ?_
                  obtain ⟨l3, hl3, h1⟩ := bnd_e h1
                  refine St.app (E := e_Known) hl3 rfl rfl rfl (.s (.s (.s (.s (.s .z))))) rfl rfl rfl rfl rfl rfl rfl rfl (srcB (.head _) rfl rfl) rfl rfl fun A12 c12 => ?_
                  refine St.xk (fun _ w => ((.d (.d (.d (.d (.d (.k (.k .z))))))) : Keep _ _).sat w) ?_
                  refine St.xfl (fun _ h => h) (Rd.p rfl) rfl ?_
                  refine St.xdone ?_
                  refine St.blkN ?_
                  refine St.thenN ?_
                  refine St.prune (Γ' := [(0, _), (4, _), (5, _)]) ⟨rfl, rfl, rfl, trivial⟩ (.k (.d (.d (.d (.d (.d (.k .z))))))) ?_
                  refine St.region ?_
                  iterate 3 refine St.p rfl rfl ?_
                  refine St.done ?_
                  injection h1 with h1
                  subst h1
                  refine St.thenN ?_
                  exact St.again _ (A12, c12) hm1 trivial ⟨rfl, rfl, rfl, trivial⟩ (fun _ w => ((.k (.k .z)) : Keep _ _).sat w)
    · replace h1 := bif_f hb1 h1
      refine St.exit ?_
      repeat (first | refine St.thenX ?_ | refine St.blkMiss rfl ?_)
      refine St.blkHit ?_
      injection h1 with h1
      subst h1
      have ho := hd1 _ rfl
      subst ho
      refine St.thenN ?_
      exact St.hereI s1.1 (A2, c2) rfl ⟨rfl, trivial⟩ (fun _ w => ((.k (.d .z)) : Keep _ _).sat w)
  · rintro o2 ⟨A3, c3⟩ ho
    subst ho
    have h := unR h
    refine St.seq ?_
    refine St.region ?_
    iterate 3 refine St.p rfl rfl ?_
    refine St.done ?_
    refine St.thenN ?_
    refine St.prune (Γ' := [(2, _), (3, _)]) ⟨rfl, rfl, trivial⟩ (.k .z) ?_
    refine St.ret ?_
    repeat (first | refine St.thenR ?_ | refine St.blkR ?_)
    injection h with h
    subst h
    exact St.finR Try.results33 (.tmp rfl (.tmp rfl .nil)) rfl [.res (OwnL e_Known 45 A3 c3 o2)] ⟨A3, c3, rfl, rfl⟩ (fun _ w => ((.k .z) : Keep _ _).sat w)

theorem ent34 : Ent Try.prog 34 := ⟨_, Try.func34, by kernel_rfl, by kernel_rfl⟩

noncomputable def m_ref19_Same (a_p0 : (List T_Known)) (b_p1 : (List T_Known)) : Option Bool :=
  bif ((a_p0.length : Int) != (b_p1.length : Int)) then (some false) else (bnd (loopM (τ := Bool ⊕ Unit) (fun (s1 : Int) => bif decide (s1 < (a_p0.length : Int)) then (bnd (elt a_p0 s1) fun x1 => bnd (elt b_p1 s1) fun x2 => bif !((x1.Slot == x2.Slot) && ((x1.Good == x2.Good) && ((x1.Serial.toList == x2.Serial.toList) && ((x1.Sum == x2.Sum) && true)))) then (some (.done (.inl false))) else (some (.next (IntKind.wrap .i64 (s1 + 1))))) else (some (.done (.inr ())))) 0) fun o1 => retOr o1 fun o2 => some true)

theorem c_ref19_Same {a_p0 : (List T_Known)} {b_p1 : (List T_Known)} {A1 : Option Addr} {c1 : Nat} {A2 : Option Addr} {c2 : Nat} {r : Bool} (h : m_ref19_Same a_p0 b_p1 = some r) :
    Fun Try.prog 34 [.slice A1 a_p0.length c1, .slice A2 b_p1.length c2] [.ro (SlL e_Known A1 c1 a_p0), .ro (SlL e_Known A2 c2 b_p1)] (Val (.bool r)) := by
  unfold m_ref19_Same at h
  refine Fun.intro Try.func34 rfl rfl rfl fun w R => ?_
  refine St.seq ?_
  refine St.region ?_
  refine St.p rfl rfl ?_
  refine St.done ?_
  refine St.thenN ?_
  refine St.prune (Γ' := [(0, _), (1, _)]) ⟨rfl, rfl, trivial⟩ (.k (.k .z)) ?_
  refine St.seq ?_
  refine St.seq ?_
  refine St.region ?_
  iterate 5 refine St.p rfl rfl ?_
  refine St.done ?_
  refine St.thenN ?_
  refine St.prune (Γ' := [(0, _), (1, _), (10, _)]) ⟨rfl, rfl, rfl, trivial⟩ (.k (.k .z)) ?_
  refine St.cond _ rfl (fun hb1 => ?_) (fun hb1 => ?_)
  · replace h := bif_t hb1 h
    refine St.seq ?_
    refine St.region ?_
    refine St.p rfl rfl ?_
    refine St.done ?_
    refine St.thenN ?_
    refine St.prune (Γ' := [(4, _)]) ⟨rfl, trivial⟩ (.d (.d .z)) ?_
    refine St.ret ?_
    repeat (first | refine St.thenR ?_ | refine St.blkR ?_)
    injection h with h
    subst h
    exact St.finR Try.results34 (.tmp rfl .nil) rfl [] ⟨rfl, rfl⟩ (fun _ w => (.z : Keep _ _).sat w)
  · replace h := bif_f hb1 h
    refine St.skip ?_
    refine St.thenN ?_
    refine St.prune (Γ' := [(0, _), (1, _)]) ⟨rfl, rfl, trivial⟩ (.k (.k .z)) ?_
    refine St.seq ?_
    refine St.seq ?_
    refine St.region ?_
    refine St.p rfl rfl ?_
    refine St.done ?_
    refine St.thenN ?_
    obtain ⟨o1, hl1, h⟩ := bnd_e h
    refine St.cutI (fun (o2 : Unit) (e2 : Unit) => []) (fun o2 e2 => R) (fun o2 => o1 = .inr o2) ?_ ?_
    · refine St.block ?_
      refine St.loop hl1 (fun (s1 : Int) (e1 : Unit) => [(0, .slice A1 a_p0.length c1), (1, .slice A2 b_p1.length c2), (5, .int .i64 s1)]) (fun s1 e1 => .ro (SlL e_Known A1 c1 a_p0) :: .ro (SlL e_Known A2 c2 b_p1) :: R) (fun _ _ => True) () trivial ⟨rfl, rfl, rfl, trivial⟩ (fun _ w => ((.k (.k .z)) : Keep _ _).sat w) ?_
      rintro s1 e1 - hit1
      obtain ⟨st1, hm1, hd1⟩ := iter_e hit1
      have h1 := hm1
      refine St.seq ?_
      refine St.seq ?_
      refine St.region ?_
      iterate 4 refine St.p rfl rfl ?_
      refine St.done ?_
      refine St.thenN ?_
      refine St.prune (Γ' := [(0, _), (1, _), (5, _), (14, _)]) ⟨rfl, rfl, rfl, rfl, trivial⟩ (.k (.k .z)) ?_
      refine St.cond _ rfl (fun hb2 => ?_) (fun hb2 => ?_)
      · replace h1 := bif_t hb2 h1
        refine St.skip ?_
        refine St.thenN ?_
        refine St.prune (Γ' := [(0, _), (1, _), (5, _)]) ⟨rfl, rfl, rfl, trivial⟩ (.k (.k .z)) ?_
        refine St.seq ?_
        refine St.block ?_
        refine St.seq ?_
        refine St.regionF mixed (by kernel_rfl) ?_
        refine St.p rfl rfl ?_
        refine St.p rfl rfl ?_
        obtain ⟨x1, hx1, h1⟩ := bnd_e h1
        refine St.ixL hx1 rfl rfl rfl (.head _) rfl rfl rfl rfl rfl fun b1 ob1 => ?_
        refine St.load ob1 0 rfl rfl (.head _) rfl rfl ?_
        refine St.p rfl rfl ?_
        refine St.p rfl rfl ?_
        obtain ⟨x2, hx2, h1⟩ := bnd_e h1
        refine St.ixL hx2 rfl rfl rfl (.tail _ (.tail _ (.head _))) rfl rfl rfl rfl rfl fun b2 ob2 => ?_
        refine St.load ob2 0 rfl rfl (.head _) rfl rfl ?_
        refine St.p rfl rfl ?_
        refine St.doneQ ?_
        refine St.thenN ?_
        refine St.prune (Γ' := [(0, _), (1, _), (5, _), (25, _)]) ⟨rfl, rfl, rfl, rfl, trivial⟩ (.d (.d (.k (.k .z)))) ?_
        refine St.cond _ rfl (fun hb3 => ?_) (fun hb3 => ?_)
        · replace h1 := bif_t hb3 h1
          refine St.seq ?_
          refine St.region ?_
          refine St.p rfl rfl ?_
          refine St.done ?_
          refine St.thenN ?_
          refine St.prune (Γ' := [(4, _)]) ⟨rfl, trivial⟩ (.d (.d .z)) ?_
          refine St.ret ?_
          repeat (first | refine St.thenR ?_ | refine St.blkR ?_)
          injection h1 with h1
          subst h1
          have ho := hd1 _ rfl
          subst ho
          have h : some _ = some _ := h
          injection h with h
          subst h
          exact St.finR Try.results34 (.tmp rfl .nil) rfl [] ⟨rfl, rfl⟩ (fun _ w => (.z : Keep _ _).sat w)
        · replace h1 := bif_f hb3 h1
          refine St.skip ?_
          refine St.blkN ?_
          refine St.thenN ?_
          refine St.prune (Γ' := [(0, _), (1, _), (5, _)]) ⟨rfl, rfl, rfl, trivial⟩ (.k (.k .z)) ?_
          refine St.region ?_
          iterate 3 refine St.p rfl rfl ?_
          refine St.done ?_
          injection h1 with h1
          subst h1
          refine St.thenN ?_
          exact St.again _ () hm1 trivial ⟨rfl, rfl, rfl, trivial⟩ (fun _ w => ((.k (.k .z)) : Keep _ _).sat w)
      · replace h1 := bif_f hb2 h1
        refine St.exit ?_
        repeat (first | refine St.thenX ?_ | refine St.blkMiss rfl ?_)
        refine St.blkHit ?_
        injection h1 with h1
        subst h1
        have ho := hd1 _ rfl
        subst ho
        refine St.thenN ?_
        exact St.hereI () () rfl trivial (fun _ w => ((.d (.d .z)) : Keep _ _).sat w)
    · rintro o2 e2 ho
      subst ho
      have h := unR h
      refine St.seq ?_
      refine St.region ?_
      refine St.p rfl rfl ?_
      refine St.done ?_
      refine St.thenN ?_
      refine St.ret ?_
      repeat (first | refine St.thenR ?_ | refine St.blkR ?_)
      injection h with h
      subst h
      exact St.finR Try.results34 (.tmp rfl .nil) rfl [] ⟨rfl, rfl⟩ (fun _ w => (.z : Keep _ _).sat w)

theorem ent8 : Ent Try.prog 8 := ⟨_, Try.func8, by kernel_rfl, by kernel_rfl⟩

noncomputable def m_law19_InventorySettings (a_p0 : (List T_Known)) (l_p1 : (List T_Setting)) (n_p2 : (List Int)) : Option Bool :=
  bnd ((bnd (m_law19_light a_p0) fun r1 => bif !r1 then (some true) else (bif decide ((l_p1.length : Int) > 60) then (some true) else (bnd (m_made_Light n_p2) fun r2 => some (!r2))) : Option Bool)) fun o1 => bif o1 then (bnd (m_law19_awake) fun r3 => some r3) else (bnd (loopM (τ := Bool ⊕ Unit) (fun (s1 : Int) => bif decide (s1 < (l_p1.length : Int)) then (bnd (elt l_p1 s1) fun x1 => bif decide ((x1.Value.length : Int) > 60) then (bnd (m_law19_awake) fun r4 => some (.done (.inl r4))) else (some (.next (IntKind.wrap .i64 (s1 + 1))))) else (some (.done (.inr ())))) 0) fun o2 => retOr o2 fun o3 => bnd (m_made_Roll n_p2) fun r5 => bnd (m_made_Dice_Inventory r5) fun r6 => bnd (m_ref19_Save r6.2) fun r7 => bnd (m_ref06_Copy r7.1) fun r8 => bnd (m_made_Dice_Next r6.1 (r8.length : Int)) fun r9 => bnd ((bnd (m_made_Dice_Next r9.1 4) fun r10 => bif (r10.2 == 0) then (bnd (m_made_Dice_Bytes r10.1 9) fun r11 => bnd (elt r8 r9.2) fun x2 => bnd (setE r8 r9.2 (⟨x2.Key, r11.2, x2.Delete⟩ : T_Setting)) fun l1 => bnd (elt l1 r9.2) fun x3 => bnd (setE l1 r9.2 (⟨x3.Key, x3.Value, false⟩ : T_Setting)) fun l2 => some l2) else (bif (r10.2 == 1) then (bnd (m_made_Dice_Next r10.1 20) fun r12 => bnd (elt r8 r9.2) fun x4 => bnd (setE r8 r9.2 (⟨IntKind.wrap .u8 (IntKind.wrap .i64 (14 + r12.2)), x4.Value, x4.Delete⟩ : T_Setting)) fun l3 => some l3) else (bif (r10.2 == 2) then (bnd (m_made_Dice_Next r10.1 2) fun r13 => bnd (mkS 1 0 (IntKind.wrap .i64 (28 + r13.2)) (IntKind.wrap .i64 (28 + r13.2))) fun l4 => bnd (elt r8 r9.2) fun x5 => bnd (elt r8 r9.2) fun x6 => bnd (m_made_Dice_Next r13.1 3) fun r14 => bnd (elt l4 0) fun x7 => bnd (setE l4 0 (IntKind.wrap .u8 r14.2)) fun l5 => bnd (setE r8 r9.2 (⟨x5.Key, l5, x5.Delete⟩ : T_Setting)) fun l6 => bnd (elt l6 r9.2) fun x8 => bnd (setE l6 r9.2 (⟨x8.Key, x8.Value, false⟩ : T_Setting)) fun l7 => some l7) else (some r8))) : Option (List T_Setting))) fun o4 => bnd (m_inventory_Save a_p0) fun r15 => bnd (m_ref19_Save a_p0) fun r16 => bnd ((bif (r15.2 != r16.2) then (some true) else (bnd (m_ref06_Same r15.1 r16.1) fun r17 => some (!r17)) : Option Bool)) fun o5 => bif o5 then (some false) else (bnd (m_inventory_Save r6.2) fun r18 => bnd (m_ref19_Save r6.2) fun r19 => bnd ((bif (r18.2 != r19.2) then (some true) else (bnd (m_ref06_Same r18.1 r19.1) fun r20 => some (!r20)) : Option Bool)) fun o6 => bif o6 then (some false) else (bnd (m_inventory_Load l_p1) fun r21 => bnd (m_ref19_Load l_p1) fun r22 => bnd ((bif (r21.2 != r22.2) then (some true) else (bnd (m_ref19_Same r21.1 r22.1) fun r23 => some (!r23)) : Option Bool)) fun o7 => bif o7 then (some false) else (bnd (m_inventory_Load r7.1) fun r24 => bnd (m_ref19_Load r7.1) fun r25 => bnd ((bif (r24.2 != r25.2) then (some true) else (bnd (m_ref19_Same r24.1 r25.1) fun r26 => some (!r26)) : Option Bool)) fun o8 => bif o8 then (some false) else (bnd (m_inventory_Load o4) fun r27 => bnd (m_ref19_Load o4) fun r28 => bnd ((bif (r27.2 != r28.2) then (some true) else (bnd (m_ref19_Same r27.1 r28.1) fun r29 => some (!r29)) : Option Bool)) fun o9 => bif o9 then (some false) else (bnd (m_law19_awake) fun r30 => some r30))))))

set_option maxHeartbeats 4000000 in
theorem c_law19_InventorySettings {a_p0 : (List T_Known)} {l_p1 : (List T_Setting)} {n_p2 : (List Int)} {A1 : Option Addr} {c1 : Nat} {A2 : Option Addr} {c2 : Nat} {A3 : Option Addr} {c3 : Nat} {r : Bool} (h : m_law19_InventorySettings a_p0 l_p1 n_p2 = some r) :
    Fun Try.prog 8 [.slice A1 a_p0.length c1, .slice A2 l_p1.length c2, .slice A3 n_p2.length c3] [.ro (SlL e_Known A1 c1 a_p0), .ro (Sl (codL l_T_Setting) A2 c2 l_p1), .ro (SlL ei64 A3 c3 n_p2)] (Val (.bool r)) := by
  unfold m_law19_InventorySettings at h
  refine Fun.intro Try.func8 rfl rfl rfl fun w R => ?_
  refine St.seq ?_
  refine St.region ?_
  refine St.p rfl rfl ?_
  refine St.done ?_
  refine St.thenN ?_
  refine St.prune (Γ' := [(0, _), (1, _), (2, _)]) ⟨rfl, rfl, rfl, trivial⟩ (.k (.k (.k .z))) ?_
  refine St.seq ?_
  refine St.seq ?_
  obtain ⟨o1, hj1, h⟩ := bnd_e h
  refine St.cutE (fun (e1 : Unit) => [(0, .slice A1 a_p0.length c1), (1, .slice A2 l_p1.length c2), (2, .slice A3 n_p2.length c3), (38, .bool o1)]) (fun e1 => .ro (SlL e_Known A1 c1 a_p0) :: .ro (Sl (codL l_T_Setting) A2 c2 l_p1) :: .ro (SlL ei64 A3 c3 n_p2) :: R) ?_ ?_
  · refine St.region ?_
    refine St.p rfl rfl ?_
    obtain ⟨r1, hr1, hj1⟩ := bnd_e hj1
    refine St.callV (c_law19_light hr1) ent9 rfl rfl rfl rfl ⟨(.head _), trivial⟩ ?_
    refine St.p rfl rfl ?_
    refine St.p rfl rfl ?_
    refine St.gSplit (dj := 29) _ rfl (fun hb1 => ?_) (fun hb1 => ?_)
    · replace hj1 := bif_t hb1 hj1
      refine St.gOff (dj := 29) rfl rfl rfl rfl ?_
      refine St.gOff (dj := 29) rfl rfl rfl rfl ?_
      refine St.gOff (dj := 29) rfl rfl rfl rfl ?_
      refine St.p rfl rfl ?_
      refine St.p rfl rfl ?_
      refine St.gOff (dj := 34) rfl rfl rfl rfl ?_
      refine St.gOff (dj := 34) rfl rfl rfl rfl ?_
      refine St.gOff (dj := 34) rfl rfl rfl rfl ?_
      refine St.p rfl rfl ?_
      refine St.done ?_
      injection hj1 with hj1
      subst hj1
      refine St.thenN ?_
      exact St.hereE () ⟨rfl, rfl, rfl, rfl, trivial⟩ (fun _ w => ((.k (.k (.k .z))) : Keep _ _).sat w)
    · replace hj1 := bif_f hb1 hj1
      refine St.gOn (dj := 29) rfl rfl ?_
      refine St.p rfl rfl ?_
      refine St.gOn (dj := 29) rfl rfl ?_
      refine St.p rfl rfl ?_
      refine St.gOn (dj := 29) rfl rfl ?_
      iterate 3 refine St.p rfl rfl ?_
      refine St.gSplit (dj := 34) _ rfl (fun hb2 => ?_) (fun hb2 => ?_)
      · replace hj1 := bif_t hb2 hj1
        refine St.gOff (dj := 34) rfl rfl rfl rfl ?_
        refine St.gOff (dj := 34) rfl rfl rfl rfl ?_
        refine St.gOff (dj := 34) rfl rfl rfl rfl ?_
        refine St.p rfl rfl ?_
        refine St.done ?_
        injection hj1 with hj1
        subst hj1
        refine St.thenN ?_
        exact St.hereE () ⟨rfl, rfl, rfl, rfl, trivial⟩ (fun _ w => ((.k (.k (.k .z))) : Keep _ _).sat w)
      · replace hj1 := bif_f hb2 hj1
        refine St.gOn (dj := 34) rfl rfl ?_
        refine St.p rfl rfl ?_
        refine St.gOn (dj := 34) rfl rfl ?_
        obtain ⟨r2, hr2, hj1⟩ := bnd_e hj1
        refine St.callV (c_made_Light hr2) ent10 rfl rfl rfl rfl ⟨(.tail _ (.tail _ (.head _))), trivial⟩ ?_
        refine St.gOn (dj := 34) rfl rfl ?_
        refine St.p rfl rfl ?_
        refine St.p rfl rfl ?_
        refine St.done ?_
        injection hj1 with hj1
        subst hj1
        refine St.thenN ?_
        exact St.hereE () ⟨rfl, rfl, rfl, rfl, trivial⟩ (fun _ w => ((.k (.k (.k .z))) : Keep _ _).sat w)
  · rintro e1
    refine St.cond _ rfl (fun hb3 => ?_) (fun hb3 => ?_)
    · replace h := bif_t hb3 h
      refine St.seq ?_
      refine St.region ?_
      obtain ⟨r3, hr3, h⟩ := bnd_e h
      refine St.callV (c_law19_awake hr3) ent11 rfl rfl rfl rfl trivial ?_
      refine St.p rfl rfl ?_
      refine St.done ?_
      refine St.thenN ?_
      refine St.prune (Γ' := [(6, _)]) ⟨rfl, trivial⟩ (.d (.d (.d .z))) ?_
      refine St.ret ?_
      repeat (first | refine St.thenR ?_ | refine St.blkR ?_)
      injection h with h
      subst h
      exact St.finR Try.results8 (.tmp rfl .nil) rfl [] ⟨rfl, rfl⟩ (fun _ w => (.z : Keep _ _).sat w)
    · replace h := bif_f hb3 h
      refine St.skip ?_
      refine St.thenN ?_
      refine St.prune (Γ' := [(0, _), (1, _), (2, _)]) ⟨rfl, rfl, rfl, trivial⟩ (.k (.k (.k .z))) ?_
      refine St.seq ?_
      refine St.seq ?_
      refine St.region ?_
      refine St.p rfl rfl ?_
      refine St.done ?_
      refine St.thenN ?_
      obtain ⟨o2, hl1, h⟩ := bnd_e h
      refine St.cutI (fun (o3 : Unit) (e3 : Unit) => [(0, .slice A1 a_p0.length c1), (1, .slice A2 l_p1.length c2), (2, .slice A3 n_p2.length c3)]) (fun o3 e3 => .ro (SlL e_Known A1 c1 a_p0) :: .ro (Sl (codL l_T_Setting) A2 c2 l_p1) :: .ro (SlL ei64 A3 c3 n_p2) :: R) (fun o3 => o2 = .inr o3) ?_ ?_
      · refine St.block ?_
        refine St.loop hl1 (fun (s1 : Int) (e2 : Unit) => [(0, .slice A1 a_p0.length c1), (1, .slice A2 l_p1.length c2), (2, .slice A3 n_p2.length c3), (7, .int .i64 s1)]) (fun s1 e2 => .ro (SlL e_Known A1 c1 a_p0) :: .ro (Sl (codL l_T_Setting) A2 c2 l_p1) :: .ro (SlL ei64 A3 c3 n_p2) :: R) (fun _ _ => True) () trivial ⟨rfl, rfl, rfl, rfl, trivial⟩ (fun _ w => ((.k (.k (.k .z))) : Keep _ _).sat w) ?_
        rintro s1 e2 - hit1
        obtain ⟨st1, hm1, hd1⟩ := iter_e hit1
        have h1 := hm1
        refine St.seq ?_
        refine St.seq ?_
        refine St.region ?_
        iterate 4 refine St.p rfl rfl ?_
        refine St.done ?_
        refine St.thenN ?_
        refine St.prune (Γ' := [(0, _), (1, _), (2, _), (7, _), (43, _)]) ⟨rfl, rfl, rfl, rfl, rfl, trivial⟩ (.k (.k (.k .z))) ?_
        refine St.cond _ rfl (fun hb4 => ?_) (fun hb4 => ?_)
        · replace h1 := bif_t hb4 h1
          refine St.skip ?_
          refine St.thenN ?_
          refine St.prune (Γ' := [(0, _), (1, _), (2, _), (7, _)]) ⟨rfl, rfl, rfl, rfl, trivial⟩ (.k (.k (.k .z))) ?_
          refine St.seq ?_
          refine St.block ?_
          refine St.seq ?_
          refine St.region ?_
          refine St.p rfl rfl ?_
          refine St.p rfl rfl ?_
          obtain ⟨x1, hx1, h1⟩ := bnd_e h1
          refine St.ixN hx1 rfl rfl rfl (.tail _ (.head _)) rfl rfl rfl rfl rfl fun b1 ob1 ex1 => ?_
          obtain ⟨⟨A4, c4⟩, _⟩ := ex1
          refine St.asrt (F' := .ro (Cells b1 ob1 [.int .u8 x1.Key, .slice A4 x1.Value.length c4, .bool x1.Delete]) :: .ro (SlL eu8 A4 c4 x1.Value) :: .ro (SlL e_Known A1 c1 a_p0) :: .ro (Sl (codL l_T_Setting) A2 c2 l_p1) :: .ro (SlL ei64 A3 c3 n_p2) :: R) (fun _ w => w) ?_
          refine St.p rfl rfl ?_
          refine St.load ob1 1 rfl rfl (.head _) rfl rfl ?_
          refine St.p rfl rfl ?_
          refine St.p rfl rfl ?_
          refine St.done ?_
          refine St.thenN ?_
          refine St.prune (Γ' := [(0, _), (1, _), (2, _), (7, _), (52, _)]) ⟨rfl, rfl, rfl, rfl, rfl, trivial⟩ (.d (.d (.k (.k (.k .z))))) ?_
          refine St.cond _ rfl (fun hb5 => ?_) (fun hb5 => ?_)
          · replace h1 := bif_t hb5 h1
            refine St.seq ?_
            refine St.region ?_
            obtain ⟨r4, hr4, h1⟩ := bnd_e h1
            refine St.callV (c_law19_awake hr4) ent11 rfl rfl rfl rfl trivial ?_
            refine St.p rfl rfl ?_
            refine St.done ?_
            refine St.thenN ?_
            refine St.prune (Γ' := [(6, _)]) ⟨rfl, trivial⟩ (.d (.d (.d .z))) ?_
            refine St.ret ?_
            repeat (first | refine St.thenR ?_ | refine St.blkR ?_)
            injection h1 with h1
            subst h1
            have ho := hd1 _ rfl
            subst ho
            have h : some _ = some _ := h
            injection h with h
            subst h
            exact St.finR Try.results8 (.tmp rfl .nil) rfl [] ⟨rfl, rfl⟩ (fun _ w => (.z : Keep _ _).sat w)
          · replace h1 := bif_f hb5 h1
            refine St.skip ?_
            refine St.blkN ?_
            refine St.thenN ?_
            refine St.prune (Γ' := [(0, _), (1, _), (2, _), (7, _)]) ⟨rfl, rfl, rfl, rfl, trivial⟩ (.k (.k (.k .z))) ?_
            refine St.region ?_
            iterate 3 refine St.p rfl rfl ?_
            refine St.done ?_
            injection h1 with h1
            subst h1
            refine St.thenN ?_
            exact St.again _ () hm1 trivial ⟨rfl, rfl, rfl, rfl, trivial⟩ (fun _ w => ((.k (.k (.k .z))) : Keep _ _).sat w)
        · replace h1 := bif_f hb4 h1
          refine St.exit ?_
          repeat (first | refine St.thenX ?_ | refine St.blkMiss rfl ?_)
          refine St.blkHit ?_
          injection h1 with h1
          subst h1
          have ho := hd1 _ rfl
          subst ho
          refine St.thenN ?_
          exact St.hereI () () rfl ⟨rfl, rfl, rfl, trivial⟩ (fun _ w => ((.k (.k (.k .z))) : Keep _ _).sat w)
      · rintro o3 e3 ho
        subst ho
        have h := unR h
        refine St.seq ?_
        refine St.region ?_
        refine St.p rfl rfl ?_
        obtain ⟨r5, hr5, h⟩ := bnd_e h
        refine St.call (c_made_Roll hr5) ent12 rfl rfl rfl (fun _ w => Sat.dup (G := [.ro (SlL ei64 A3 c3 n_p2)]) rfl ⟨(.tail _ (.tail _ (.head _))), trivial⟩ w) ?_
        rintro _ _ ⟨g1, A5, c5, rfl, rfl⟩
        refine St.asrt (F' := .ro (SlL ei64 A5 c5 r5.L) :: .res (Box g1 73 [.slice A5 r5.L.length c5, .int .i64 r5.At]) :: .ro (SlL e_Known A1 c1 a_p0) :: .ro (Sl (codL l_T_Setting) A2 c2 l_p1) :: .ro (SlL ei64 A3 c3 n_p2) :: R) (fun _ w => w) ?_
        refine St.p rfl rfl ?_
        refine St.done ?_
        refine St.thenN ?_
        refine St.prune (Γ' := [(0, _), (1, _), (8, _)]) ⟨rfl, rfl, rfl, trivial⟩ (.k (.k (.k (.k (.d .z))))) ?_
        refine St.seq ?_
        refine St.region ?_
        refine St.p rfl rfl ?_
        obtain ⟨r6, hr6, h⟩ := bnd_e h
        refine St.call (c_made_Dice_Inventory hr6) ent13 rfl rfl rfl (fun _ w => Sat.dup (G := [.ro (SlL ei64 A5 c5 r5.L)]) rfl ⟨(.tail _ (.head _)), trivial⟩ (w.front (.s .z))) ?_
        rintro _ _ ⟨A6, c6, A7, c7, rfl, rfl⟩
        refine St.asrt (F' := .ro (SlL ei64 A6 c6 r6.1.L) :: .res (Box g1 73 [.slice A6 r6.1.L.length c6, .int .i64 r6.1.At]) :: .res (OwnL e_Known 45 A7 c7 r6.2) :: .ro (SlL ei64 A5 c5 r5.L) :: .ro (SlL e_Known A1 c1 a_p0) :: .ro (Sl (codL l_T_Setting) A2 c2 l_p1) :: R) (fun _ w => w) ?_
        refine St.p rfl rfl ?_
        refine St.done ?_
        refine St.thenN ?_
        refine St.prune (Γ' := [(0, _), (1, _), (8, _), (9, _)]) ⟨rfl, rfl, rfl, rfl, trivial⟩ (.k (.k (.k (.d (.k (.k .z)))))) ?_
        refine St.seq ?_
        refine St.region ?_
        refine St.p rfl rfl ?_
        refine St.asrt (fun _ w => (w.front (.s (.s .z))).meltL) ?_
        obtain ⟨r7, hr7, h⟩ := bnd_e h
        refine St.call (c_ref19_Save hr7) ent27 rfl rfl rfl (fun _ w => Sat.dup (G := [.ro (SlL e_Known A7 c7 r6.2)]) rfl ⟨(.head _), trivial⟩ w) ?_
        rintro _ _ ⟨A8, c8, rfl, rfl⟩
        refine St.asrt (F' := .res (OwnC (codL l_T_Setting) 60 A8 c8 r7.1) :: .ro (SlL e_Known A7 c7 r6.2) :: .ro (SlL ei64 A6 c6 r6.1.L) :: .res (Box g1 73 [.slice A6 r6.1.L.length c6, .int .i64 r6.1.At]) :: .ro (SlL e_Known A1 c1 a_p0) :: .ro (Sl (codL l_T_Setting) A2 c2 l_p1) :: R) (fun _ w => w) ?_
        iterate 5 refine St.p rfl rfl ?_
        refine St.done ?_
        refine St.thenN ?_
        refine St.prune (Γ' := [(0, _), (1, _), (8, _), (9, _), (10, _)]) ⟨rfl, rfl, rfl, rfl, rfl, trivial⟩ (.k (.k (.k (.k (.k (.k .z)))))) ?_
        refine St.seq ?_
        refine St.region ?_
        refine St.p rfl rfl ?_
        refine St.asrt (fun _ w => (w.front .z).meltC) ?_
        obtain ⟨r8, hr8, h⟩ := bnd_e h
        refine St.call (c_ref06_Copy hr8) ent28 rfl rfl rfl (fun _ w => Sat.dup (G := [.ro (Sl (codL l_T_Setting) A8 c8 r7.1)]) rfl ⟨(.head _), trivial⟩ w) ?_
        rintro _ _ ⟨A9, c9, rfl, rfl⟩
        refine St.asrt (F' := .res (OwnC (codL l_T_Setting) 60 A9 c9 r8) :: .ro (Sl (codL l_T_Setting) A8 c8 r7.1) :: .ro (SlL e_Known A7 c7 r6.2) :: .ro (SlL ei64 A6 c6 r6.1.L) :: .res (Box g1 73 [.slice A6 r6.1.L.length c6, .int .i64 r6.1.At]) :: .ro (SlL e_Known A1 c1 a_p0) :: .ro (Sl (codL l_T_Setting) A2 c2 l_p1) :: R) (fun _ w => w) ?_
        refine St.p rfl rfl ?_
        refine St.done ?_
        refine St.thenN ?_
        refine St.prune (Γ' := [(0, _), (1, _), (8, _), (9, _), (10, _), (12, _)]) ⟨rfl, rfl, rfl, rfl, rfl, rfl, trivial⟩ (.k (.k (.k (.k (.k (.k (.k .z))))))) ?_
        refine St.seq ?_
        refine St.region ?_
        iterate 3 refine St.p rfl rfl ?_
        obtain ⟨r9, hr9, h⟩ := bnd_e h
        refine St.call (c_made_Dice_Next hr9) ent22 rfl rfl rfl (fun _ w => Sat.dup (G := [.ro (SlL ei64 A6 c6 r6.1.L)]) rfl ⟨(.tail _ (.tail _ (.tail _ (.tail _ (.head _))))), trivial⟩ (w.front (.s (.s (.s (.s .z)))))) ?_
        rintro _ _ ⟨A10, c10, rfl, rfl⟩
        refine St.asrt (F' := .ro (SlL ei64 A10 c10 r9.1.L) :: .res (Box g1 73 [.slice A10 r9.1.L.length c10, .int .i64 r9.1.At]) :: .res (OwnC (codL l_T_Setting) 60 A9 c9 r8) :: .ro (Sl (codL l_T_Setting) A8 c8 r7.1) :: .ro (SlL e_Known A7 c7 r6.2) :: .ro (SlL ei64 A6 c6 r6.1.L) :: .ro (SlL e_Known A1 c1 a_p0) :: .ro (Sl (codL l_T_Setting) A2 c2 l_p1) :: R) (fun _ w => w) ?_
        refine St.p rfl rfl ?_
        refine St.done ?_
        refine St.thenN ?_
        refine St.prune (Γ' := [(0, _), (1, _), (8, _), (9, _), (10, _), (12, _), (13, _)]) ⟨rfl, rfl, rfl, rfl, rfl, rfl, rfl, trivial⟩ (.k (.k (.k (.k (.k (.d (.k (.k .z)))))))) ?_
        refine St.seq ?_
        obtain ⟨o4, hj2, h⟩ := bnd_e h
        refine St.cutE (fun (e4 : Option Addr × Nat) => [(0, .slice A1 a_p0.length c1), (1, .slice A2 l_p1.length c2), (9, .slice A7 r6.2.length c7), (10, .slice A8 r7.1.length c8), (12, .slice e4.1 o4.length e4.2)]) (fun e4 => .res (OwnC (codL l_T_Setting) 60 e4.1 e4.2 o4) :: .ro (Sl (codL l_T_Setting) A8 c8 r7.1) :: .ro (SlL e_Known A7 c7 r6.2) :: .ro (SlL e_Known A1 c1 a_p0) :: .ro (Sl (codL l_T_Setting) A2 c2 l_p1) :: R) ?_ ?_
        · refine St.seq ?_
          refine St.region ?_
          refine St.p rfl rfl ?_
          obtain ⟨r10, hr10, hj2⟩ := bnd_e hj2
          refine St.call (c_made_Dice_Next hr10) ent22 rfl rfl rfl (fun _ w => Sat.dup (G := [.ro (SlL ei64 A10 c10 r9.1.L)]) rfl ⟨(.tail _ (.head _)), trivial⟩ (w.front (.s .z))) ?_
          rintro _ _ ⟨A12, c12, rfl, rfl⟩
          refine St.asrt (F' := .ro (SlL ei64 A12 c12 r10.1.L) :: .res (Box g1 73 [.slice A12 r10.1.L.length c12, .int .i64 r10.1.At]) :: .ro (SlL ei64 A10 c10 r9.1.L) :: .res (OwnC (codL l_T_Setting) 60 A9 c9 r8) :: .ro (Sl (codL l_T_Setting) A8 c8 r7.1) :: .ro (SlL e_Known A7 c7 r6.2) :: .ro (SlL e_Known A1 c1 a_p0) :: .ro (Sl (codL l_T_Setting) A2 c2 l_p1) :: R) (fun _ w => w) ?_
          refine St.done ?_
          refine St.thenN ?_
          refine St.prune (Γ' := [(0, _), (1, _), (8, _), (9, _), (10, _), (12, _), (13, _), (70, _)]) ⟨rfl, rfl, rfl, rfl, rfl, rfl, rfl, rfl, trivial⟩ (.k (.k (.d (.k (.k (.k (.k (.k .z)))))))) ?_
          refine St.block ?_
          refine St.seq ?_
          refine St.region ?_
          refine St.p rfl rfl ?_
          refine St.p rfl rfl ?_
          refine St.done ?_
          refine St.thenN ?_
          refine St.prune (Γ' := [(0, _), (1, _), (8, _), (9, _), (10, _), (12, _), (13, _), (70, _), (71, _)]) ⟨rfl, rfl, rfl, rfl, rfl, rfl, rfl, rfl, rfl, trivial⟩ (.k (.k (.k (.k (.k (.k (.k .z))))))) ?_
          refine St.cond _ rfl (fun hb6 => ?_) (fun hb6 => ?_)
          · replace hj2 := bif_t hb6 hj2
            refine St.seq ?_
            refine St.region ?_
            iterate 3 refine St.p rfl rfl ?_
            obtain ⟨r11, hr11, hj2⟩ := bnd_e hj2
            refine St.call (c_made_Dice_Bytes hr11) ent29 rfl rfl rfl (fun _ w => Sat.dup (G := [.ro (SlL ei64 A12 c12 r10.1.L)]) rfl ⟨(.tail _ (.head _)), trivial⟩ (w.front (.s .z))) ?_
            rintro _ _ ⟨A13, c13, A14, c14, rfl, rfl⟩
            refine St.asrt (F' := .ro (SlL ei64 A13 c13 r11.1.L) :: .res (Box g1 73 [.slice A13 r11.1.L.length c13, .int .i64 r11.1.At]) :: .res (OwnL eu8 5 A14 c14 r11.2) :: .ro (SlL ei64 A12 c12 r10.1.L) :: .res (OwnC (codL l_T_Setting) 60 A9 c9 r8) :: .ro (Sl (codL l_T_Setting) A8 c8 r7.1) :: .ro (SlL e_Known A7 c7 r6.2) :: .ro (SlL e_Known A1 c1 a_p0) :: .ro (Sl (codL l_T_Setting) A2 c2 l_p1) :: R) (fun _ w => w) ?_
            obtain ⟨x2, hx2, hj2⟩ := bnd_e hj2
            refine St.ixC hx2 rfl rfl rfl (.tail _ (.tail _ (.tail _ (.tail _ (.head _))))) rfl rfl rfl rfl rfl fun g2 hA => ?_
            subst hA
            refine St.p rfl rfl ?_
            refine St.asrt (fun _ w => (w.front (.s (.s .z))).meltL) ?_
            obtain ⟨l1, hl1, hj2⟩ := bnd_e hj2
            refine St.stC (ls := l_T_Setting) 1 (fun ex => ((A14, c14), ())) hx2 hl1 rfl rfl (.s (.s (.s (.s .z)))) rfl rfl rfl rfl (fun _ => rfl) (fun _ => ⟨(.tail _ (.head _)), trivial⟩) ?_
            refine St.slots (Γ' := [(0, _), (1, _), (8, _), (9, _), (10, _), (12, .slice (some ⟨g2, 0, none⟩) l1.length c9), (13, _), (70, _), (71, _), (73, .slice (some ⟨g2, 0, none⟩) l1.length c9), (74, _), (75, _), (76, _), (77, _), (78, _)]) ⟨rfl, rfl, rfl, rfl, rfl, sl_len hl1, rfl, rfl, rfl, sl_len hl1, rfl, rfl, rfl, rfl, rfl, trivial⟩ ?_
            refine St.done ?_
            refine St.thenN ?_
            refine St.prune (Γ' := [(0, _), (1, _), (9, _), (10, _), (12, _), (13, _)]) ⟨rfl, rfl, rfl, rfl, rfl, rfl, trivial⟩ (.k (.d (.d (.d (.d (.k (.k (.k (.k .z))))))))) ?_
            refine St.region ?_
            refine St.p rfl rfl ?_
            refine St.p rfl rfl ?_
            obtain ⟨x3, hx3, hj2⟩ := bnd_e hj2
            refine St.ixC hx3 rfl rfl rfl (.head _) rfl rfl rfl rfl rfl fun g3 hA => ?_
            cases hA
            refine St.p rfl rfl ?_
            obtain ⟨l2, hl2, hj2⟩ := bnd_e hj2
            refine St.stC (ls := l_T_Setting) 2 (fun ex => ((ex.1.1, ex.1.2), ())) hx3 hl2 rfl rfl .z rfl rfl rfl rfl (fun _ => rfl) (fun _ => ⟨(.head _), trivial⟩) ?_
            refine St.slots (Γ' := [(0, _), (1, _), (9, _), (10, _), (12, .slice (some ⟨g2, 0, none⟩) l2.length c9), (13, _), (79, .slice (some ⟨g2, 0, none⟩) l2.length c9), (80, _), (81, _), (82, _)]) ⟨rfl, rfl, rfl, rfl, sl_len hl2, rfl, sl_len hl2, rfl, rfl, rfl, trivial⟩ ?_
            refine St.done ?_
            refine St.blkN ?_
            injection hj2 with hj2
            subst hj2
            refine St.thenN ?_
            exact St.hereE ((some ⟨g2, 0, none⟩), c9) ⟨rfl, rfl, rfl, rfl, rfl, trivial⟩ (fun _ w => ((.k (.k (.k (.k (.k .z))))) : Keep _ _).sat w)
          · replace hj2 := bif_f hb6 hj2
            refine St.seq ?_
            refine St.region ?_
            refine St.p rfl rfl ?_
            refine St.p rfl rfl ?_
            refine St.done ?_
            refine St.thenN ?_
            refine St.prune (Γ' := [(0, _), (1, _), (8, _), (9, _), (10, _), (12, _), (13, _), (70, _), (83, _)]) ⟨rfl, rfl, rfl, rfl, rfl, rfl, rfl, rfl, rfl, trivial⟩ (.k (.k (.k (.k (.k (.k (.k .z))))))) ?_
            refine St.cond _ rfl (fun hb7 => ?_) (fun hb7 => ?_)
            · replace hj2 := bif_t hb7 hj2
              refine St.region ?_
              iterate 3 refine St.p rfl rfl ?_
              obtain ⟨r12, hr12, hj2⟩ := bnd_e hj2
              refine St.call (c_made_Dice_Next hr12) ent22 rfl rfl rfl (fun _ w => Sat.dup (G := [.ro (SlL ei64 A12 c12 r10.1.L)]) rfl ⟨(.tail _ (.head _)), trivial⟩ (w.front (.s .z))) ?_
              rintro _ _ ⟨A15, c15, rfl, rfl⟩
              refine St.asrt (F' := .ro (SlL ei64 A15 c15 r12.1.L) :: .res (Box g1 73 [.slice A15 r12.1.L.length c15, .int .i64 r12.1.At]) :: .ro (SlL ei64 A12 c12 r10.1.L) :: .res (OwnC (codL l_T_Setting) 60 A9 c9 r8) :: .ro (Sl (codL l_T_Setting) A8 c8 r7.1) :: .ro (SlL e_Known A7 c7 r6.2) :: .ro (SlL e_Known A1 c1 a_p0) :: .ro (Sl (codL l_T_Setting) A2 c2 l_p1) :: R) (fun _ w => w) ?_
              refine St.p rfl rfl ?_
              refine St.p rfl rfl ?_
              obtain ⟨x4, hx4, hj2⟩ := bnd_e hj2
              refine St.ixC hx4 rfl rfl rfl (.tail _ (.tail _ (.tail _ (.head _)))) rfl rfl rfl rfl rfl fun g4 hA => ?_
              subst hA
              refine St.p rfl rfl ?_
              obtain ⟨l3, hl3, hj2⟩ := bnd_e hj2
              refine St.stC (ls := l_T_Setting) 0 (fun ex => ((ex.1.1, ex.1.2), ())) hx4 hl3 rfl rfl (.s (.s (.s .z))) rfl rfl rfl rfl (fun _ => rfl) (fun _ => ⟨(.head _), trivial⟩) ?_
              refine St.slots (Γ' := [(0, _), (1, _), (8, _), (9, _), (10, _), (12, .slice (some ⟨g4, 0, none⟩) l3.length c9), (13, _), (70, _), (83, _), (85, .slice (some ⟨g4, 0, none⟩) l3.length c9), (86, _), (87, _), (88, _), (89, _), (90, _), (91, _), (92, _)]) ⟨rfl, rfl, rfl, rfl, rfl, sl_len hl3, rfl, rfl, rfl, sl_len hl3, rfl, rfl, rfl, rfl, rfl, rfl, rfl, trivial⟩ ?_
              refine St.done ?_
              refine St.blkN ?_
              injection hj2 with hj2
              subst hj2
              refine St.thenN ?_
              exact St.hereE ((some ⟨g4, 0, none⟩), c9) ⟨rfl, rfl, rfl, rfl, rfl, trivial⟩ (fun _ w => ((.k (.d (.d (.d (.k (.k (.k (.k .z)))))))) : Keep _ _).sat w)
            · replace hj2 := bif_f hb7 hj2
              refine St.seq ?_
              refine St.region ?_
              refine St.p rfl rfl ?_
              refine St.p rfl rfl ?_
              refine St.done ?_
              refine St.thenN ?_
              refine St.prune (Γ' := [(0, _), (1, _), (8, _), (9, _), (10, _), (12, _), (13, _), (93, _)]) ⟨rfl, rfl, rfl, rfl, rfl, rfl, rfl, rfl, trivial⟩ (.k (.k (.k (.k (.k (.k (.k .z))))))) ?_
              refine St.cond _ rfl (fun hb8 => ?_) (fun hb8 => ?_)
              · replace hj2 := bif_t hb8 hj2
                refine St.seq ?_
                refine St.region ?_
                iterate 3 refine St.p rfl rfl ?_
                obtain ⟨r13, hr13, hj2⟩ := bnd_e hj2
                refine St.call (c_made_Dice_Next hr13) ent22 rfl rfl rfl (fun _ w => Sat.dup (G := [.ro (SlL ei64 A12 c12 r10.1.L)]) rfl ⟨(.tail _ (.head _)), trivial⟩ (w.front (.s .z))) ?_
                rintro _ _ ⟨A16, c16, rfl, rfl⟩
                refine St.asrt (F' := .ro (SlL ei64 A16 c16 r13.1.L) :: .res (Box g1 73 [.slice A16 r13.1.L.length c16, .int .i64 r13.1.At]) :: .ro (SlL ei64 A12 c12 r10.1.L) :: .res (OwnC (codL l_T_Setting) 60 A9 c9 r8) :: .ro (Sl (codL l_T_Setting) A8 c8 r7.1) :: .ro (SlL e_Known A7 c7 r6.2) :: .ro (SlL e_Known A1 c1 a_p0) :: .ro (Sl (codL l_T_Setting) A2 c2 l_p1) :: R) (fun _ w => w) ?_
                refine St.p rfl rfl ?_
                obtain ⟨l4, hl4, hj2⟩ := bnd_e hj2
                refine St.mkL (E := eu8) 0 hl4 rfl rfl rfl rfl rfl rfl rfl rfl rfl rfl fun g5 => ?_
                obtain ⟨x5, hx5, hj2⟩ := bnd_e hj2
                refine St.ixC hx5 rfl rfl rfl (.tail _ (.tail _ (.tail _ (.tail _ (.head _))))) rfl rfl rfl rfl rfl fun g6 hA => ?_
                subst hA
                refine St.p rfl rfl ?_
                refine St.stH (ls := l_T_Setting) 1 hx5 rfl rfl (.s (.s (.s (.s .z)))) rfl rfl rfl rfl (fun _ => rfl) ?_
                refine St.done ?_
                refine St.thenN ?_
                refine St.prune (Γ' := [(0, _), (1, _), (8, _), (9, _), (10, _), (12, _), (13, _)]) ⟨rfl, rfl, rfl, rfl, rfl, rfl, rfl, trivial⟩ (.k (.k (.k (.k (.d (.k (.k (.k (.k .z))))))))) ?_
                refine St.seq ?_
                refine St.regionX (iL [(.fl, 0), (.fl, 1), (.fl, 2), (.fl, 3), (.fl, 4), (.fl, 5), (.ef, 6), (.fl, 7), (.fx, 8), (.ef, 9)] .nil) (.res (OwnH l_T_Setting 60 (some ⟨g6, 0, none⟩) c9 r8 r9.2 1 (.slice (some ⟨g5, 0, none⟩) l4.length (Int.toNat (IntKind.wrap .i64 (28 + r13.2))))) :: .ro (SlL ei64 A16 c16 r13.1.L) :: .ro (Sl (codL l_T_Setting) A8 c8 r7.1) :: .ro (SlL e_Known A7 c7 r6.2) :: .ro (SlL e_Known A1 c1 a_p0) :: .ro (Sl (codL l_T_Setting) A2 c2 l_p1) :: R) mixed (by kernel_rfl) (fun _ w => ((.k (.d (.k (.d (.k (.k (.k (.k .z)))))))) : Keep _ _).sat w) ?_
                refine St.xfl (fun _ h => h) (Rd.p rfl) rfl ?_
                refine St.xfl (fun _ h => h) (Rd.p rfl) rfl ?_
                obtain ⟨x6, hx6, hj2⟩ := bnd_e hj2
                refine St.xfl (fun _ h => h) (Rd.ixOC (n' := 3) hx6 rfl rfl rfl rfl rfl rfl rfl) rfl ?_
                refine St.xfl (fun _ h => h) (Rd.p rfl) rfl ?_
                refine St.xfl (fun _ h => h) (Rd.ldH (ls := l_T_Setting) 1 hx6 rfl (.head _) rfl (fun _ => rfl)) rfl ?_
                refine St.xfl (fun _ h => h) (Rd.p rfl) rfl ?_
                refine St.xef ?_
                obtain ⟨r14, hr14, hj2⟩ := bnd_e hj2
                refine St.call (c_made_Dice_Next hr14) ent22 rfl rfl rfl (fun _ w => Sat.dup (G := [.ro (SlL ei64 A16 c16 r13.1.L)]) rfl ⟨(.tail _ (.tail _ (.tail _ (.head _)))), trivial⟩ (w.front (.s (.s (.s .z))))) ?_
                rintro _ _ ⟨A17, c17, rfl, rfl⟩
                refine St.asrt (F' := .ro (SlL ei64 A17 c17 r14.1.L) :: .res (Box g1 73 [.slice A17 r14.1.L.length c17, .int .i64 r14.1.At]) :: .res (OwnH l_T_Setting 60 (some ⟨g6, 0, none⟩) c9 r8 r9.2 1 (.slice (some ⟨g5, 0, none⟩) l4.length (Int.toNat (IntKind.wrap .i64 (28 + r13.2))))) :: .res (OwnL eu8 5 (some ⟨g5, 0, none⟩) (Int.toNat (IntKind.wrap .i64 (28 + r13.2))) l4) :: .ro (SlL ei64 A16 c16 r13.1.L) :: .ro (Sl (codL l_T_Setting) A8 c8 r7.1) :: .ro (SlL e_Known A7 c7 r6.2) :: .ro (SlL e_Known A1 c1 a_p0) :: .ro (Sl (codL l_T_Setting) A2 c2 l_p1) :: R) (fun _ w => w) ?_
                refine St.xk (fun _ w => ((.d (.d (.k (.d (.k (.k (.k (.k (.k .z))))))))) : Keep _ _).sat w) ?_
                refine St.xfl (fun _ h => h) (Rd.p rfl) rfl ?_
                obtain ⟨x7, hx7, hj2⟩ := bnd_e hj2
                refine St.xfx (Rd.ixO (E := eu8) hx7 rfl rfl rfl rfl rfl rfl rfl) rfl ?_
                refine St.xef ?_
                obtain ⟨l5, hl5, hj2⟩ := bnd_e hj2
                refine St.stO 0 hx7 hl5 rfl rfl (.s (.s (.s .z))) rfl rfl rfl rfl rfl ?_
                refine St.slots (Γ' := [(0, _), (1, _), (8, _), (9, _), (10, _), (12, _), (13, _), (103, _), (104, _), (105, _), (106, _), (107, .slice (some ⟨g5, 0, none⟩) l5.length (Int.toNat (IntKind.wrap .i64 (28 + r13.2)))), (108, _), (109, _), (110, _), (111, _)]) ⟨rfl, rfl, rfl, rfl, rfl, rfl, rfl, rfl, rfl, rfl, rfl, sl_len hl5, rfl, rfl, rfl, rfl, trivial⟩ ?_
                refine St.xk (fun _ w => ((.d (.d (.d (.k (.k (.k (.k (.k (.k .z))))))))) : Keep _ _).sat w) ?_
                refine St.xdone ?_
                refine St.asrt (fun _ w => (w.front .z).meltL) ?_
                obtain ⟨l6, hl6, hj2⟩ := bnd_e hj2
                refine St.asrt (fun _ w => Sat.shutH (ls := l_T_Setting) hx5 hl6 (fun ex => (((some ⟨g5, 0, none⟩), (Int.toNat (IntKind.wrap .i64 (28 + r13.2)))), ())) (fun ex => Eq.trans (congrArg (fun n => (valsL x5 l_T_Setting ex).set 1 (.slice (some ⟨g5, 0, none⟩) n (Int.toNat (IntKind.wrap .i64 (28 + r13.2))))) (setE_len hl5).symm) rfl) (fun _ => ⟨(.tail _ (.head _)), trivial⟩) (w.front (.s (.s (.s .z))))) ?_
                refine St.slots (Γ' := [(0, _), (1, _), (8, _), (9, _), (10, _), (12, .slice (some ⟨g6, 0, none⟩) l6.length c9), (13, _), (103, .slice (some ⟨g6, 0, none⟩) l6.length c9), (104, _), (105, _), (106, _), (107, _), (108, _), (109, _), (110, _), (111, _)]) ⟨rfl, rfl, rfl, rfl, rfl, sl_len hl6, rfl, sl_len hl6, rfl, rfl, rfl, rfl, rfl, rfl, rfl, rfl, trivial⟩ ?_
                refine St.thenN ?_
                refine St.prune (Γ' := [(0, _), (1, _), (9, _), (10, _), (12, _), (13, _)]) ⟨rfl, rfl, rfl, rfl, rfl, rfl, trivial⟩ (.k (.d (.d (.d (.d (.k (.k (.k (.k .z))))))))) ?_
                refine St.region ?_
                refine St.p rfl rfl ?_
                refine St.p rfl rfl ?_
                obtain ⟨x8, hx8, hj2⟩ := bnd_e hj2
                refine St.ixC hx8 rfl rfl rfl (.head _) rfl rfl rfl rfl rfl fun g9 hA => ?_
                cases hA
                refine St.p rfl rfl ?_
                obtain ⟨l7, hl7, hj2⟩ := bnd_e hj2
                refine St.stC (ls := l_T_Setting) 2 (fun ex => ((ex.1.1, ex.1.2), ())) hx8 hl7 rfl rfl .z rfl rfl rfl rfl (fun _ => rfl) (fun _ => ⟨(.head _), trivial⟩) ?_
                refine St.slots (Γ' := [(0, _), (1, _), (9, _), (10, _), (12, .slice (some ⟨g6, 0, none⟩) l7.length c9), (13, _), (112, .slice (some ⟨g6, 0, none⟩) l7.length c9), (113, _), (114, _), (115, _)]) ⟨rfl, rfl, rfl, rfl, sl_len hl7, rfl, sl_len hl7, rfl, rfl, rfl, trivial⟩ ?_
                refine St.done ?_
                refine St.blkN ?_
                injection hj2 with hj2
                subst hj2
                refine St.thenN ?_
                exact St.hereE ((some ⟨g6, 0, none⟩), c9) ⟨rfl, rfl, rfl, rfl, rfl, trivial⟩ (fun _ w => ((.k (.k (.k (.k (.k .z))))) : Keep _ _).sat w)
              · replace hj2 := bif_f hb8 hj2
                refine St.skip ?_
                refine St.blkN ?_
                injection hj2 with hj2
                subst hj2
                refine St.thenN ?_
                exact St.hereE (A9, c9) ⟨rfl, rfl, rfl, rfl, rfl, trivial⟩ (fun _ w => ((.d (.d (.k (.k (.k (.k (.k .z))))))) : Keep _ _).sat w)
        · rintro ⟨A11, c11⟩
          refine St.seq ?_
          refine St.seq ?_
          refine St.region ?_
          refine St.p rfl rfl ?_
          refine St.p rfl rfl ?_
          refine St.buildSlice rfl rfl rfl rfl rfl rfl rfl rfl fun g10 => ?_
          refine St.p rfl rfl ?_
          refine St.p rfl rfl ?_
          refine St.done ?_
          refine St.thenN ?_
          refine St.prune (Γ' := [(1, _), (10, _), (12, _), (118, _), (119, _), (120, _)]) ⟨rfl, rfl, rfl, rfl, rfl, rfl, trivial⟩ (.k (.k (.k (.k (.k (.k .z)))))) ?_
          refine St.block ?_
          refine St.rounds 9 ?_
          refine St.round ?_
          refine St.seq ?_
          refine St.region ?_
          refine St.p rfl rfl ?_
          refine St.done ?_
          refine St.thenN ?_
          refine St.seq ?_
          refine St.condT rfl ?_
          refine St.skip ?_
          refine St.thenN ?_
          refine St.prune (Γ' := [(1, _), (10, _), (12, _), (118, _), (119, _), (120, _)]) ⟨rfl, rfl, rfl, rfl, rfl, rfl, trivial⟩ (.k (.k (.k (.k (.k (.k .z)))))) ?_
          refine St.seq ?_
          refine St.block ?_
          refine St.seq ?_
          refine St.region ?_
          refine St.ixB 0 rfl rfl rfl rfl rfl rfl rfl rfl rfl rfl ?_
          refine St.loadB 0 rfl rfl (.head _) rfl rfl ?_
          refine St.p rfl rfl ?_
          refine St.done ?_
          refine St.thenN ?_
          refine St.prune (Γ' := [(1, _), (10, _), (12, _), (15, _), (118, _), (119, _), (120, _)]) ⟨rfl, rfl, rfl, rfl, rfl, rfl, rfl, trivial⟩ (.k (.k (.k (.k (.k (.k .z)))))) ?_
          refine St.seq ?_
          refine St.region ?_
          refine St.p rfl rfl ?_
          obtain ⟨r15, hr15, h⟩ := bnd_e h
          refine St.call (c_inventory_Save hr15) ent30 rfl rfl rfl (fun _ w => Sat.dup (G := [.ro (SlL e_Known A1 c1 a_p0)]) rfl ⟨(.tail _ (.tail _ (.tail _ (.tail _ (.head _))))), trivial⟩ w) ?_
          rintro _ _ ⟨A18, c18, rfl, rfl⟩
          refine St.asrt (F' := .res (OwnC (codL l_T_Setting) 60 A18 c18 r15.1) :: .res (Box g10 22 [.slice A1 a_p0.length c1, .slice A7 r6.2.length c7]) :: .res (OwnC (codL l_T_Setting) 60 A11 c11 o4) :: .ro (Sl (codL l_T_Setting) A8 c8 r7.1) :: .ro (SlL e_Known A7 c7 r6.2) :: .ro (SlL e_Known A1 c1 a_p0) :: .ro (Sl (codL l_T_Setting) A2 c2 l_p1) :: R) (fun _ w => w) ?_
          iterate 5 refine St.p rfl rfl ?_
          refine St.done ?_
          refine St.thenN ?_
          refine St.prune (Γ' := [(1, _), (10, _), (12, _), (15, _), (16, _), (17, _), (118, _), (119, _), (120, _)]) ⟨rfl, rfl, rfl, rfl, rfl, rfl, rfl, rfl, rfl, trivial⟩ (.k (.k (.k (.k (.k (.k (.k .z))))))) ?_
          refine St.seq ?_
          refine St.region ?_
          refine St.p rfl rfl ?_
          obtain ⟨r16, hr16, h⟩ := bnd_e h
          refine St.call (c_ref19_Save hr16) ent27 rfl rfl rfl (fun _ w => Sat.dup (G := [.ro (SlL e_Known A1 c1 a_p0)]) rfl ⟨(.tail _ (.tail _ (.tail _ (.tail _ (.tail _ (.head _)))))), trivial⟩ w) ?_
          rintro _ _ ⟨A19, c19, rfl, rfl⟩
          refine St.asrt (F' := .res (OwnC (codL l_T_Setting) 60 A19 c19 r16.1) :: .res (OwnC (codL l_T_Setting) 60 A18 c18 r15.1) :: .res (Box g10 22 [.slice A1 a_p0.length c1, .slice A7 r6.2.length c7]) :: .res (OwnC (codL l_T_Setting) 60 A11 c11 o4) :: .ro (Sl (codL l_T_Setting) A8 c8 r7.1) :: .ro (SlL e_Known A7 c7 r6.2) :: .ro (SlL e_Known A1 c1 a_p0) :: .ro (Sl (codL l_T_Setting) A2 c2 l_p1) :: R) (fun _ w => w) ?_
          iterate 5 refine St.p rfl rfl ?_
          refine St.done ?_
          refine St.thenN ?_
          refine St.prune (Γ' := [(1, _), (10, _), (12, _), (16, _), (17, _), (18, _), (19, _), (118, _), (119, _), (120, _)]) ⟨rfl, rfl, rfl, rfl, rfl, rfl, rfl, rfl, rfl, rfl, trivial⟩ (.k (.k (.k (.k (.k (.k (.k (.k .z)))))))) ?_
          refine St.seq ?_
          obtain ⟨o5, hj3, h⟩ := bnd_e h
          refine St.cutE (fun (e5 : Unit) => [(1, .slice A2 l_p1.length c2), (10, .slice A8 r7.1.length c8), (12, .slice A11 o4.length c11), (118, .slice (some ⟨g10, 0, none⟩) 2 2), (119, .int .i64 ((2 : Nat) : Int)), (120, .int .i64 0), (142, .bool o5)]) (fun e5 => .res (Box g10 22 [.slice A1 a_p0.length c1, .slice A7 r6.2.length c7]) :: .res (OwnC (codL l_T_Setting) 60 A11 c11 o4) :: .ro (Sl (codL l_T_Setting) A8 c8 r7.1) :: .ro (SlL e_Known A7 c7 r6.2) :: .ro (SlL e_Known A1 c1 a_p0) :: .ro (Sl (codL l_T_Setting) A2 c2 l_p1) :: R) ?_ ?_
          · refine St.region ?_
            iterate 4 refine St.p rfl rfl ?_
            refine St.gSplit (dj := 137) _ rfl (fun hb9 => ?_) (fun hb9 => ?_)
            · replace hj3 := bif_t hb9 hj3
              refine St.gOff (dj := 137) rfl rfl rfl rfl ?_
              refine St.gOff (dj := 137) rfl rfl rfl rfl ?_
              refine St.gOff (dj := 137) rfl rfl rfl rfl ?_
              refine St.gOff (dj := 137) rfl rfl rfl rfl ?_
              refine St.p rfl rfl ?_
              refine St.done ?_
              injection hj3 with hj3
              subst hj3
              refine St.thenN ?_
              exact St.hereE () ⟨rfl, rfl, rfl, rfl, rfl, rfl, rfl, trivial⟩ (fun _ w => ((.d (.d (.k (.k (.k (.k (.k (.k .z)))))))) : Keep _ _).sat w)
            · replace hj3 := bif_f hb9 hj3
              refine St.gOn (dj := 137) rfl rfl ?_
              refine St.p rfl rfl ?_
              refine St.gOn (dj := 137) rfl rfl ?_
              refine St.p rfl rfl ?_
              refine St.gOn (dj := 137) rfl rfl ?_
              refine St.asrt (fun _ w => (w.front (.s .z)).meltC) ?_
              refine St.asrt (fun _ w => (w.front (.s .z)).meltC) ?_
              obtain ⟨r17, hr17, hj3⟩ := bnd_e hj3
              refine St.callV (c_ref06_Same hr17) ent31 rfl rfl rfl rfl ⟨(.tail _ (.head _)), (.head _), trivial⟩ ?_
              refine St.gOn (dj := 137) rfl rfl ?_
              refine St.p rfl rfl ?_
              refine St.p rfl rfl ?_
              refine St.done ?_
              injection hj3 with hj3
              subst hj3
              refine St.thenN ?_
              exact St.hereE () ⟨rfl, rfl, rfl, rfl, rfl, rfl, rfl, trivial⟩ (fun _ w => ((.d (.d (.k (.k (.k (.k (.k (.k .z)))))))) : Keep _ _).sat w)
          · rintro e5
            refine St.cond _ rfl (fun hb10 => ?_) (fun hb10 => ?_)
            · replace h := bif_t hb10 h
              refine St.seq ?_
              refine St.region ?_
              refine St.p rfl rfl ?_
              refine St.done ?_
              refine St.thenN ?_
              refine St.prune (Γ' := [(6, _)]) ⟨rfl, trivial⟩ (.d (.d (.d (.d (.d (.d .z)))))) ?_
              refine St.ret ?_
              repeat (first | refine St.thenR ?_ | refine St.blkR ?_)
              injection h with h
              subst h
              exact St.finR Try.results8 (.tmp rfl .nil) rfl [] ⟨rfl, rfl⟩ (fun _ w => (.z : Keep _ _).sat w)
            · replace h := bif_f hb10 h
              refine St.skip ?_
              refine St.blkN ?_
              refine St.thenN ?_
              refine St.prune (Γ' := [(1, _), (10, _), (12, _), (118, _), (119, _), (120, _)]) ⟨rfl, rfl, rfl, rfl, rfl, rfl, trivial⟩ (.k (.k (.k (.k (.k (.k .z)))))) ?_
              refine St.region ?_
              refine St.p rfl rfl ?_
              refine St.p rfl rfl ?_
              refine St.done ?_
              refine St.thenN ?_
              refine St.round ?_
              refine St.prune (Γ' := [(1, _), (10, _), (12, _), (118, _), (119, _), (120, _)]) ⟨rfl, rfl, rfl, rfl, rfl, rfl, trivial⟩ (.k (.k (.k (.k (.k (.k .z)))))) ?_
              refine St.seq ?_
              refine St.region ?_
              refine St.p rfl rfl ?_
              refine St.done ?_
              refine St.thenN ?_
              refine St.seq ?_
              refine St.condT rfl ?_
              refine St.skip ?_
              refine St.thenN ?_
              refine St.prune (Γ' := [(1, _), (10, _), (12, _), (118, _), (119, _), (120, _)]) ⟨rfl, rfl, rfl, rfl, rfl, rfl, trivial⟩ (.k (.k (.k (.k (.k (.k .z)))))) ?_
              refine St.seq ?_
              refine St.block ?_
              refine St.seq ?_
              refine St.region ?_
              refine St.ixB 1 rfl rfl rfl rfl rfl rfl rfl rfl rfl rfl ?_
              refine St.loadB 1 rfl rfl (.head _) rfl rfl ?_
              refine St.p rfl rfl ?_
              refine St.done ?_
              refine St.thenN ?_
              refine St.prune (Γ' := [(1, _), (10, _), (12, _), (15, _), (118, _), (119, _), (120, _)]) ⟨rfl, rfl, rfl, rfl, rfl, rfl, rfl, trivial⟩ (.k (.k (.k (.k (.k (.k .z)))))) ?_
              refine St.seq ?_
              refine St.region ?_
              refine St.p rfl rfl ?_
              obtain ⟨r18, hr18, h⟩ := bnd_e h
              refine St.call (c_inventory_Save hr18) ent30 rfl rfl rfl (fun _ w => Sat.dup (G := [.ro (SlL e_Known A7 c7 r6.2)]) rfl ⟨(.tail _ (.tail _ (.tail _ (.head _)))), trivial⟩ w) ?_
              rintro _ _ ⟨A20, c20, rfl, rfl⟩
              refine St.asrt (F' := .res (OwnC (codL l_T_Setting) 60 A20 c20 r18.1) :: .res (Box g10 22 [.slice A1 a_p0.length c1, .slice A7 r6.2.length c7]) :: .res (OwnC (codL l_T_Setting) 60 A11 c11 o4) :: .ro (Sl (codL l_T_Setting) A8 c8 r7.1) :: .ro (SlL e_Known A7 c7 r6.2) :: .ro (SlL e_Known A1 c1 a_p0) :: .ro (Sl (codL l_T_Setting) A2 c2 l_p1) :: R) (fun _ w => w) ?_
              iterate 5 refine St.p rfl rfl ?_
              refine St.done ?_
              refine St.thenN ?_
              refine St.prune (Γ' := [(1, _), (10, _), (12, _), (15, _), (16, _), (17, _), (118, _), (119, _), (120, _)]) ⟨rfl, rfl, rfl, rfl, rfl, rfl, rfl, rfl, rfl, trivial⟩ (.k (.k (.k (.k (.k (.k (.k .z))))))) ?_
              refine St.seq ?_
              refine St.region ?_
              refine St.p rfl rfl ?_
              obtain ⟨r19, hr19, h⟩ := bnd_e h
              refine St.call (c_ref19_Save hr19) ent27 rfl rfl rfl (fun _ w => Sat.dup (G := [.ro (SlL e_Known A7 c7 r6.2)]) rfl ⟨(.tail _ (.tail _ (.tail _ (.tail _ (.head _))))), trivial⟩ w) ?_
              rintro _ _ ⟨A21, c21, rfl, rfl⟩
              refine St.asrt (F' := .res (OwnC (codL l_T_Setting) 60 A21 c21 r19.1) :: .res (OwnC (codL l_T_Setting) 60 A20 c20 r18.1) :: .res (Box g10 22 [.slice A1 a_p0.length c1, .slice A7 r6.2.length c7]) :: .res (OwnC (codL l_T_Setting) 60 A11 c11 o4) :: .ro (Sl (codL l_T_Setting) A8 c8 r7.1) :: .ro (SlL e_Known A7 c7 r6.2) :: .ro (SlL e_Known A1 c1 a_p0) :: .ro (Sl (codL l_T_Setting) A2 c2 l_p1) :: R) (fun _ w => w) ?_
              iterate 5 refine St.p rfl rfl ?_
              refine St.done ?_
              refine St.thenN ?_
              refine St.prune (Γ' := [(1, _), (10, _), (12, _), (16, _), (17, _), (18, _), (19, _), (118, _), (119, _), (120, _)]) ⟨rfl, rfl, rfl, rfl, rfl, rfl, rfl, rfl, rfl, rfl, trivial⟩ (.k (.k (.k (.k (.k (.k (.k (.k .z)))))))) ?_
              refine St.seq ?_
              obtain ⟨o6, hj4, h⟩ := bnd_e h
              refine St.cutE (fun (e6 : Unit) => [(1, .slice A2 l_p1.length c2), (10, .slice A8 r7.1.length c8), (12, .slice A11 o4.length c11), (118, .slice (some ⟨g10, 0, none⟩) 2 2), (119, .int .i64 ((2 : Nat) : Int)), (120, .int .i64 1), (142, .bool o6)]) (fun e6 => .res (Box g10 22 [.slice A1 a_p0.length c1, .slice A7 r6.2.length c7]) :: .res (OwnC (codL l_T_Setting) 60 A11 c11 o4) :: .ro (Sl (codL l_T_Setting) A8 c8 r7.1) :: .ro (SlL e_Known A7 c7 r6.2) :: .ro (SlL e_Known A1 c1 a_p0) :: .ro (Sl (codL l_T_Setting) A2 c2 l_p1) :: R) ?_ ?_
              · refine St.region ?_
                iterate 4 refine St.p rfl rfl ?_
                refine St.gSplit (dj := 137) _ rfl (fun hb11 => ?_) (fun hb11 => ?_)
                · replace hj4 := bif_t hb11 hj4
                  refine St.gOff (dj := 137) rfl rfl rfl rfl ?_
                  refine St.gOff (dj := 137) rfl rfl rfl rfl ?_
                  refine St.gOff (dj := 137) rfl rfl rfl rfl ?_
                  refine St.gOff (dj := 137) rfl rfl rfl rfl ?_
                  refine St.p rfl rfl ?_
                  refine St.done ?_
                  injection hj4 with hj4
                  subst hj4
                  refine St.thenN ?_
                  exact St.hereE () ⟨rfl, rfl, rfl, rfl, rfl, rfl, rfl, trivial⟩ (fun _ w => ((.d (.d (.k (.k (.k (.k (.k (.k .z)))))))) : Keep _ _).sat w)
                · replace hj4 := bif_f hb11 hj4
                  refine St.gOn (dj := 137) rfl rfl ?_
                  refine St.p rfl rfl ?_
                  refine St.gOn (dj := 137) rfl rfl ?_
                  refine St.p rfl rfl ?_
                  refine St.gOn (dj := 137) rfl rfl ?_
                  refine St.asrt (fun _ w => (w.front (.s .z)).meltC) ?_
                  refine St.asrt (fun _ w => (w.front (.s .z)).meltC) ?_
                  obtain ⟨r20, hr20, hj4⟩ := bnd_e hj4
                  refine St.callV (c_ref06_Same hr20) ent31 rfl rfl rfl rfl ⟨(.tail _ (.head _)), (.head _), trivial⟩ ?_
                  refine St.gOn (dj := 137) rfl rfl ?_
                  refine St.p rfl rfl ?_
                  refine St.p rfl rfl ?_
                  refine St.done ?_
                  injection hj4 with hj4
                  subst hj4
                  refine St.thenN ?_
                  exact St.hereE () ⟨rfl, rfl, rfl, rfl, rfl, rfl, rfl, trivial⟩ (fun _ w => ((.d (.d (.k (.k (.k (.k (.k (.k .z)))))))) : Keep _ _).sat w)
              · rintro e6
                refine St.cond _ rfl (fun hb12 => ?_) (fun hb12 => ?_)
                · replace h := bif_t hb12 h
                  refine St.seq ?_
                  refine St.region ?_
                  refine St.p rfl rfl ?_
                  refine St.done ?_
                  refine St.thenN ?_
                  refine St.prune (Γ' := [(6, _)]) ⟨rfl, trivial⟩ (.d (.d (.d (.d (.d (.d .z)))))) ?_
                  refine St.ret ?_
                  repeat (first | refine St.thenR ?_ | refine St.blkR ?_)
                  injection h with h
                  subst h
                  exact St.finR Try.results8 (.tmp rfl .nil) rfl [] ⟨rfl, rfl⟩ (fun _ w => (.z : Keep _ _).sat w)
                · replace h := bif_f hb12 h
                  refine St.skip ?_
                  refine St.blkN ?_
                  refine St.thenN ?_
                  refine St.prune (Γ' := [(1, _), (10, _), (12, _), (118, _), (119, _), (120, _)]) ⟨rfl, rfl, rfl, rfl, rfl, rfl, trivial⟩ (.k (.k (.k (.k (.k (.k .z)))))) ?_
                  refine St.region ?_
                  refine St.p rfl rfl ?_
                  refine St.p rfl rfl ?_
                  refine St.done ?_
                  refine St.thenN ?_
                  refine St.round ?_
                  refine St.prune (Γ' := [(1, _), (10, _), (12, _), (118, _), (119, _), (120, _)]) ⟨rfl, rfl, rfl, rfl, rfl, rfl, trivial⟩ (.k (.k (.k (.k (.k (.k .z)))))) ?_
                  refine St.seq ?_
                  refine St.region ?_
                  refine St.p rfl rfl ?_
                  refine St.done ?_
                  refine St.thenN ?_
                  refine St.seq ?_
                  refine St.condF rfl ?_
                  refine St.exit ?_
                  repeat (first | refine St.thenX ?_ | refine St.blkMiss rfl ?_)
                  refine St.blkHit ?_
                  refine St.thenN ?_
                  refine St.prune (Γ' := [(1, _), (10, _), (12, _)]) ⟨rfl, rfl, rfl, trivial⟩ (.d (.k (.k (.d (.d (.k .z)))))) ?_
                  refine St.seq ?_
                  refine St.seq ?_
                  refine St.region ?_
                  iterate 3 refine St.p rfl rfl ?_
                  refine St.buildSlice rfl rfl rfl rfl rfl rfl rfl rfl fun g11 => ?_
                  refine St.p rfl rfl ?_
                  refine St.p rfl rfl ?_
                  refine St.done ?_
                  refine St.thenN ?_
                  refine St.prune (Γ' := [(147, _), (148, _), (149, _)]) ⟨rfl, rfl, rfl, trivial⟩ (.k (.k (.k (.k .z)))) ?_
                  refine St.block ?_
                  refine St.rounds 9 ?_
                  refine St.round ?_
                  refine St.seq ?_
                  refine St.region ?_
                  refine St.p rfl rfl ?_
                  refine St.done ?_
                  refine St.thenN ?_
                  refine St.seq ?_
                  refine St.condT rfl ?_
                  refine St.skip ?_
                  refine St.thenN ?_
                  refine St.prune (Γ' := [(147, _), (148, _), (149, _)]) ⟨rfl, rfl, rfl, trivial⟩ (.k (.k (.k (.k .z)))) ?_
                  refine St.seq ?_
                  refine St.block ?_
                  refine St.seq ?_
                  refine St.region ?_
                  refine St.ixB 0 rfl rfl rfl rfl rfl rfl rfl rfl rfl rfl ?_
                  refine St.loadB 0 rfl rfl (.head _) rfl rfl ?_
                  refine St.p rfl rfl ?_
                  refine St.done ?_
                  refine St.thenN ?_
                  refine St.prune (Γ' := [(21, _), (147, _), (148, _), (149, _)]) ⟨rfl, rfl, rfl, rfl, trivial⟩ (.k (.k (.k (.k .z)))) ?_
                  refine St.seq ?_
                  refine St.region ?_
                  refine St.p rfl rfl ?_
                  obtain ⟨r21, hr21, h⟩ := bnd_e h
                  refine St.call (c_inventory_Load hr21) ent32 rfl rfl rfl (fun _ w => Sat.dup (G := [.ro (Sl (codL l_T_Setting) A2 c2 l_p1)]) rfl ⟨(.tail _ (.tail _ (.tail _ (.head _)))), trivial⟩ w) ?_
                  rintro _ _ ⟨A22, c22, rfl, rfl⟩
                  refine St.asrt (F' := .res (OwnL e_Known 45 A22 c22 r21.1) :: .res (Box g11 57 [.slice A2 l_p1.length c2, .slice A8 r7.1.length c8, .slice A11 o4.length c11]) :: .res (OwnC (codL l_T_Setting) 60 A11 c11 o4) :: .ro (Sl (codL l_T_Setting) A8 c8 r7.1) :: .ro (Sl (codL l_T_Setting) A2 c2 l_p1) :: R) (fun _ w => w) ?_
                  iterate 5 refine St.p rfl rfl ?_
                  refine St.done ?_
                  refine St.thenN ?_
                  refine St.prune (Γ' := [(21, _), (22, _), (23, _), (147, _), (148, _), (149, _)]) ⟨rfl, rfl, rfl, rfl, rfl, rfl, trivial⟩ (.k (.k (.k (.k (.k .z))))) ?_
                  refine St.seq ?_
                  refine St.region ?_
                  refine St.p rfl rfl ?_
                  obtain ⟨r22, hr22, h⟩ := bnd_e h
                  refine St.call (c_ref19_Load hr22) ent33 rfl rfl rfl (fun _ w => Sat.dup (G := [.ro (Sl (codL l_T_Setting) A2 c2 l_p1)]) rfl ⟨(.tail _ (.tail _ (.tail _ (.tail _ (.head _))))), trivial⟩ w) ?_
                  rintro _ _ ⟨A23, c23, rfl, rfl⟩
                  refine St.asrt (F' := .res (OwnL e_Known 45 A23 c23 r22.1) :: .res (OwnL e_Known 45 A22 c22 r21.1) :: .res (Box g11 57 [.slice A2 l_p1.length c2, .slice A8 r7.1.length c8, .slice A11 o4.length c11]) :: .res (OwnC (codL l_T_Setting) 60 A11 c11 o4) :: .ro (Sl (codL l_T_Setting) A8 c8 r7.1) :: .ro (Sl (codL l_T_Setting) A2 c2 l_p1) :: R) (fun _ w => w) ?_
                  iterate 5 refine St.p rfl rfl ?_
                  refine St.done ?_
                  refine St.thenN ?_
                  refine St.prune (Γ' := [(22, _), (23, _), (24, _), (25, _), (147, _), (148, _), (149, _)]) ⟨rfl, rfl, rfl, rfl, rfl, rfl, rfl, trivial⟩ (.k (.k (.k (.k (.k (.k .z)))))) ?_
                  refine St.seq ?_
                  obtain ⟨o7, hj5, h⟩ := bnd_e h
                  refine St.cutE (fun (e7 : Unit) => [(147, .slice (some ⟨g11, 0, none⟩) 3 3), (148, .int .i64 ((3 : Nat) : Int)), (149, .int .i64 0), (171, .bool o7)]) (fun e7 => .res (Box g11 57 [.slice A2 l_p1.length c2, .slice A8 r7.1.length c8, .slice A11 o4.length c11]) :: .res (OwnC (codL l_T_Setting) 60 A11 c11 o4) :: .ro (Sl (codL l_T_Setting) A8 c8 r7.1) :: .ro (Sl (codL l_T_Setting) A2 c2 l_p1) :: R) ?_ ?_
                  · refine St.region ?_
                    iterate 4 refine St.p rfl rfl ?_
                    refine St.gSplit (dj := 166) _ rfl (fun hb13 => ?_) (fun hb13 => ?_)
                    · replace hj5 := bif_t hb13 hj5
                      refine St.gOff (dj := 166) rfl rfl rfl rfl ?_
                      refine St.gOff (dj := 166) rfl rfl rfl rfl ?_
                      refine St.gOff (dj := 166) rfl rfl rfl rfl ?_
                      refine St.gOff (dj := 166) rfl rfl rfl rfl ?_
                      refine St.p rfl rfl ?_
                      refine St.done ?_
                      injection hj5 with hj5
                      subst hj5
                      refine St.thenN ?_
                      exact St.hereE () ⟨rfl, rfl, rfl, rfl, trivial⟩ (fun _ w => ((.d (.d (.k (.k (.k (.k .z)))))) : Keep _ _).sat w)
                    · replace hj5 := bif_f hb13 hj5
                      refine St.gOn (dj := 166) rfl rfl ?_
                      refine St.p rfl rfl ?_
                      refine St.gOn (dj := 166) rfl rfl ?_
                      refine St.p rfl rfl ?_
                      refine St.gOn (dj := 166) rfl rfl ?_
                      refine St.asrt (fun _ w => (w.front (.s .z)).meltL) ?_
                      refine St.asrt (fun _ w => (w.front (.s .z)).meltL) ?_
                      obtain ⟨r23, hr23, hj5⟩ := bnd_e hj5
                      refine St.callV (c_ref19_Same hr23) ent34 rfl rfl rfl rfl ⟨(.tail _ (.head _)), (.head _), trivial⟩ ?_
                      refine St.gOn (dj := 166) rfl rfl ?_
                      refine St.p rfl rfl ?_
                      refine St.p rfl rfl ?_
                      refine St.done ?_
                      injection hj5 with hj5
                      subst hj5
                      refine St.thenN ?_
                      exact St.hereE () ⟨rfl, rfl, rfl, rfl, trivial⟩ (fun _ w => ((.d (.d (.k (.k (.k (.k .z)))))) : Keep _ _).sat w)
                  · rintro e7
                    refine St.cond _ rfl (fun hb14 => ?_) (fun hb14 => ?_)
                    · replace h := bif_t hb14 h
                      refine St.seq ?_
                      refine St.region ?_
                      refine St.p rfl rfl ?_
                      refine St.done ?_
                      refine St.thenN ?_
                      refine St.prune (Γ' := [(6, _)]) ⟨rfl, trivial⟩ (.d (.d (.d (.d .z)))) ?_
                      refine St.ret ?_
                      repeat (first | refine St.thenR ?_ | refine St.blkR ?_)
                      injection h with h
                      subst h
                      exact St.finR Try.results8 (.tmp rfl .nil) rfl [] ⟨rfl, rfl⟩ (fun _ w => (.z : Keep _ _).sat w)
                    · replace h := bif_f hb14 h
                      refine St.skip ?_
                      refine St.blkN ?_
                      refine St.thenN ?_
                      refine St.prune (Γ' := [(147, _), (148, _), (149, _)]) ⟨rfl, rfl, rfl, trivial⟩ (.k (.k (.k (.k .z)))) ?_
                      refine St.region ?_
                      refine St.p rfl rfl ?_
                      refine St.p rfl rfl ?_
                      refine St.done ?_
                      refine St.thenN ?_
                      refine St.round ?_
                      refine St.prune (Γ' := [(147, _), (148, _), (149, _)]) ⟨rfl, rfl, rfl, trivial⟩ (.k (.k (.k (.k .z)))) ?_
                      refine St.seq ?_
                      refine St.region ?_
                      refine St.p rfl rfl ?_
                      refine St.done ?_
                      refine St.thenN ?_
                      refine St.seq ?_
                      refine St.condT rfl ?_
                      refine St.skip ?_
                      refine St.thenN ?_
                      refine St.prune (Γ' := [(147, _), (148, _), (149, _)]) ⟨rfl, rfl, rfl, trivial⟩ (.k (.k (.k (.k .z)))) ?_
                      refine St.seq ?_
                      refine St.block ?_
                      refine St.seq ?_
                      refine St.region ?_
                      refine St.ixB 1 rfl rfl rfl rfl rfl rfl rfl rfl rfl rfl ?_
                      refine St.loadB 1 rfl rfl (.head _) rfl rfl ?_
                      refine St.p rfl rfl ?_
                      refine St.done ?_
                      refine St.thenN ?_
                      refine St.prune (Γ' := [(21, _), (147, _), (148, _), (149, _)]) ⟨rfl, rfl, rfl, rfl, trivial⟩ (.k (.k (.k (.k .z)))) ?_
                      refine St.seq ?_
                      refine St.region ?_
                      refine St.p rfl rfl ?_
                      obtain ⟨r24, hr24, h⟩ := bnd_e h
                      refine St.call (c_inventory_Load hr24) ent32 rfl rfl rfl (fun _ w => Sat.dup (G := [.ro (Sl (codL l_T_Setting) A8 c8 r7.1)]) rfl ⟨(.tail _ (.tail _ (.head _))), trivial⟩ w) ?_
                      rintro _ _ ⟨A24, c24, rfl, rfl⟩
                      refine St.asrt (F' := .res (OwnL e_Known 45 A24 c24 r24.1) :: .res (Box g11 57 [.slice A2 l_p1.length c2, .slice A8 r7.1.length c8, .slice A11 o4.length c11]) :: .res (OwnC (codL l_T_Setting) 60 A11 c11 o4) :: .ro (Sl (codL l_T_Setting) A8 c8 r7.1) :: .ro (Sl (codL l_T_Setting) A2 c2 l_p1) :: R) (fun _ w => w) ?_
                      iterate 5 refine St.p rfl rfl ?_
                      refine St.done ?_
                      refine St.thenN ?_
                      refine St.prune (Γ' := [(21, _), (22, _), (23, _), (147, _), (148, _), (149, _)]) ⟨rfl, rfl, rfl, rfl, rfl, rfl, trivial⟩ (.k (.k (.k (.k (.k .z))))) ?_
                      refine St.seq ?_
                      refine St.region ?_
                      refine St.p rfl rfl ?_
                      obtain ⟨r25, hr25, h⟩ := bnd_e h
                      refine St.call (c_ref19_Load hr25) ent33 rfl rfl rfl (fun _ w => Sat.dup (G := [.ro (Sl (codL l_T_Setting) A8 c8 r7.1)]) rfl ⟨(.tail _ (.tail _ (.tail _ (.head _)))), trivial⟩ w) ?_
                      rintro _ _ ⟨A25, c25, rfl, rfl⟩
                      refine St.asrt (F' := .res (OwnL e_Known 45 A25 c25 r25.1) :: .res (OwnL e_Known 45 A24 c24 r24.1) :: .res (Box g11 57 [.slice A2 l_p1.length c2, .slice A8 r7.1.length c8, .slice A11 o4.length c11]) :: .res (OwnC (codL l_T_Setting) 60 A11 c11 o4) :: .ro (Sl (codL l_T_Setting) A8 c8 r7.1) :: .ro (Sl (codL l_T_Setting) A2 c2 l_p1) :: R) (fun _ w => w) ?_
                      iterate 5 refine St.p rfl rfl ?_
                      refine St.done ?_
                      refine St.thenN ?_
                      refine St.prune (Γ' := [(22, _), (23, _), (24, _), (25, _), (147, _), (148, _), (149, _)]) ⟨rfl, rfl, rfl, rfl, rfl, rfl, rfl, trivial⟩ (.k (.k (.k (.k (.k (.k .z)))))) ?_
                      refine St.seq ?_
                      obtain ⟨o8, hj6, h⟩ := bnd_e h
                      refine St.cutE (fun (e8 : Unit) => [(147, .slice (some ⟨g11, 0, none⟩) 3 3), (148, .int .i64 ((3 : Nat) : Int)), (149, .int .i64 1), (171, .bool o8)]) (fun e8 => .res (Box g11 57 [.slice A2 l_p1.length c2, .slice A8 r7.1.length c8, .slice A11 o4.length c11]) :: .res (OwnC (codL l_T_Setting) 60 A11 c11 o4) :: .ro (Sl (codL l_T_Setting) A8 c8 r7.1) :: .ro (Sl (codL l_T_Setting) A2 c2 l_p1) :: R) ?_ ?_
                      · refine St.region ?_
                        iterate 4 refine St.p rfl rfl ?_
                        refine St.gSplit (dj := 166) _ rfl (fun hb15 => ?_) (fun hb15 => ?_)
                        · replace hj6 := bif_t hb15 hj6
                          refine St.gOff (dj := 166) rfl rfl rfl rfl ?_
                          refine St.gOff (dj := 166) rfl rfl rfl rfl ?_
                          refine St.gOff (dj := 166) rfl rfl rfl rfl ?_
                          refine St.gOff (dj := 166) rfl rfl rfl rfl ?_
                          refine St.p rfl rfl ?_
                          refine St.done ?_
                          injection hj6 with hj6
                          subst hj6
                          refine St.thenN ?_
                          exact St.hereE () ⟨rfl, rfl, rfl, rfl, trivial⟩ (fun _ w => ((.d (.d (.k (.k (.k (.k .z)))))) : Keep _ _).sat w)
                        · replace hj6 := bif_f hb15 hj6
                          refine St.gOn (dj := 166) rfl rfl ?_
                          refine St.p rfl rfl ?_
                          refine St.gOn (dj := 166) rfl rfl ?_
                          refine St.p rfl rfl ?_
                          refine St.gOn (dj := 166) rfl rfl ?_
                          refine St.asrt (fun _ w => (w.front (.s .z)).meltL) ?_
                          refine St.asrt (fun _ w => (w.front (.s .z)).meltL) ?_
                          obtain ⟨r26, hr26, hj6⟩ := bnd_e hj6
                          refine St.callV (c_ref19_Same hr26) ent34 rfl rfl rfl rfl ⟨(.tail _ (.head _)), (.head _), trivial⟩ ?_
                          refine St.gOn (dj := 166) rfl rfl ?_
                          refine St.p rfl rfl ?_
                          refine St.p rfl rfl ?_
                          refine St.done ?_
                          injection hj6 with hj6
                          subst hj6
                          refine St.thenN ?_
                          exact St.hereE () ⟨rfl, rfl, rfl, rfl, trivial⟩ (fun _ w => ((.d (.d (.k (.k (.k (.k .z)))))) : Keep _ _).sat w)
                      · rintro e8
                        refine St.cond _ rfl (fun hb16 => ?_) (fun hb16 => ?_)
                        · replace h := bif_t hb16 h
                          refine St.seq ?_
                          refine St.region ?_
                          refine St.p rfl rfl ?_
                          refine St.done ?_
                          refine St.thenN ?_
                          refine St.prune (Γ' := [(6, _)]) ⟨rfl, trivial⟩ (.d (.d (.d (.d .z)))) ?_
                          refine St.ret ?_
                          repeat (first | refine St.thenR ?_ | refine St.blkR ?_)
                          injection h with h
                          subst h
                          exact St.finR Try.results8 (.tmp rfl .nil) rfl [] ⟨rfl, rfl⟩ (fun _ w => (.z : Keep _ _).sat w)
                        · replace h := bif_f hb16 h
                          refine St.skip ?_
                          refine St.blkN ?_
                          refine St.thenN ?_
                          refine St.prune (Γ' := [(147, _), (148, _), (149, _)]) ⟨rfl, rfl, rfl, trivial⟩ (.k (.k (.k (.k .z)))) ?_
                          refine St.region ?_
                          refine St.p rfl rfl ?_
                          refine St.p rfl rfl ?_
                          refine St.done ?_
                          refine St.thenN ?_
                          refine St.round ?_
                          refine St.prune (Γ' := [(147, _), (148, _), (149, _)]) ⟨rfl, rfl, rfl, trivial⟩ (.k (.k (.k (.k .z)))) ?_
                          refine St.seq ?_
                          refine St.region ?_
                          refine St.p rfl rfl ?_
                          refine St.done ?_
                          refine St.thenN ?_
                          refine St.seq ?_
                          refine St.condT rfl ?_
                          refine St.skip ?_
                          refine St.thenN ?_
                          refine St.prune (Γ' := [(147, _), (148, _), (149, _)]) ⟨rfl, rfl, rfl, trivial⟩ (.k (.k (.k (.k .z)))) ?_
                          refine St.seq ?_
                          refine St.block ?_
                          refine St.seq ?_
                          refine St.region ?_
                          refine St.ixB 2 rfl rfl rfl rfl rfl rfl rfl rfl rfl rfl ?_
                          refine St.loadB 2 rfl rfl (.head _) rfl rfl ?_
                          refine St.p rfl rfl ?_
                          refine St.done ?_
                          refine St.thenN ?_
                          refine St.prune (Γ' := [(21, _), (147, _), (148, _), (149, _)]) ⟨rfl, rfl, rfl, rfl, trivial⟩ (.k (.k (.k (.k .z)))) ?_
                          refine St.seq ?_
                          refine St.region ?_
                          refine St.p rfl rfl ?_
                          refine St.asrt (fun _ w => (w.front (.s .z)).meltC) ?_
                          obtain ⟨r27, hr27, h⟩ := bnd_e h
                          refine St.call (c_inventory_Load hr27) ent32 rfl rfl rfl (fun _ w => Sat.dup (G := [.ro (Sl (codL l_T_Setting) A11 c11 o4)]) rfl ⟨(.head _), trivial⟩ w) ?_
                          rintro _ _ ⟨A26, c26, rfl, rfl⟩
                          refine St.asrt (F' := .res (OwnL e_Known 45 A26 c26 r27.1) :: .ro (Sl (codL l_T_Setting) A11 c11 o4) :: .res (Box g11 57 [.slice A2 l_p1.length c2, .slice A8 r7.1.length c8, .slice A11 o4.length c11]) :: .ro (Sl (codL l_T_Setting) A8 c8 r7.1) :: .ro (Sl (codL l_T_Setting) A2 c2 l_p1) :: R) (fun _ w => w) ?_
                          iterate 5 refine St.p rfl rfl ?_
                          refine St.done ?_
                          refine St.thenN ?_
                          refine St.prune (Γ' := [(21, _), (22, _), (23, _), (147, _), (148, _), (149, _)]) ⟨rfl, rfl, rfl, rfl, rfl, rfl, trivial⟩ (.k (.k (.k (.k (.k .z))))) ?_
                          refine St.seq ?_
                          refine St.region ?_
                          refine St.p rfl rfl ?_
                          obtain ⟨r28, hr28, h⟩ := bnd_e h
                          refine St.call (c_ref19_Load hr28) ent33 rfl rfl rfl (fun _ w => Sat.dup (G := [.ro (Sl (codL l_T_Setting) A11 c11 o4)]) rfl ⟨(.tail _ (.head _)), trivial⟩ w) ?_
                          rintro _ _ ⟨A27, c27, rfl, rfl⟩
                          refine St.asrt (F' := .res (OwnL e_Known 45 A27 c27 r28.1) :: .res (OwnL e_Known 45 A26 c26 r27.1) :: .ro (Sl (codL l_T_Setting) A11 c11 o4) :: .res (Box g11 57 [.slice A2 l_p1.length c2, .slice A8 r7.1.length c8, .slice A11 o4.length c11]) :: .ro (Sl (codL l_T_Setting) A8 c8 r7.1) :: .ro (Sl (codL l_T_Setting) A2 c2 l_p1) :: R) (fun _ w => w) ?_
                          iterate 5 refine St.p rfl rfl ?_
                          refine St.done ?_
                          refine St.thenN ?_
                          refine St.prune (Γ' := [(22, _), (23, _), (24, _), (25, _), (147, _), (148, _), (149, _)]) ⟨rfl, rfl, rfl, rfl, rfl, rfl, rfl, trivial⟩ (.k (.k (.k (.k (.k (.k .z)))))) ?_
                          refine St.seq ?_
                          obtain ⟨o9, hj7, h⟩ := bnd_e h
                          refine St.cutE (fun (e9 : Unit) => [(147, .slice (some ⟨g11, 0, none⟩) 3 3), (148, .int .i64 ((3 : Nat) : Int)), (149, .int .i64 2), (171, .bool o9)]) (fun e9 => .ro (Sl (codL l_T_Setting) A11 c11 o4) :: .res (Box g11 57 [.slice A2 l_p1.length c2, .slice A8 r7.1.length c8, .slice A11 o4.length c11]) :: .ro (Sl (codL l_T_Setting) A8 c8 r7.1) :: .ro (Sl (codL l_T_Setting) A2 c2 l_p1) :: R) ?_ ?_
                          · refine St.region ?_
                            iterate 4 refine St.p rfl rfl ?_
                            refine St.gSplit (dj := 166) _ rfl (fun hb17 => ?_) (fun hb17 => ?_)
                            · replace hj7 := bif_t hb17 hj7
                              refine St.gOff (dj := 166) rfl rfl rfl rfl ?_
                              refine St.gOff (dj := 166) rfl rfl rfl rfl ?_
                              refine St.gOff (dj := 166) rfl rfl rfl rfl ?_
                              refine St.gOff (dj := 166) rfl rfl rfl rfl ?_
                              refine St.p rfl rfl ?_
                              refine St.done ?_
                              injection hj7 with hj7
                              subst hj7
                              refine St.thenN ?_
                              exact St.hereE () ⟨rfl, rfl, rfl, rfl, trivial⟩ (fun _ w => ((.d (.d (.k (.k (.k (.k .z)))))) : Keep _ _).sat w)
                            · replace hj7 := bif_f hb17 hj7
                              refine St.gOn (dj := 166) rfl rfl ?_
                              refine St.p rfl rfl ?_
                              refine St.gOn (dj := 166) rfl rfl ?_
                              refine St.p rfl rfl ?_
                              refine St.gOn (dj := 166) rfl rfl ?_
                              refine St.asrt (fun _ w => (w.front (.s .z)).meltL) ?_
                              refine St.asrt (fun _ w => (w.front (.s .z)).meltL) ?_
                              obtain ⟨r29, hr29, hj7⟩ := bnd_e hj7
                              refine St.callV (c_ref19_Same hr29) ent34 rfl rfl rfl rfl ⟨(.tail _ (.head _)), (.head _), trivial⟩ ?_
                              refine St.gOn (dj := 166) rfl rfl ?_
                              refine St.p rfl rfl ?_
                              refine St.p rfl rfl ?_
                              refine St.done ?_
                              injection hj7 with hj7
                              subst hj7
                              refine St.thenN ?_
                              exact St.hereE () ⟨rfl, rfl, rfl, rfl, trivial⟩ (fun _ w => ((.d (.d (.k (.k (.k (.k .z)))))) : Keep _ _).sat w)
                          · rintro e9
                            refine St.cond _ rfl (fun hb18 => ?_) (fun hb18 => ?_)
                            · replace h := bif_t hb18 h
                              refine St.seq ?_
                              refine St.region ?_
                              refine St.p rfl rfl ?_
                              refine St.done ?_
                              refine St.thenN ?_
                              refine St.prune (Γ' := [(6, _)]) ⟨rfl, trivial⟩ (.d (.d (.d (.d .z)))) ?_
                              refine St.ret ?_
                              repeat (first | refine St.thenR ?_ | refine St.blkR ?_)
                              injection h with h
                              subst h
                              exact St.finR Try.results8 (.tmp rfl .nil) rfl [] ⟨rfl, rfl⟩ (fun _ w => (.z : Keep _ _).sat w)
                            · replace h := bif_f hb18 h
                              refine St.skip ?_
                              refine St.blkN ?_
                              refine St.thenN ?_
                              refine St.prune (Γ' := [(147, _), (148, _), (149, _)]) ⟨rfl, rfl, rfl, trivial⟩ (.k (.k (.k (.k .z)))) ?_
                              refine St.region ?_
                              refine St.p rfl rfl ?_
                              refine St.p rfl rfl ?_
                              refine St.done ?_
                              refine St.thenN ?_
                              refine St.round ?_
                              refine St.prune (Γ' := [(147, _), (148, _), (149, _)]) ⟨rfl, rfl, rfl, trivial⟩ (.k (.k (.k (.k .z)))) ?_
                              refine St.seq ?_
                              refine St.region ?_
                              refine St.p rfl rfl ?_
                              refine St.done ?_
                              refine St.thenN ?_
                              refine St.seq ?_
                              refine St.condF rfl ?_
                              refine St.exit ?_
                              repeat (first | refine St.thenX ?_ | refine St.blkMiss rfl ?_)
                              refine St.blkHit ?_
                              refine St.thenN ?_
                              refine St.prune (Γ' := []) trivial (.d (.d (.d (.d .z)))) ?_
                              refine St.seq ?_
                              refine St.region ?_
                              obtain ⟨r30, hr30, h⟩ := bnd_e h
                              refine St.callV (c_law19_awake hr30) ent11 rfl rfl rfl rfl trivial ?_
                              refine St.p rfl rfl ?_
                              refine St.done ?_
                              refine St.thenN ?_
                              refine St.prune (Γ' := [(6, _)]) ⟨rfl, trivial⟩ .z ?_
                              refine St.ret ?_
                              repeat (first | refine St.thenR ?_ | refine St.blkR ?_)
                              injection h with h
                              subst h
                              exact St.finR Try.results8 (.tmp rfl .nil) rfl [] ⟨rfl, rfl⟩ (fun _ w => (.z : Keep _ _).sat w)

end Go.Proofs.Ytnolaefjmjgfbaa
