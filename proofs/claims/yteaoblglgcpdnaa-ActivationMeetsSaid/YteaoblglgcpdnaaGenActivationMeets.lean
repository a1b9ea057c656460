/-
  Models of functions of the program, and that the functions compute them.
  Conditions: none.
-/
import Derived.Test.YteaoblglgcpdnaaGen
namespace Go.Proofs.Yteaoblglgcpdnaa
open Go
set_option linter.unusedVariables false
set_option maxRecDepth 4000

theorem ent5 : Ent Try.prog 5 := ⟨_, Try.func5, by kernel_rfl, by kernel_rfl⟩

noncomputable def m_law31_ActivationMeets (codes : (List Int)) : Option Bool :=
  bnd (m_law31_awake) fun r1 => bif !r1 then (some false) else (bnd (m_field_New codes 120) fun r2 => bnd (m_field_Codes_Plan r2) fun r3 => bnd (m_activation_Order r3.2) fun r4 => bnd (loopM (τ := Bool ⊕ Unit) (fun (s1 : Int) => bnd ((bif (r4.2 == 0) then (some (decide (s1 ≤ (r4.1.length : Int)))) else (some false) : Option Bool)) fun o3 => bif o3 then (bnd (sub r4.1 0 s1) fun l1 => bnd (m_activation_State r3.2 l1) fun r5 => bif (r5.2 != 0) then (some (.done (.inl false))) else (bnd (loopM (τ := Bool ⊕ Unit) (fun (s2 : Int) => bif decide (s2 < (r3.2.Needs.length : Int)) then (bnd (elt r3.2.Needs s2) fun x1 => bnd (m_version_Met r5.1 x1) fun r6 => bif !r6 then (some (.done (.inl false))) else (some (.next (IntKind.wrap .i64 (s2 + 1))))) else (some (.done (.inr ())))) 0) fun o4 => retOrW (fun r_ => (.done (.inl r_))) o4 fun o5 => some (.next (IntKind.wrap .i64 (s1 + 1))))) else (some (.done (.inr ())))) 0) fun o1 => retOr o1 fun o2 => bnd (m_activation_Order (⟨r3.2.Now, r3.2.Next, []⟩ : T_Plan)) fun r7 => bnd ((bif (r7.2 == 0) then (bnd (m_activation_Steps (⟨r3.2.Now, r3.2.Next, []⟩ : T_Plan)) fun r8 => bnd (m_law31_ints r7.1 r8) fun r9 => some r9) else (some false) : Option Bool)) fun o6 => some o6)

set_option maxHeartbeats 4000000 in
theorem c_law31_ActivationMeets {codes : (List Int)} {A1 : Option Addr} {c1 : Nat} {r : Bool} (h : m_law31_ActivationMeets codes = some r) :
    Fun Try.prog 5 [.slice A1 codes.length c1] [.ro (SlL eu8 A1 c1 codes)] (Val (.bool r)) := by
  unfold m_law31_ActivationMeets at h
  refine Fun.intro Try.func5 rfl rfl rfl fun w R => ?_
  refine St.seq ?_
  refine St.region ?_
  refine St.p rfl rfl ?_
  refine St.done ?_
  refine St.thenN ?_
  refine St.prune (Γ' := [(0, _)]) ⟨rfl, trivial⟩ (.k .z) ?_
  refine St.seq ?_
  refine St.seq ?_
  refine St.region ?_
  obtain ⟨r1, hr1, h⟩ := bnd_e h
  refine St.callV (c_law31_awake hr1) ent10 rfl rfl rfl rfl trivial ?_
  refine St.p rfl rfl ?_
  refine St.done ?_
  refine St.thenN ?_
  refine St.prune (Γ' := [(0, _), (12, _)]) ⟨rfl, rfl, trivial⟩ (.k .z) ?_
  refine St.cond _ rfl (fun hb1 => ?_) (fun hb1 => ?_)
  · replace h := bif_t hb1 h
    refine St.seq ?_
    refine St.region ?_
    refine St.p rfl rfl ?_
    refine St.done ?_
    refine St.thenN ?_
    refine St.prune (Γ' := [(2, _)]) ⟨rfl, trivial⟩ (.d .z) ?_
    refine St.ret ?_
    repeat (first | refine St.thenR ?_ | refine St.blkR ?_)
    injection h with h
    subst h
    exact St.finR Try.results5 (.tmp rfl .nil) rfl [] ⟨rfl, rfl⟩ (fun _ w => (.z : Keep _ _).sat w)
  · replace h := bif_f hb1 h
    refine St.skip ?_
    refine St.thenN ?_
    refine St.prune (Γ' := [(0, _)]) ⟨rfl, trivial⟩ (.k .z) ?_
    refine St.seq ?_
    refine St.region ?_
    refine St.p rfl rfl ?_
    obtain ⟨r2, hr2, h⟩ := bnd_e h
    refine St.call (c_field_New hr2) ent13 rfl rfl rfl (fun _ w => Sat.dup (G := [.ro (SlL eu8 A1 c1 codes)]) rfl ⟨(.head _), trivial⟩ w) ?_
    rintro _ _ ⟨g1, A2, c2, rfl, rfl⟩
    refine St.asrt (F' := .ro (SlL eu8 A2 c2 r2.L) :: .res (Box g1 69 [.slice A2 r2.L.length c2, .int .i64 r2.At]) :: .ro (SlL eu8 A1 c1 codes) :: R) (fun _ w => w) ?_
    obtain ⟨r3, hr3, h⟩ := bnd_e h
    refine St.call (c_field_Codes_Plan hr3) ent14 rfl rfl rfl (fun _ w => Sat.dup (G := [.ro (SlL eu8 A2 c2 r2.L)]) rfl ⟨(.tail _ (.head _)), trivial⟩ (w.front (.s .z))) ?_
    rintro _ _ ⟨A3, c3, A4, c4, A5, c5, A6, c6, rfl, rfl⟩
    refine St.asrt (F' := .ro (SlL eu8 A3 c3 r3.1.L) :: .ro (SlL e_Installed A4 c4 r3.2.Now) :: .ro (SlL e_Installed A5 c5 r3.2.Next) :: .ro (SlL e_Need A6 c6 r3.2.Needs) :: .res (Box g1 69 [.slice A3 r3.1.L.length c3, .int .i64 r3.1.At]) :: .ro (SlL eu8 A2 c2 r2.L) :: .ro (SlL eu8 A1 c1 codes) :: R) (fun _ w => w) ?_
    refine St.alloc rfl rfl fun g2 => ?_
    refine St.store 0 rfl rfl rfl rfl rfl rfl .z rfl ?_
    refine St.done ?_
    refine St.thenN ?_
    refine St.prune (Γ' := [(3, _)]) ⟨rfl, trivial⟩ (.k (.d (.k (.k (.k (.d (.d (.d .z)))))))) ?_
    refine St.seq ?_
    refine St.region ?_
    refine St.loadB 0 rfl rfl (.head _) rfl rfl ?_
    obtain ⟨r4, hr4, h⟩ := bnd_e h
    refine St.call (c_activation_Order hr4) ent11 rfl rfl rfl (fun _ w => Sat.dup (G := [.ro (SlL e_Installed A4 c4 r3.2.Now), .ro (SlL e_Installed A5 c5 r3.2.Next), .ro (SlL e_Need A6 c6 r3.2.Needs)]) rfl ⟨(.tail _ (.head _)), (.tail _ (.tail _ (.head _))), (.tail _ (.tail _ (.tail _ (.head _)))), trivial⟩ w) ?_
    rintro _ _ ⟨A7, c7, rfl, rfl⟩
    refine St.asrt (F' := .res (OwnL ei64 3 A7 c7 r4.1) :: .res (Box g2 29 [.slice A4 r3.2.Now.length c4, .slice A5 r3.2.Next.length c5, .slice A6 r3.2.Needs.length c6]) :: .ro (SlL e_Installed A4 c4 r3.2.Now) :: .ro (SlL e_Installed A5 c5 r3.2.Next) :: .ro (SlL e_Need A6 c6 r3.2.Needs) :: R) (fun _ w => w) ?_
    iterate 5 refine St.p rfl rfl ?_
    refine St.done ?_
    refine St.thenN ?_
    refine St.prune (Γ' := [(3, _), (4, _), (5, _)]) ⟨rfl, rfl, rfl, trivial⟩ (.k (.k (.k (.k (.k .z))))) ?_
    refine St.seq ?_
    refine St.seq ?_
    refine St.region ?_
    refine St.p rfl rfl ?_
    refine St.done ?_
    refine St.thenN ?_
    refine St.asrt (fun _ w => (w.front .z).meltL) ?_
    obtain ⟨o1, hl1, h⟩ := bnd_e h
    refine St.cutI (fun (o2 : Unit) (e2 : Unit) => [(3, .pointer (some ⟨g2, 0, none⟩))]) (fun o2 e2 => .res (Box g2 29 [.slice A4 r3.2.Now.length c4, .slice A5 r3.2.Next.length c5, .slice A6 r3.2.Needs.length c6]) :: .ro (SlL e_Installed A4 c4 r3.2.Now) :: .ro (SlL e_Installed A5 c5 r3.2.Next) :: .ro (SlL e_Need A6 c6 r3.2.Needs) :: R) (fun o2 => o1 = .inr o2) ?_ ?_
    · refine St.block ?_
      refine St.loop hl1 (fun (s1 : Int) (e1 : Unit) => [(3, .pointer (some ⟨g2, 0, none⟩)), (4, .slice A7 r4.1.length c7), (5, .int .i64 r4.2), (6, .int .i64 s1)]) (fun s1 e1 => .ro (SlL ei64 A7 c7 r4.1) :: .res (Box g2 29 [.slice A4 r3.2.Now.length c4, .slice A5 r3.2.Next.length c5, .slice A6 r3.2.Needs.length c6]) :: .ro (SlL e_Installed A4 c4 r3.2.Now) :: .ro (SlL e_Installed A5 c5 r3.2.Next) :: .ro (SlL e_Need A6 c6 r3.2.Needs) :: R) (fun _ _ => True) () trivial ⟨rfl, rfl, rfl, rfl, trivial⟩ (fun _ w => ((.k (.k (.k (.k (.k .z))))) : Keep _ _).sat w) ?_
      rintro s1 e1 - hit1
      obtain ⟨st1, hm1, hd1⟩ := iter_e hit1
      have h1 := hm1
      refine St.seq ?_
      refine St.seq ?_
      obtain ⟨o3, hj1, h1⟩ := bnd_e h1
      refine St.cutE (fun (e3 : Unit) => [(3, .pointer (some ⟨g2, 0, none⟩)), (4, .slice A7 r4.1.length c7), (5, .int .i64 r4.2), (6, .int .i64 s1), (28, .bool o3)]) (fun e3 => .ro (SlL ei64 A7 c7 r4.1) :: .res (Box g2 29 [.slice A4 r3.2.Now.length c4, .slice A5 r3.2.Next.length c5, .slice A6 r3.2.Needs.length c6]) :: .ro (SlL e_Installed A4 c4 r3.2.Now) :: .ro (SlL e_Installed A5 c5 r3.2.Next) :: .ro (SlL e_Need A6 c6 r3.2.Needs) :: R) ?_ ?_
      · refine St.region ?_
        iterate 3 refine St.p rfl rfl ?_
        refine St.gSplit (dj := 23) _ rfl (fun hb2 => ?_) (fun hb2 => ?_)
        · replace hj1 := bif_t hb2 hj1
          refine St.gOn (dj := 23) rfl rfl ?_
          refine St.p rfl rfl ?_
          refine St.gOn (dj := 23) rfl rfl ?_
          refine St.p rfl rfl ?_
          refine St.gOn (dj := 23) rfl rfl ?_
          refine St.p rfl rfl ?_
          refine St.gOn (dj := 23) rfl rfl ?_
          refine St.p rfl rfl ?_
          refine St.p rfl rfl ?_
          refine St.done ?_
          injection hj1 with hj1
          subst hj1
          refine St.thenN ?_
          exact St.hereE () ⟨rfl, rfl, rfl, rfl, rfl, trivial⟩ (fun _ w => ((.k (.k (.k (.k (.k .z))))) : Keep _ _).sat w)
        · replace hj1 := bif_f hb2 hj1
          refine St.gOff (dj := 23) rfl rfl rfl rfl ?_
          refine St.gOff (dj := 23) rfl rfl rfl rfl ?_
          refine St.gOff (dj := 23) rfl rfl rfl rfl ?_
          refine St.gOff (dj := 23) rfl rfl rfl rfl ?_
          refine St.p rfl rfl ?_
          refine St.done ?_
          injection hj1 with hj1
          subst hj1
          refine St.thenN ?_
          exact St.hereE () ⟨rfl, rfl, rfl, rfl, rfl, trivial⟩ (fun _ w => ((.k (.k (.k (.k (.k .z))))) : Keep _ _).sat w)
      · rintro e3
        refine St.cond _ rfl (fun hb3 => ?_) (fun hb3 => ?_)
        · replace h1 := bif_t hb3 h1
          refine St.skip ?_
          refine St.thenN ?_
          refine St.prune (Γ' := [(3, _), (4, _), (5, _), (6, _)]) ⟨rfl, rfl, rfl, rfl, trivial⟩ (.k (.k (.k (.k (.k .z))))) ?_
          refine St.seq ?_
          refine St.block ?_
          refine St.seq ?_
          refine St.regionX (iL [(.fx, 0), (.fl, 1), (.fl, 2), (.fx, 3), (.ef, 4), (.fl, 5), (.fl, 6), (.fl, 7), (.fl, 8), (.fl, 9)] .nil) (.ro (SlL ei64 A7 c7 r4.1) :: .res (Box g2 29 [.slice A4 r3.2.Now.length c4, .slice A5 r3.2.Next.length c5, .slice A6 r3.2.Needs.length c6]) :: .ro (SlL e_Installed A4 c4 r3.2.Now) :: .ro (SlL e_Installed A5 c5 r3.2.Next) :: .ro (SlL e_Need A6 c6 r3.2.Needs) :: R) mixed (by kernel_rfl) (fun _ w => ((.k (.k (.k (.k (.k .z))))) : Keep _ _).sat w) ?_
          refine St.xfx (Rd.loadB 0 rfl (.tail _ (.head _)) rfl rfl) rfl ?_
          refine St.xfl (fun _ h => h) (Rd.p rfl) rfl ?_
          refine St.xfl (fun _ h => h) (Rd.p rfl) rfl ?_
          obtain ⟨l1, hl1, h1⟩ := bnd_e h1
          refine St.openS (.head _) hl1 fun A8 c8 hS1 => ?_
          have hc1 := fun w h => Sat.addS hS1 (.head _) hl1 ((fun (w : World) (h : Sat (.ro (SlL ei64 A7 c7 r4.1) :: .res (Box g2 29 [.slice A4 r3.2.Now.length c4, .slice A5 r3.2.Next.length c5, .slice A6 r3.2.Needs.length c6]) :: .ro (SlL e_Installed A4 c4 r3.2.Now) :: .ro (SlL e_Installed A5 c5 r3.2.Next) :: .ro (SlL e_Need A6 c6 r3.2.Needs) :: R) w) => h) w h)
          refine St.xfx (Rd.sub hS1 hl1 (.tail _ (.head _)) rfl rfl rfl rfl rfl rfl rfl rfl) rfl ?_
          refine St.xef ?_
          obtain ⟨r5, hr5, h1⟩ := bnd_e h1
          refine St.call (c_activation_State hr5) ent16 rfl rfl rfl (fun _ w => Sat.dup (G := [.ro (SlL e_Installed A4 c4 r3.2.Now), .ro (SlL e_Installed A5 c5 r3.2.Next), .ro (SlL e_Need A6 c6 r3.2.Needs), .ro (SlL ei64 A8 c8 l1)]) rfl ⟨(.tail _ (.tail _ (.tail _ (.head _)))), (.tail _ (.tail _ (.tail _ (.tail _ (.head _))))), (.tail _ (.tail _ (.tail _ (.tail _ (.tail _ (.head _)))))), (.head _), trivial⟩ w) ?_
          rintro _ _ ⟨A9, c9, rfl, rfl⟩
          refine St.asrt (F' := .res (OwnL e_Installed 31 A9 c9 r5.1) :: .ro (SlL ei64 A8 c8 l1) :: .ro (SlL ei64 A7 c7 r4.1) :: .res (Box g2 29 [.slice A4 r3.2.Now.length c4, .slice A5 r3.2.Next.length c5, .slice A6 r3.2.Needs.length c6]) :: .ro (SlL e_Installed A4 c4 r3.2.Now) :: .ro (SlL e_Installed A5 c5 r3.2.Next) :: .ro (SlL e_Need A6 c6 r3.2.Needs) :: R) (fun _ w => w) ?_
          refine St.xk (fun _ w => ((.d (.d (.k (.k (.k (.k (.k .z))))))) : Keep _ _).sat w) ?_
          refine St.xfl (fun _ h => h) (Rd.p rfl) rfl ?_
          refine St.xfl (fun _ h => h) (Rd.p rfl) rfl ?_
          refine St.xfl (fun _ h => h) (Rd.p rfl) rfl ?_
          refine St.xfl (fun _ h => h) (Rd.p rfl) rfl ?_
          refine St.xfl (fun _ h => h) (Rd.p rfl) rfl ?_
          refine St.xdone ?_
          refine St.thenN ?_
          refine St.prune (Γ' := [(3, _), (4, _), (5, _), (6, _), (7, _), (8, _)]) ⟨rfl, rfl, rfl, rfl, rfl, rfl, trivial⟩ (.k (.d (.k (.k (.k (.k (.k .z))))))) ?_
          refine St.seq ?_
          refine St.seq ?_
          refine St.region ?_
          refine St.p rfl rfl ?_
          refine St.p rfl rfl ?_
          refine St.done ?_
          refine St.thenN ?_
          refine St.prune (Γ' := [(3, _), (4, _), (5, _), (6, _), (7, _), (40, _)]) ⟨rfl, rfl, rfl, rfl, rfl, rfl, trivial⟩ (.k (.k (.k (.k (.k (.k .z)))))) ?_
          refine St.cond _ rfl (fun hb4 => ?_) (fun hb4 => ?_)
          · replace h1 := bif_t hb4 h1
            refine St.seq ?_
            refine St.region ?_
            refine St.p rfl rfl ?_
            refine St.done ?_
            refine St.thenN ?_
            refine St.prune (Γ' := [(2, _)]) ⟨rfl, trivial⟩ (.d (.d (.d (.d (.d (.d .z)))))) ?_
            refine St.ret ?_
            repeat (first | refine St.thenR ?_ | refine St.blkR ?_)
            injection h1 with h1
            subst h1
            have ho := hd1 _ rfl
            subst ho
            have h : some _ = some _ := h
            injection h with h
            subst h
            exact St.finR Try.results5 (.tmp rfl .nil) rfl [] ⟨rfl, rfl⟩ (fun _ w => (.z : Keep _ _).sat w)
          · replace h1 := bif_f hb4 h1
            refine St.skip ?_
            refine St.thenN ?_
            refine St.prune (Γ' := [(3, _), (4, _), (5, _), (6, _), (7, _)]) ⟨rfl, rfl, rfl, rfl, rfl, trivial⟩ (.k (.k (.k (.k (.k (.k .z)))))) ?_
            refine St.seq ?_
            refine St.region ?_
            refine St.p rfl rfl ?_
            refine St.loadB 2 rfl rfl (.tail _ (.tail _ (.head _))) rfl rfl ?_
            refine St.p rfl rfl ?_
            refine St.p rfl rfl ?_
            refine St.done ?_
            refine St.thenN ?_
            refine St.prune (Γ' := [(3, _), (4, _), (5, _), (6, _), (7, _), (42, _), (43, _), (44, _)]) ⟨rfl, rfl, rfl, rfl, rfl, rfl, rfl, rfl, trivial⟩ (.k (.k (.k (.k (.k (.k .z)))))) ?_
            refine St.asrt (fun _ w => (w.front .z).meltL) ?_
            obtain ⟨o4, hl2, h1⟩ := bnd_e h1
            refine St.selfThen ?_
            refine St.cutI (fun (o5 : Unit) (e5 : Unit) => [(3, .pointer (some ⟨g2, 0, none⟩)), (4, .slice A7 r4.1.length c7), (5, .int .i64 r4.2), (6, .int .i64 s1)]) (fun o5 e5 => .ro (SlL ei64 A7 c7 r4.1) :: .res (Box g2 29 [.slice A4 r3.2.Now.length c4, .slice A5 r3.2.Next.length c5, .slice A6 r3.2.Needs.length c6]) :: .ro (SlL e_Installed A4 c4 r3.2.Now) :: .ro (SlL e_Installed A5 c5 r3.2.Next) :: .ro (SlL e_Need A6 c6 r3.2.Needs) :: R) (fun o5 => o4 = .inr o5) ?_ ?_
            · refine St.block ?_
              refine St.loop hl2 (fun (s2 : Int) (e4 : Unit) => [(3, .pointer (some ⟨g2, 0, none⟩)), (4, .slice A7 r4.1.length c7), (5, .int .i64 r4.2), (6, .int .i64 s1), (7, .slice A9 r5.1.length c9), (42, .slice A6 r3.2.Needs.length c6), (43, .int .i64 (r3.2.Needs.length : Int)), (44, .int .i64 s2)]) (fun s2 e4 => .ro (SlL e_Installed A9 c9 r5.1) :: .ro (SlL ei64 A7 c7 r4.1) :: .res (Box g2 29 [.slice A4 r3.2.Now.length c4, .slice A5 r3.2.Next.length c5, .slice A6 r3.2.Needs.length c6]) :: .ro (SlL e_Installed A4 c4 r3.2.Now) :: .ro (SlL e_Installed A5 c5 r3.2.Next) :: .ro (SlL e_Need A6 c6 r3.2.Needs) :: R) (fun _ _ => True) () trivial ⟨rfl, rfl, rfl, rfl, rfl, rfl, rfl, rfl, trivial⟩ (fun _ w => ((.k (.k (.k (.k (.k (.k .z)))))) : Keep _ _).sat w) ?_
              rintro s2 e4 - hit2
              obtain ⟨st2, hm2, hd2⟩ := iter_e hit2
              have h2 := hm2
              refine St.seq ?_
              refine St.region ?_
              refine St.p rfl rfl ?_
              refine St.done ?_
              refine St.thenN ?_
              refine St.seq ?_
              refine St.cond _ rfl (fun hb5 => ?_) (fun hb5 => ?_)
              · replace h2 := bif_t hb5 h2
                refine St.skip ?_
                refine St.thenN ?_
                refine St.prune (Γ' := [(3, _), (4, _), (5, _), (6, _), (7, _), (42, _), (43, _), (44, _)]) ⟨rfl, rfl, rfl, rfl, rfl, rfl, rfl, rfl, trivial⟩ (.k (.k (.k (.k (.k (.k .z)))))) ?_
                refine St.seq ?_
                refine St.block ?_
                refine St.seq ?_
                refine St.region ?_
                obtain ⟨x1, hx1, h2⟩ := bnd_e h2
                refine St.ixL hx1 rfl rfl rfl (.tail _ (.tail _ (.tail _ (.tail _ (.tail _ (.head _)))))) rfl rfl rfl rfl rfl fun b1 ob1 => ?_
                refine St.load ob1 0 rfl rfl (.head _) rfl rfl ?_
                refine St.alloc rfl rfl fun g3 => ?_
                refine St.store 0 rfl rfl rfl rfl rfl rfl .z rfl ?_
                refine St.done ?_
                refine St.thenN ?_
                refine St.prune (Γ' := [(3, _), (4, _), (5, _), (6, _), (7, _), (10, _), (42, _), (43, _), (44, _)]) ⟨rfl, rfl, rfl, rfl, rfl, rfl, rfl, rfl, rfl, trivial⟩ (.k (.d (.k (.k (.k (.k (.k (.k .z)))))))) ?_
                refine St.seq ?_
                refine St.region ?_
                refine St.p rfl rfl ?_
                refine St.loadB 0 rfl rfl (.head _) rfl rfl ?_
                obtain ⟨r6, hr6, h2⟩ := bnd_e h2
                refine St.callV (c_version_Met hr6) ent17 rfl rfl rfl rfl ⟨(.tail _ (.head _)), trivial⟩ ?_
                refine St.p rfl rfl ?_
                refine St.done ?_
                refine St.thenN ?_
                refine St.prune (Γ' := [(3, _), (4, _), (5, _), (6, _), (7, _), (42, _), (43, _), (44, _), (51, _)]) ⟨rfl, rfl, rfl, rfl, rfl, rfl, rfl, rfl, rfl, trivial⟩ (.d (.k (.k (.k (.k (.k (.k .z))))))) ?_
                refine St.cond _ rfl (fun hb6 => ?_) (fun hb6 => ?_)
                · replace h2 := bif_t hb6 h2
                  refine St.seq ?_
                  refine St.region ?_
                  refine St.p rfl rfl ?_
                  refine St.done ?_
                  refine St.thenN ?_
                  refine St.prune (Γ' := [(2, _)]) ⟨rfl, trivial⟩ (.d (.d (.d (.d (.d (.d .z)))))) ?_
                  refine St.ret ?_
                  repeat (first | refine St.thenR ?_ | refine St.blkR ?_)
                  injection h2 with h2
                  subst h2
                  have ho := hd2 _ rfl
                  subst ho
                  have h1 : some _ = some _ := h1
                  injection h1 with h1
                  subst h1
                  have ho := hd1 _ rfl
                  subst ho
                  have h : some _ = some _ := h
                  injection h with h
                  subst h
                  exact St.finR Try.results5 (.tmp rfl .nil) rfl [] ⟨rfl, rfl⟩ (fun _ w => (.z : Keep _ _).sat w)
                · replace h2 := bif_f hb6 h2
                  refine St.skip ?_
                  refine St.blkN ?_
                  refine St.thenN ?_
                  refine St.prune (Γ' := [(3, _), (4, _), (5, _), (6, _), (7, _), (42, _), (43, _), (44, _)]) ⟨rfl, rfl, rfl, rfl, rfl, rfl, rfl, rfl, trivial⟩ (.k (.k (.k (.k (.k (.k .z)))))) ?_
                  refine St.region ?_
                  refine St.p rfl rfl ?_
                  refine St.p rfl rfl ?_
                  refine St.done ?_
                  injection h2 with h2
                  subst h2
                  refine St.thenN ?_
                  exact St.again _ () hm2 trivial ⟨rfl, rfl, rfl, rfl, rfl, rfl, rfl, rfl, trivial⟩ (fun _ w => ((.k (.k (.k (.k (.k (.k .z)))))) : Keep _ _).sat w)
              · replace h2 := bif_f hb5 h2
                refine St.exit ?_
                repeat (first | refine St.thenX ?_ | refine St.blkMiss rfl ?_)
                refine St.blkHit ?_
                injection h2 with h2
                subst h2
                have ho := hd2 _ rfl
                subst ho
                refine St.thenN ?_
                exact St.hereI () () rfl ⟨rfl, rfl, rfl, rfl, trivial⟩ (fun _ w => ((.d (.k (.k (.k (.k (.k .z)))))) : Keep _ _).sat w)
            · rintro o5 e5 ho
              subst ho
              have h1 : _ = some _ := h1
              refine St.blkN ?_
              refine St.thenN ?_
              refine St.region ?_
              iterate 3 refine St.p rfl rfl ?_
              refine St.done ?_
              injection h1 with h1
              subst h1
              refine St.thenN ?_
              exact St.again _ () hm1 trivial ⟨rfl, rfl, rfl, rfl, trivial⟩ (fun _ w => ((.k (.k (.k (.k (.k .z))))) : Keep _ _).sat w)
        · replace h1 := bif_f hb3 h1
          refine St.exit ?_
          repeat (first | refine St.thenX ?_ | refine St.blkMiss rfl ?_)
          refine St.blkHit ?_
          injection h1 with h1
          subst h1
          have ho := hd1 _ rfl
          subst ho
          refine St.thenN ?_
          exact St.hereI () () rfl ⟨rfl, trivial⟩ (fun _ w => ((.d (.k (.k (.k (.k .z))))) : Keep _ _).sat w)
    · rintro o2 e2 ho
      subst ho
      have h : _ = some _ := h
      refine St.seq ?_
      refine St.region ?_
      refine St.p rfl rfl ?_
      refine St.store 2 rfl rfl rfl rfl rfl rfl .z rfl ?_
      refine St.done ?_
      refine St.thenN ?_
      refine St.prune (Γ' := [(3, _)]) ⟨rfl, trivial⟩ (.k (.k (.k (.d .z)))) ?_
      refine St.seq ?_
      refine St.region ?_
      refine St.loadB 0 rfl rfl (.head _) rfl rfl ?_
      refine St.asrt (fun _ w => w.nilSl (cod e_Need)) ?_
      obtain ⟨r7, hr7, h⟩ := bnd_e h
      refine St.call (c_activation_Order hr7) ent11 rfl rfl rfl (fun _ w => Sat.dup (G := [.ro (SlL e_Installed A4 c4 r3.2.Now), .ro (SlL e_Installed A5 c5 r3.2.Next), .ro (SlL e_Need none 0 ([] : List T_Need))]) rfl ⟨(.tail _ (.tail _ (.head _))), (.tail _ (.tail _ (.tail _ (.head _)))), (.head _), trivial⟩ w) ?_
      rintro _ _ ⟨A10, c10, rfl, rfl⟩
      refine St.asrt (F' := .res (OwnL ei64 3 A10 c10 r7.1) :: .ro (SlL e_Need none 0 ([] : List T_Need)) :: .res (Box g2 29 [.slice A4 r3.2.Now.length c4, .slice A5 r3.2.Next.length c5, .slice none 0 0]) :: .ro (SlL e_Installed A4 c4 r3.2.Now) :: .ro (SlL e_Installed A5 c5 r3.2.Next) :: R) (fun _ w => w) ?_
      iterate 5 refine St.p rfl rfl ?_
      refine St.done ?_
      refine St.thenN ?_
      refine St.prune (Γ' := [(3, _), (4, _), (5, _)]) ⟨rfl, rfl, rfl, trivial⟩ (.k (.d (.k (.k (.k .z))))) ?_
      refine St.seq ?_
      obtain ⟨o6, hj2, h⟩ := bnd_e h
      refine St.cutE (fun (e6 : Unit) => [(2, .bool o6)]) (fun e6 => R) ?_ ?_
      · refine St.region ?_
        iterate 3 refine St.p rfl rfl ?_
        refine St.gSplit (dj := 61) _ rfl (fun hb7 => ?_) (fun hb7 => ?_)
        · replace hj2 := bif_t hb7 hj2
          refine St.gOn (dj := 61) rfl rfl ?_
          refine St.p rfl rfl ?_
          refine St.gOn (dj := 61) rfl rfl ?_
          refine St.loadB 0 rfl rfl (.tail _ (.head _)) rfl rfl ?_
          refine St.gOn (dj := 61) rfl rfl ?_
          refine St.asrt (fun _ w => w.nilSl (cod e_Need)) ?_
          obtain ⟨r8, hr8, hj2⟩ := bnd_e hj2
          refine St.call (c_activation_Steps hr8) ent19 rfl rfl rfl (fun _ w => Sat.dup (G := [.ro (SlL e_Installed A4 c4 r3.2.Now), .ro (SlL e_Installed A5 c5 r3.2.Next), .ro (SlL e_Need none 0 ([] : List T_Need))]) rfl ⟨(.tail _ (.tail _ (.tail _ (.head _)))), (.tail _ (.tail _ (.tail _ (.tail _ (.head _))))), (.head _), trivial⟩ w) ?_
          rintro _ _ ⟨A11, c11, rfl, rfl⟩
          refine St.asrt (F' := .res (OwnL ei64 3 A11 c11 r8) :: .ro (SlL e_Need none 0 ([] : List T_Need)) :: .res (OwnL ei64 3 A10 c10 r7.1) :: .res (Box g2 29 [.slice A4 r3.2.Now.length c4, .slice A5 r3.2.Next.length c5, .slice none 0 0]) :: .ro (SlL e_Installed A4 c4 r3.2.Now) :: .ro (SlL e_Installed A5 c5 r3.2.Next) :: R) (fun _ w => w) ?_
          refine St.gOn (dj := 61) rfl rfl ?_
          refine St.asrt (fun _ w => (w.front (.s (.s .z))).meltL) ?_
          refine St.asrt (fun _ w => (w.front (.s .z)).meltL) ?_
          obtain ⟨r9, hr9, hj2⟩ := bnd_e hj2
          refine St.callV (c_law31_ints hr9) ent18 rfl rfl rfl rfl ⟨(.tail _ (.head _)), (.head _), trivial⟩ ?_
          refine St.p rfl rfl ?_
          refine St.p rfl rfl ?_
          refine St.done ?_
          injection hj2 with hj2
          subst hj2
          refine St.thenN ?_
          exact St.hereE () ⟨rfl, trivial⟩ (fun _ w => ((.d (.d (.d (.d (.d (.d .z)))))) : Keep _ _).sat w)
        · replace hj2 := bif_f hb7 hj2
          refine St.gOff (dj := 61) rfl rfl rfl rfl ?_
          refine St.gOff (dj := 61) rfl rfl rfl rfl ?_
          refine St.gOff (dj := 61) rfl rfl rfl rfl ?_
          refine St.gOff (dj := 61) rfl rfl rfl rfl ?_
          refine St.p rfl rfl ?_
          refine St.p rfl rfl ?_
          refine St.done ?_
          injection hj2 with hj2
          subst hj2
          refine St.thenN ?_
          exact St.hereE () ⟨rfl, trivial⟩ (fun _ w => ((.d (.d (.d (.d .z)))) : Keep _ _).sat w)
      · rintro e6
        refine St.ret ?_
        repeat (first | refine St.thenR ?_ | refine St.blkR ?_)
        injection h with h
        subst h
        exact St.finR Try.results5 (.tmp rfl .nil) rfl [] ⟨rfl, rfl⟩ (fun _ w => (.z : Keep _ _).sat w)

end Go.Proofs.Yteaoblglgcpdnaa
