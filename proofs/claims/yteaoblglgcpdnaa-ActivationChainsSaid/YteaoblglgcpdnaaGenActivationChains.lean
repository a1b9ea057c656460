/-
  Models of functions of the program, and that the functions compute them.
  Conditions: none.
-/
import Derived.Test.YteaoblglgcpdnaaGen
namespace Go.Proofs.Yteaoblglgcpdnaa
open Go
set_option linter.unusedVariables false
set_option maxRecDepth 4000

theorem ent3 : Ent Try.prog 3 := ⟨_, Try.func3, by kernel_rfl, by kernel_rfl⟩

noncomputable def m_law31_ActivationChains (n_p0 : Int) (ring : Bool) : Option Bool :=
  bnd (m_law31_awake) fun r1 => bif !r1 then (some false) else (bnd (sub ([⟨#[97]⟩, ⟨#[98]⟩, ⟨#[99]⟩, ⟨#[100]⟩, ⟨#[101]⟩, ⟨#[102]⟩, ⟨#[103]⟩, ⟨#[104]⟩]) 0 (IntKind.wrap .i64 (2 + ((IntKind.wrap .i64 n_p0).tmod 7)))) fun l1 => bnd (loopM (τ := List T_Installed × List T_Installed × List T_Need) (fun (s1 : Int × List T_Installed × List T_Installed × List T_Need) => bif decide (s1.1 < (l1.length : Int)) then (bnd (elt l1 s1.1) fun x1 => bnd (app 40 s1.2.1 [(⟨x1, (⟨1, 0, 0⟩ : T_Version)⟩ : T_Installed)]) fun l2 => bnd (app 40 s1.2.2.1 [(⟨x1, (⟨2, 0, 0⟩ : T_Version)⟩ : T_Installed)]) fun l3 => bnd ((bif decide ((IntKind.wrap .i64 (s1.1 + 1)) < (l1.length : Int)) then (some true) else (some ring) : Option Bool)) fun o2 => bif o2 then (bnd (remM (IntKind.wrap .i64 (s1.1 + 1)) (l1.length : Int)) fun q1 => bnd (elt l1 q1) fun x2 => bnd (app 80 s1.2.2.2 [(⟨x1, (⟨2, 0, 0⟩ : T_Version), x2, (⟨2, 0, 0⟩ : T_Version)⟩ : T_Need)]) fun l4 => some (.next (IntKind.wrap .i64 (s1.1 + 1), l2, l3, l4))) else (some (.next (IntKind.wrap .i64 (s1.1 + 1), l2, l3, s1.2.2.2)))) else (some (.done (s1.2.1, s1.2.2.1, s1.2.2.2)))) (0, [], [], [])) fun o1 => bnd (m_activation_Order (⟨o1.1, o1.2.1, o1.2.2⟩ : T_Plan)) fun r2 => bif ring then (bnd ((bif (r2.2 == 41) then (bnd (m_activation_Stuck (⟨o1.1, o1.2.1, o1.2.2⟩ : T_Plan) ([0])) fun r3 => some r3) else (some false) : Option Bool)) fun o3 => some o3) else (bnd (loopM (τ := Bool ⊕ Unit) (fun (s2 : Int) => bif decide (s2 < (r2.1.length : Int)) then (bnd (elt r2.1 s2) fun x3 => bif (x3 != (IntKind.wrap .i64 ((IntKind.wrap .i64 ((l1.length : Int) - 1)) - s2))) then (some (.done (.inl false))) else (some (.next (IntKind.wrap .i64 (s2 + 1))))) else (some (.done (.inr ())))) 0) fun o4 => retOr o4 fun o5 => bnd ((bif (r2.2 == 0) then (some ((r2.1.length : Int) == (l1.length : Int))) else (some false) : Option Bool)) fun o6 => some o6))

set_option maxHeartbeats 4000000 in
theorem c_law31_ActivationChains {n_p0 : Int} {ring : Bool} {r : Bool} (h : m_law31_ActivationChains n_p0 ring = some r) :
    Fun Try.prog 3 [.int .u8 n_p0, .bool ring] [] (Val (.bool r)) := by
  unfold m_law31_ActivationChains at h
  refine Fun.intro Try.func3 rfl rfl rfl fun w R => ?_
  refine St.seq ?_
  refine St.region ?_
  refine St.p rfl rfl ?_
  refine St.done ?_
  refine St.thenN ?_
  refine St.prune (Γ' := [(0, _), (1, _)]) ⟨rfl, rfl, trivial⟩ .z ?_
  refine St.seq ?_
  refine St.seq ?_
  refine St.region ?_
  obtain ⟨r1, hr1, h⟩ := bnd_e h
  refine St.callV (c_law31_awake hr1) ent10 rfl rfl rfl rfl trivial ?_
  refine St.p rfl rfl ?_
  refine St.done ?_
  refine St.thenN ?_
  refine St.prune (Γ' := [(0, _), (1, _), (15, _)]) ⟨rfl, rfl, rfl, trivial⟩ .z ?_
  refine St.cond _ rfl (fun hb1 => ?_) (fun hb1 => ?_)
  · replace h := bif_t hb1 h
    refine St.seq ?_
    refine St.region ?_
    refine St.p rfl rfl ?_
    refine St.done ?_
    refine St.thenN ?_
    refine St.prune (Γ' := [(4, _)]) ⟨rfl, trivial⟩ .z ?_
    refine St.ret ?_
    repeat (first | refine St.thenR ?_ | refine St.blkR ?_)
    injection h with h
    subst h
    exact St.finR Try.results3 (.tmp rfl .nil) rfl [] ⟨rfl, rfl⟩ (fun _ w => (.z : Keep _ _).sat w)
  · replace h := bif_f hb1 h
    refine St.skip ?_
    refine St.thenN ?_
    refine St.prune (Γ' := [(0, _), (1, _)]) ⟨rfl, rfl, trivial⟩ .z ?_
    refine St.seq ?_
    refine St.region ?_
    refine St.buildSlice rfl rfl rfl rfl rfl rfl rfl rfl fun g1 => ?_
    iterate 4 refine St.p rfl rfl ?_
    refine St.asrt (fun _ w => (w.front .z).litL (E := estr) (e := 9) [⟨#[97]⟩, ⟨#[98]⟩, ⟨#[99]⟩, ⟨#[100]⟩, ⟨#[101]⟩, ⟨#[102]⟩, ⟨#[103]⟩, ⟨#[104]⟩] rfl rfl) ?_
    refine St.asrt (fun _ w => (w.front .z).meltL) ?_
    obtain ⟨l1, hl1, h⟩ := bnd_e h
    refine St.sub (E := (cod estr)) rfl rfl (.head _) rfl rfl rfl rfl rfl rfl rfl hl1 fun A1 c1 => ?_
    refine St.p rfl rfl ?_
    refine St.done ?_
    refine St.thenN ?_
    refine St.prune (Γ' := [(1, _), (5, _)]) ⟨rfl, rfl, trivial⟩ (.k (.d .z)) ?_
    refine St.seq ?_
    refine St.region ?_
    refine St.p rfl rfl ?_
    refine St.p rfl rfl ?_
    refine St.alloc rfl rfl fun g2 => ?_
    refine St.alloc rfl rfl fun g3 => ?_
    refine St.store 0 rfl rfl rfl rfl rfl rfl (.s .z) rfl ?_
    refine St.store 0 rfl rfl rfl rfl rfl rfl (.s .z) rfl ?_
    refine St.done ?_
    refine St.thenN ?_
    refine St.prune (Γ' := [(1, _), (5, _), (6, _), (7, _)]) ⟨rfl, rfl, rfl, rfl, trivial⟩ (.k (.k (.k .z))) ?_
    refine St.seq ?_
    refine St.region ?_
    refine St.alloc rfl rfl fun g4 => ?_
    refine St.done ?_
    refine St.thenN ?_
    refine St.seq ?_
    refine St.seq ?_
    refine St.region ?_
    iterate 3 refine St.p rfl rfl ?_
    refine St.done ?_
    refine St.thenN ?_
    refine St.asrt (fun _ w => w.nilL e_Installed 31) ?_
    refine St.asrt (fun _ w => w.nilL e_Installed 31) ?_
    refine St.asrt (fun _ w => w.nilL e_Need 33) ?_
    obtain ⟨o1, hl1, h⟩ := bnd_e h
    refine St.cutE (fun (e2 : Option Addr × Nat × Option Addr × Nat × Option Addr × Nat) => [(1, .bool ring), (5, .slice A1 l1.length c1), (8, .pointer (some ⟨g4, 0, none⟩))]) (fun e2 => .res (OwnL e_Need 33 e2.2.2.2.2.1 e2.2.2.2.2.2 o1.2.2) :: .res (OwnL e_Installed 31 e2.2.2.1 e2.2.2.2.1 o1.2.1) :: .res (OwnL e_Installed 31 e2.1 e2.2.1 o1.1) :: .res (Box g4 29 [.slice e2.1 o1.1.length e2.2.1, .slice e2.2.2.1 o1.2.1.length e2.2.2.2.1, .slice e2.2.2.2.2.1 o1.2.2.length e2.2.2.2.2.2]) :: .ro (SlL estr A1 c1 l1) :: R) ?_ ?_
    · refine St.block ?_
      refine St.loop hl1 (fun (s1 : Int × List T_Installed × List T_Installed × List T_Need) (e1 : Option Addr × Nat × Option Addr × Nat × Option Addr × Nat) => [(1, .bool ring), (5, .slice A1 l1.length c1), (6, .pointer (some ⟨g2, 0, none⟩)), (7, .pointer (some ⟨g3, 0, none⟩)), (8, .pointer (some ⟨g4, 0, none⟩)), (24, .slice A1 l1.length c1), (25, .int .i64 (l1.length : Int)), (26, .int .i64 s1.1)]) (fun s1 e1 => .res (OwnL e_Need 33 e1.2.2.2.2.1 e1.2.2.2.2.2 s1.2.2.2) :: .res (OwnL e_Installed 31 e1.2.2.1 e1.2.2.2.1 s1.2.2.1) :: .res (OwnL e_Installed 31 e1.1 e1.2.1 s1.2.1) :: .res (Box g4 29 [.slice e1.1 s1.2.1.length e1.2.1, .slice e1.2.2.1 s1.2.2.1.length e1.2.2.2.1, .slice e1.2.2.2.2.1 s1.2.2.2.length e1.2.2.2.2.2]) :: .res (Box g3 25 [.int .i64 2, .int .i64 0, .int .i64 0]) :: .res (Box g2 25 [.int .i64 1, .int .i64 0, .int .i64 0]) :: .ro (SlL estr A1 c1 l1) :: R) (fun _ _ => True) (none, 0, none, 0, none, 0) trivial ⟨rfl, rfl, rfl, rfl, rfl, rfl, rfl, rfl, trivial⟩ (fun _ w => ((.k (.k (.k (.k (.k (.k (.k .z))))))) : Keep _ _).sat w) ?_
      rintro s1 ⟨A2, c2, A3, c3, A4, c4⟩ - hit1
      obtain ⟨st1, hm1, hd1⟩ := iter_e hit1
      have h1 := hm1
      refine St.seq ?_
      refine St.region ?_
      refine St.p rfl rfl ?_
      refine St.done ?_
      refine St.thenN ?_
      refine St.seq ?_
      refine St.cond _ rfl (fun hb2 => ?_) (fun hb2 => ?_)
      · replace h1 := bif_t hb2 h1
        refine St.skip ?_
        refine St.thenN ?_
        refine St.prune (Γ' := [(1, _), (5, _), (6, _), (7, _), (8, _), (24, _), (25, _), (26, _)]) ⟨rfl, rfl, rfl, rfl, rfl, rfl, rfl, rfl, trivial⟩ (.k (.k (.k (.k (.k (.k (.k .z))))))) ?_
        refine St.seq ?_
        refine St.block ?_
        refine St.seq ?_
        refine St.region ?_
        refine St.p rfl rfl ?_
        obtain ⟨x1, hx1, h1⟩ := bnd_e h1
        refine St.ixL hx1 rfl rfl rfl (.tail _ (.tail _ (.tail _ (.tail _ (.tail _ (.tail _ (.head _))))))) rfl rfl rfl rfl rfl fun b1 ob1 => ?_
        refine St.load ob1 0 rfl rfl (.head _) rfl rfl ?_
        refine St.p rfl rfl ?_
        refine St.p rfl rfl ?_
        refine St.done ?_
        refine St.thenN ?_
        refine St.prune (Γ' := [(1, _), (5, _), (6, _), (7, _), (8, _), (9, _), (10, _), (24, _), (25, _), (26, _)]) ⟨rfl, rfl, rfl, rfl, rfl, rfl, rfl, rfl, rfl, rfl, trivial⟩ (.d (.k (.k (.k (.k (.k (.k (.k .z)))))))) ?_
        refine St.seq ?_
        refine St.region ?_
        refine St.p rfl rfl ?_
        refine St.loadB 0 rfl rfl (.tail _ (.tail _ (.tail _ (.head _)))) rfl rfl ?_
        refine St.p rfl rfl ?_
        refine St.loadB 0 rfl rfl (.tail _ (.tail _ (.tail _ (.tail _ (.tail _ (.head _)))))) rfl rfl ?_
        refine St.p rfl rfl ?_
        refine St.buildSlice rfl rfl rfl rfl rfl rfl rfl rfl fun g5 => ?_
        obtain ⟨l2, hl2, h1⟩ := bnd_e h1
        refine St.app (E := e_Installed) hl2 rfl rfl rfl (.s (.s (.s .z))) rfl rfl rfl rfl rfl rfl rfl rfl (srcB (.head _) rfl rfl) rfl rfl fun A8 c8 => ?_
        refine St.p rfl rfl ?_
        refine St.store 0 rfl rfl rfl rfl rfl rfl (.s (.s (.s (.s .z)))) rfl ?_
        refine St.done ?_
        refine St.thenN ?_
        refine St.prune (Γ' := [(1, _), (5, _), (6, _), (7, _), (8, _), (9, _), (10, _), (24, _), (25, _), (26, _)]) ⟨rfl, rfl, rfl, rfl, rfl, rfl, rfl, rfl, rfl, rfl, trivial⟩ (.k (.k (.d (.k (.k (.k (.k (.k .z)))))))) ?_
        refine St.seq ?_
        refine St.region ?_
        refine St.p rfl rfl ?_
        refine St.loadB 1 rfl rfl (.head _) rfl rfl ?_
        refine St.p rfl rfl ?_
        refine St.loadB 0 rfl rfl (.tail _ (.tail _ (.tail _ (.tail _ (.head _))))) rfl rfl ?_
        refine St.p rfl rfl ?_
        refine St.buildSlice rfl rfl rfl rfl rfl rfl rfl rfl fun g6 => ?_
        obtain ⟨l3, hl3, h1⟩ := bnd_e h1
        refine St.app (E := e_Installed) hl3 rfl rfl rfl (.s (.s (.s (.s .z)))) rfl rfl rfl rfl rfl rfl rfl rfl (srcB (.head _) rfl rfl) rfl rfl fun A9 c9 => ?_
        refine St.p rfl rfl ?_
        refine St.store 1 rfl rfl rfl rfl rfl rfl (.s (.s .z)) rfl ?_
        refine St.done ?_
        refine St.thenN ?_
        refine St.prune (Γ' := [(1, _), (5, _), (6, _), (7, _), (8, _), (9, _), (10, _), (24, _), (25, _), (26, _)]) ⟨rfl, rfl, rfl, rfl, rfl, rfl, rfl, rfl, rfl, rfl, trivial⟩ (.k (.k (.d (.k (.k (.k (.k (.k .z)))))))) ?_
        refine St.seq ?_
        obtain ⟨o2, hj1, h1⟩ := bnd_e h1
        refine St.cutE (fun (e3 : Unit) => [(1, .bool ring), (5, .slice A1 l1.length c1), (6, .pointer (some ⟨g2, 0, none⟩)), (7, .pointer (some ⟨g3, 0, none⟩)), (8, .pointer (some ⟨g4, 0, none⟩)), (9, .int .i64 s1.1), (10, .string x1), (24, .slice A1 l1.length c1), (25, .int .i64 (l1.length : Int)), (26, .int .i64 s1.1), (54, .bool o2)]) (fun e3 => .res (Box g4 29 [.slice A8 l2.length c8, .slice A9 l3.length c9, .slice A4 s1.2.2.2.length c4]) :: .res (OwnL e_Installed 31 A9 c9 l3) :: .res (OwnL e_Installed 31 A8 c8 l2) :: .res (OwnL e_Need 33 A4 c4 s1.2.2.2) :: .res (Box g3 25 [.int .i64 2, .int .i64 0, .int .i64 0]) :: .res (Box g2 25 [.int .i64 1, .int .i64 0, .int .i64 0]) :: .ro (SlL estr A1 c1 l1) :: R) ?_ ?_
        · refine St.region ?_
          iterate 6 refine St.p rfl rfl ?_
          refine St.gSplit (dj := 52) _ rfl (fun hb3 => ?_) (fun hb3 => ?_)
          · replace hj1 := bif_t hb3 hj1
            refine St.gOff (dj := 52) rfl rfl rfl rfl ?_
            refine St.p rfl rfl ?_
            refine St.done ?_
            injection hj1 with hj1
            subst hj1
            refine St.thenN ?_
            exact St.hereE () ⟨rfl, rfl, rfl, rfl, rfl, rfl, rfl, rfl, rfl, rfl, rfl, trivial⟩ (fun _ w => ((.k (.k (.k (.k (.k (.k (.k .z))))))) : Keep _ _).sat w)
          · replace hj1 := bif_f hb3 hj1
            refine St.gOn (dj := 52) rfl rfl ?_
            refine St.p rfl rfl ?_
            refine St.p rfl rfl ?_
            refine St.done ?_
            injection hj1 with hj1
            subst hj1
            refine St.thenN ?_
            exact St.hereE () ⟨rfl, rfl, rfl, rfl, rfl, rfl, rfl, rfl, rfl, rfl, rfl, trivial⟩ (fun _ w => ((.k (.k (.k (.k (.k (.k (.k .z))))))) : Keep _ _).sat w)
        · rintro e3
          refine St.cond _ rfl (fun hb4 => ?_) (fun hb4 => ?_)
          · replace h1 := bif_t hb4 h1
            obtain ⟨q1, hq1, h1⟩ := bnd_e h1
            obtain ⟨x2, hx2, h1⟩ := bnd_e h1
            obtain ⟨l4, hl4, h1⟩ := bnd_e h1
            refine St.regionX (iL [(.fl, 0), (.fl, 2), (.fl, 3), (.fl, 4), (.fl, 5), (.fl, 6), (.fl, 7), (.fl, 8), (.fl, 9), (.fl, 10), (.fl, 11), (.fl, 12), (.fl, 13)] (.alt (iL [(.ef, 1)] (iL [(.ef, 14)] (iL [(.ef, 15), (.fl, 16)] (iL [(.ef, 17)] .nil)))) (iL [(.ef, 14)] (iL [(.ef, 1)] (iL [(.ef, 15), (.fl, 16)] (iL [(.ef, 17)] .nil)))))) (.res (OwnL e_Installed 31 A9 c9 l3) :: .res (OwnL e_Installed 31 A8 c8 l2) :: .res (Box g3 25 [.int .i64 2, .int .i64 0, .int .i64 0]) :: .res (Box g2 25 [.int .i64 1, .int .i64 0, .int .i64 0]) :: .ro (SlL estr A1 c1 l1) :: R) mixed (by kernel_rfl) (fun _ w => ((.d (.k (.k (.d (.k (.k (.k .z))))))) : Keep _ _).sat w) ?_
            refine St.share (Y := ?Ynd1_0) (fun (e : Nat × Nat × Nat) => [(1, .bool ring), (5, .slice A1 l1.length c1), (6, .pointer (some ⟨g2, 0, none⟩)), (7, .pointer (some ⟨g3, 0, none⟩)), (8, .pointer (some ⟨g4, 0, none⟩)), (9, .int .i64 s1.1), (10, .string x1), (24, .slice A1 l1.length c1), (25, .int .i64 (l1.length : Int)), (26, .int .i64 s1.1), (54, .bool o2), (55, .pointer (some ⟨g4, 2, none⟩)), (56, .slice A4 s1.2.2.2.length c4), (57, .string x1), (58, .agg #[.int .i64 2, .int .i64 0, .int .i64 0]), (59, .slice A1 l1.length c1), (60, .int .i64 s1.1), (61, .int .i64 (IntKind.wrap .i64 (s1.1 + 1))), (62, .slice A1 l1.length c1), (63, .int .i64 (l1.length : Int)), (64, .int .i64 q1), (65, .pointer (some ⟨e.1, e.2.1, none⟩)), (66, .string x2), (67, .agg #[.int .i64 2, .int .i64 0, .int .i64 0]), (68, .agg #[.string x1, .int .i64 2, .int .i64 0, .int .i64 0, .string x2, .int .i64 2, .int .i64 0, .int .i64 0]), (69, .slice (some ⟨e.2.2, 0, none⟩) 1 1)]) (fun e => .res (Box e.2.2 33 [.string x1, .int .i64 2, .int .i64 0, .int .i64 0, .string x2, .int .i64 2, .int .i64 0, .int .i64 0]) :: .ro (Cells e.1 e.2.1 [.string x2]) :: .res (Box g4 29 [.slice A8 l2.length c8, .slice A9 l3.length c9, .slice A4 s1.2.2.2.length c4]) :: .res (OwnL e_Installed 31 A9 c9 l3) :: .res (OwnL e_Installed 31 A8 c8 l2) :: .res (OwnL e_Need 33 A4 c4 s1.2.2.2) :: .res (Box g3 25 [.int .i64 2, .int .i64 0, .int .i64 0]) :: .res (Box g2 25 [.int .i64 1, .int .i64 0, .int .i64 0]) :: .ro (SlL estr A1 c1 l1) :: R) (fun hnd1_0 => ?mnd1_0) ?tnd1_0
            case mnd1_0 =>
              refine St.xfl (fun _ h => h) (Rd.p rfl) rfl ?_
              refine St.xfl (fun _ h => h) (Rd.p rfl) rfl ?_
              refine St.xfl (fun _ h => h) (Rd.loadB 0 rfl (.tail _ (.tail _ (.head _))) rfl rfl) rfl ?_
              refine St.xfl (fun _ h => h) (Rd.p rfl) rfl ?_
              refine St.xfl (fun _ h => h) (Rd.p rfl) rfl ?_
              refine St.xfl (fun _ h => h) (Rd.p rfl) rfl ?_
              refine St.xfl (fun _ h => h) (Rd.p rfl) rfl ?_
              refine St.xfl (fun _ h => h) (Rd.p rfl) rfl ?_
              refine St.xfl (fun _ h => h) (Rd.rem hq1 rfl rfl) rfl ?_
              refine St.openA (.tail _ (.tail _ (.tail _ (.tail _ (.tail _ (.tail _ (.head _))))))) hx2 fun b2 ob2 hqb2 => ?_
              refine St.asrt (fun _ w => Sat.addC hqb2 (.tail _ (.tail _ (.tail _ (.tail _ (.tail _ (.tail _ (.head _))))))) hx2 w) ?_
              have hc1 := fun w h => Sat.addC hqb2 (.tail _ (.tail _ (.tail _ (.tail _ (.head _))))) hx2 ((fun (w : World) (h : Sat (.res (OwnL e_Installed 31 A9 c9 l3) :: .res (OwnL e_Installed 31 A8 c8 l2) :: .res (Box g3 25 [.int .i64 2, .int .i64 0, .int .i64 0]) :: .res (Box g2 25 [.int .i64 1, .int .i64 0, .int .i64 0]) :: .ro (SlL estr A1 c1 l1) :: R) w) => h) w h)
              refine St.xfl (fun _ h => h) (Rd.ixL (E := estr) hqb2 hx2 rfl rfl rfl rfl rfl rfl rfl) rfl ?_
              refine St.xfl hc1 (Rd.load ob2 0 rfl (.head _) rfl rfl) rfl ?_
              refine St.xfl hc1 (Rd.loadB 0 rfl (.tail _ (.tail _ (.tail _ (.head _)))) rfl rfl) rfl ?_
              refine St.xfl (fun _ h => h) (Rd.p rfl) rfl ?_
              refine St.xalt ?_ ?_
              · refine St.xef ?_
                refine St.loadB 2 rfl rfl (.tail _ (.head _)) rfl rfl ?_
                refine St.xk (fun _ w => ((.d (.d (.k (.k (.d (.k (.k (.k .z)))))))) : Keep _ _).sat w) ?_
                refine St.xef ?_
                refine St.buildSlice rfl rfl rfl rfl rfl rfl rfl rfl fun g7 => ?_
                refine St.xk (fun _ w => ((.d (.d (.d (.k (.k (.d (.k (.k (.k .z))))))))) : Keep _ _).sat w) ?_
                refine hnd1_0 _ _ (b2, ob2, g7) ?_ ?_
                · exact ⟨rfl, rfl, rfl, rfl, rfl, rfl, rfl, rfl, rfl, rfl, rfl, rfl, rfl, rfl, rfl, rfl, rfl, rfl, rfl, rfl, rfl, rfl, rfl, rfl, rfl, rfl, trivial⟩
                · exact fun _ w => ((.k (.k (.k (.k (.k (.k (.k (.k (.k .z))))))))) : Keep _ _).sat w
              · refine St.xef ?_
                refine St.buildSlice rfl rfl rfl rfl rfl rfl rfl rfl fun g7 => ?_
                refine St.xk (fun _ w => ((.d (.d (.d (.k (.k (.d (.k (.k (.k .z))))))))) : Keep _ _).sat w) ?_
                refine St.xef ?_
                refine St.loadB 2 rfl rfl (.tail _ (.tail _ (.head _))) rfl rfl ?_
                refine St.xk (fun _ w => ((.d (.d (.d (.k (.k (.d (.k (.k (.k .z))))))))) : Keep _ _).sat w) ?_
                refine hnd1_0 _ _ (b2, ob2, g7) ?_ ?_
                · exact ⟨rfl, rfl, rfl, rfl, rfl, rfl, rfl, rfl, rfl, rfl, rfl, rfl, rfl, rfl, rfl, rfl, rfl, rfl, rfl, rfl, rfl, rfl, rfl, rfl, rfl, rfl, trivial⟩
                · exact fun _ w => ((.k (.k (.k (.k (.k (.k (.k (.k (.k .z))))))))) : Keep _ _).sat w
            case tnd1_0 =>
              rintro ⟨b2, ob2, g7⟩
              refine St.asrt (F' := .res (Box g7 33 [.string x1, .int .i64 2, .int .i64 0, .int .i64 0, .string x2, .int .i64 2, .int .i64 0, .int .i64 0]) :: .ro (Cells b2 ob2 [.string x2]) :: .res (Box g4 29 [.slice A8 l2.length c8, .slice A9 l3.length c9, .slice A4 s1.2.2.2.length c4]) :: .res (OwnL e_Installed 31 A9 c9 l3) :: .res (OwnL e_Installed 31 A8 c8 l2) :: .res (OwnL e_Need 33 A4 c4 s1.2.2.2) :: .res (Box g3 25 [.int .i64 2, .int .i64 0, .int .i64 0]) :: .res (Box g2 25 [.int .i64 1, .int .i64 0, .int .i64 0]) :: .ro (SlL estr A1 c1 l1) :: R) (fun _ w => w) ?_
              refine St.xef ?_
              refine St.app (E := e_Need) hl4 rfl rfl rfl (.s (.s (.s (.s (.s .z))))) rfl rfl rfl rfl rfl rfl rfl rfl (srcB (.head _) rfl rfl) rfl rfl fun A10 c10 => ?_
              refine St.xk (fun _ w => ((.d (.d (.d (.d (.k (.k (.k (.k (.k .z))))))))) : Keep _ _).sat w) ?_
              refine St.xfl (fun _ h => h) (Rd.p rfl) rfl ?_
              refine St.xef ?_
              refine St.store 2 rfl rfl rfl rfl rfl rfl (.s (.s (.s .z))) rfl ?_
              refine St.xk (fun _ w => ((.d (.d (.d (.d (.k (.k (.k (.k (.k .z))))))))) : Keep _ _).sat w) ?_
              refine St.xdone ?_
              refine St.blkN ?_
              refine St.thenN ?_
              refine St.prune (Γ' := [(1, _), (5, _), (6, _), (7, _), (8, _), (24, _), (25, _), (26, _)]) ⟨rfl, rfl, rfl, rfl, rfl, rfl, rfl, rfl, trivial⟩ (.k (.k (.d (.d (.k (.k (.k (.k (.k .z))))))))) ?_
              refine St.region ?_
              refine St.p rfl rfl ?_
              refine St.p rfl rfl ?_
              refine St.done ?_
              injection h1 with h1
              subst h1
              refine St.thenN ?_
              exact St.again _ (A8, c8, A9, c9, A10, c10) hm1 trivial ⟨rfl, rfl, rfl, rfl, rfl, rfl, rfl, rfl, trivial⟩ (fun _ w => ((.k (.k (.k (.k (.k (.k (.k .z))))))) : Keep _ _).sat (((((((w.front (.s (.s (.s (.s (.s (.s .z))))))).front (.s (.s (.s (.s (.s (.s .z))))))).front (.s (.s (.s (.s (.s (.s .z))))))).front (.s (.s (.s .z)))).front (.s (.s (.s (.s (.s (.s .z))))))).front (.s (.s (.s (.s (.s (.s .z))))))).front (.s (.s (.s (.s (.s (.s .z))))))))
          · replace h1 := bif_f hb4 h1
            refine St.skip ?_
            refine St.blkN ?_
            refine St.thenN ?_
            refine St.prune (Γ' := [(1, _), (5, _), (6, _), (7, _), (8, _), (24, _), (25, _), (26, _)]) ⟨rfl, rfl, rfl, rfl, rfl, rfl, rfl, rfl, trivial⟩ (.k (.k (.k (.k (.k (.k (.k .z))))))) ?_
            refine St.region ?_
            refine St.p rfl rfl ?_
            refine St.p rfl rfl ?_
            refine St.done ?_
            injection h1 with h1
            subst h1
            refine St.thenN ?_
            exact St.again _ (A8, c8, A9, c9, A4, c4) hm1 trivial ⟨rfl, rfl, rfl, rfl, rfl, rfl, rfl, rfl, trivial⟩ (fun _ w => ((.k (.k (.k (.k (.k (.k (.k .z))))))) : Keep _ _).sat (((((((w.front (.s (.s (.s (.s (.s (.s .z))))))).front (.s (.s (.s (.s (.s (.s .z))))))).front (.s (.s (.s (.s (.s (.s .z))))))).front (.s (.s (.s .z)))).front (.s (.s (.s (.s (.s .z)))))).front (.s (.s (.s (.s (.s .z)))))).front (.s (.s (.s (.s (.s (.s .z))))))))
      · replace h1 := bif_f hb2 h1
        refine St.exit ?_
        repeat (first | refine St.thenX ?_ | refine St.blkMiss rfl ?_)
        refine St.blkHit ?_
        injection h1 with h1
        subst h1
        have ho := hd1 _ rfl
        subst ho
        refine St.thenN ?_
        exact St.hereE (A2, c2, A3, c3, A4, c4) ⟨rfl, rfl, rfl, trivial⟩ (fun _ w => ((.k (.k (.k (.k (.d (.d (.k .z))))))) : Keep _ _).sat w)
    · rintro ⟨A5, c5, A6, c6, A7, c7⟩
      refine St.seq ?_
      refine St.region ?_
      refine St.loadB 0 rfl rfl (.tail _ (.tail _ (.tail _ (.head _)))) rfl rfl ?_
      refine St.asrt (fun _ w => (w.front (.s (.s .z))).meltL) ?_
      refine St.asrt (fun _ w => (w.front (.s (.s .z))).meltL) ?_
      refine St.asrt (fun _ w => (w.front (.s (.s .z))).meltL) ?_
      obtain ⟨r2, hr2, h⟩ := bnd_e h
      refine St.call (c_activation_Order hr2) ent11 rfl rfl rfl (fun _ w => Sat.dup (G := [.ro (SlL e_Installed A5 c5 o1.1), .ro (SlL e_Installed A6 c6 o1.2.1), .ro (SlL e_Need A7 c7 o1.2.2)]) rfl ⟨(.tail _ (.tail _ (.head _))), (.tail _ (.head _)), (.head _), trivial⟩ w) ?_
      rintro _ _ ⟨A11, c11, rfl, rfl⟩
      refine St.asrt (F' := .res (OwnL ei64 3 A11 c11 r2.1) :: .ro (SlL e_Need A7 c7 o1.2.2) :: .ro (SlL e_Installed A6 c6 o1.2.1) :: .ro (SlL e_Installed A5 c5 o1.1) :: .res (Box g4 29 [.slice A5 o1.1.length c5, .slice A6 o1.2.1.length c6, .slice A7 o1.2.2.length c7]) :: .ro (SlL estr A1 c1 l1) :: R) (fun _ w => w) ?_
      iterate 5 refine St.p rfl rfl ?_
      refine St.done ?_
      refine St.thenN ?_
      refine St.prune (Γ' := [(1, _), (5, _), (8, _), (11, _), (12, _)]) ⟨rfl, rfl, rfl, rfl, rfl, trivial⟩ (.k (.k (.k (.k (.k (.k .z)))))) ?_
      refine St.seq ?_
      refine St.seq ?_
      refine St.region ?_
      refine St.p rfl rfl ?_
      refine St.done ?_
      refine St.thenN ?_
      refine St.prune (Γ' := [(5, _), (8, _), (11, _), (12, _), (78, _)]) ⟨rfl, rfl, rfl, rfl, rfl, trivial⟩ (.k (.k (.k (.k (.k (.k .z)))))) ?_
      refine St.cond _ rfl (fun hb5 => ?_) (fun hb5 => ?_)
      · replace h := bif_t hb5 h
        refine St.seq ?_
        obtain ⟨o3, hj2, h⟩ := bnd_e h
        refine St.cutE (fun (e4 : Unit) => [(4, .bool o3)]) (fun e4 => R) ?_ ?_
        · refine St.region ?_
          iterate 3 refine St.p rfl rfl ?_
          refine St.gSplit (dj := 81) _ rfl (fun hb6 => ?_) (fun hb6 => ?_)
          · replace hj2 := bif_t hb6 hj2
            refine St.gOn (dj := 81) rfl rfl ?_
            refine St.loadB 0 rfl rfl (.tail _ (.tail _ (.tail _ (.tail _ (.head _))))) rfl rfl ?_
            refine St.gOn (dj := 81) rfl rfl ?_
            refine St.buildSlice rfl rfl rfl rfl rfl rfl rfl rfl fun g8 => ?_
            refine St.gOn (dj := 81) rfl rfl ?_
            refine St.asrt (fun _ w => (w.front .z).litL (E := ei64) (e := 3) [0] rfl rfl) ?_
            refine St.asrt (fun _ w => (w.front .z).meltL) ?_
            obtain ⟨r3, hr3, hj2⟩ := bnd_e hj2
            refine St.callV (c_activation_Stuck hr3) ent12 rfl rfl rfl rfl ⟨(.tail _ (.tail _ (.tail _ (.tail _ (.head _))))), (.tail _ (.tail _ (.tail _ (.head _)))), (.tail _ (.tail _ (.head _))), (.head _), trivial⟩ ?_
            refine St.p rfl rfl ?_
            refine St.p rfl rfl ?_
            refine St.done ?_
            injection hj2 with hj2
            subst hj2
            refine St.thenN ?_
            exact St.hereE () ⟨rfl, trivial⟩ (fun _ w => ((.d (.d (.d (.d (.d (.d (.d .z))))))) : Keep _ _).sat w)
          · replace hj2 := bif_f hb6 hj2
            refine St.gOff (dj := 81) rfl rfl rfl rfl ?_
            refine St.gOff (dj := 81) rfl rfl rfl rfl ?_
            refine St.gOff (dj := 81) rfl rfl rfl rfl ?_
            refine St.p rfl rfl ?_
            refine St.p rfl rfl ?_
            refine St.done ?_
            injection hj2 with hj2
            subst hj2
            refine St.thenN ?_
            exact St.hereE () ⟨rfl, trivial⟩ (fun _ w => ((.d (.d (.d (.d (.d (.d .z)))))) : Keep _ _).sat w)
        · rintro e4
          refine St.ret ?_
          repeat (first | refine St.thenR ?_ | refine St.blkR ?_)
          injection h with h
          subst h
          exact St.finR Try.results3 (.tmp rfl .nil) rfl [] ⟨rfl, rfl⟩ (fun _ w => (.z : Keep _ _).sat w)
      · replace h := bif_f hb5 h
        refine St.skip ?_
        refine St.thenN ?_
        refine St.prune (Γ' := [(5, _), (11, _), (12, _)]) ⟨rfl, rfl, rfl, trivial⟩ (.k (.d (.d (.d (.d (.k .z)))))) ?_
        refine St.seq ?_
        refine St.seq ?_
        refine St.region ?_
        iterate 3 refine St.p rfl rfl ?_
        refine St.done ?_
        refine St.thenN ?_
        refine St.prune (Γ' := [(5, _), (11, _), (12, _), (87, _), (88, _)]) ⟨rfl, rfl, rfl, rfl, rfl, trivial⟩ (.k (.k .z)) ?_
        obtain ⟨o4, hl2, h⟩ := bnd_e h
        refine St.cutI (fun (o5 : Unit) (e6 : Unit) => [(5, .slice A1 l1.length c1), (11, .slice A11 r2.1.length c11), (12, .int .i64 r2.2)]) (fun o5 e6 => .res (OwnL ei64 3 A11 c11 r2.1) :: .ro (SlL estr A1 c1 l1) :: R) (fun o5 => o4 = .inr o5) ?_ ?_
        · refine St.block ?_
          refine St.loop hl2 (fun (s2 : Int) (e5 : Unit) => [(5, .slice A1 l1.length c1), (11, .slice A11 r2.1.length c11), (12, .int .i64 r2.2), (87, .int .i64 (r2.1.length : Int)), (88, .int .i64 s2)]) (fun s2 e5 => .res (OwnL ei64 3 A11 c11 r2.1) :: .ro (SlL estr A1 c1 l1) :: R) (fun _ _ => True) () trivial ⟨rfl, rfl, rfl, rfl, rfl, trivial⟩ (fun _ w => ((.k (.k .z)) : Keep _ _).sat w) ?_
          rintro s2 e5 - hit2
          obtain ⟨st2, hm2, hd2⟩ := iter_e hit2
          have h2 := hm2
          refine St.seq ?_
          refine St.region ?_
          refine St.p rfl rfl ?_
          refine St.done ?_
          refine St.thenN ?_
          refine St.seq ?_
          refine St.cond _ rfl (fun hb7 => ?_) (fun hb7 => ?_)
          · replace h2 := bif_t hb7 h2
            refine St.skip ?_
            refine St.thenN ?_
            refine St.prune (Γ' := [(5, _), (11, _), (12, _), (87, _), (88, _)]) ⟨rfl, rfl, rfl, rfl, rfl, trivial⟩ (.k (.k .z)) ?_
            refine St.seq ?_
            refine St.block ?_
            refine St.seq ?_
            refine St.region ?_
            refine St.p rfl rfl ?_
            refine St.p rfl rfl ?_
            refine St.done ?_
            refine St.thenN ?_
            refine St.prune (Γ' := [(5, _), (11, _), (12, _), (13, _), (87, _), (88, _)]) ⟨rfl, rfl, rfl, rfl, rfl, rfl, trivial⟩ (.k (.k .z)) ?_
            refine St.seq ?_
            refine St.region ?_
            refine St.p rfl rfl ?_
            refine St.p rfl rfl ?_
            obtain ⟨x3, hx3, h2⟩ := bnd_e h2
            refine St.ixO hx3 rfl rfl rfl (.head _) rfl rfl rfl rfl rfl fun g9 hA => ?_
            subst hA
            refine St.ldO 0 hx3 rfl rfl (.head _) rfl rfl ?_
            iterate 6 refine St.p rfl rfl ?_
            refine St.done ?_
            refine St.thenN ?_
            refine St.prune (Γ' := [(5, _), (11, _), (12, _), (87, _), (88, _), (100, _)]) ⟨rfl, rfl, rfl, rfl, rfl, rfl, trivial⟩ (.k (.k .z)) ?_
            refine St.cond _ rfl (fun hb8 => ?_) (fun hb8 => ?_)
            · replace h2 := bif_t hb8 h2
              refine St.seq ?_
              refine St.region ?_
              refine St.p rfl rfl ?_
              refine St.done ?_
              refine St.thenN ?_
              refine St.prune (Γ' := [(4, _)]) ⟨rfl, trivial⟩ (.d (.d .z)) ?_
              refine St.ret ?_
              repeat (first | refine St.thenR ?_ | refine St.blkR ?_)
              injection h2 with h2
              subst h2
              have ho := hd2 _ rfl
              subst ho
              have h : some _ = some _ := h
              injection h with h
              subst h
              exact St.finR Try.results3 (.tmp rfl .nil) rfl [] ⟨rfl, rfl⟩ (fun _ w => (.z : Keep _ _).sat w)
            · replace h2 := bif_f hb8 h2
              refine St.skip ?_
              refine St.blkN ?_
              refine St.thenN ?_
              refine St.prune (Γ' := [(5, _), (11, _), (12, _), (87, _), (88, _)]) ⟨rfl, rfl, rfl, rfl, rfl, trivial⟩ (.k (.k .z)) ?_
              refine St.region ?_
              refine St.p rfl rfl ?_
              refine St.p rfl rfl ?_
              refine St.done ?_
              injection h2 with h2
              subst h2
              refine St.thenN ?_
              exact St.again _ () hm2 trivial ⟨rfl, rfl, rfl, rfl, rfl, trivial⟩ (fun _ w => ((.k (.k .z)) : Keep _ _).sat w)
          · replace h2 := bif_f hb7 h2
            refine St.exit ?_
            repeat (first | refine St.thenX ?_ | refine St.blkMiss rfl ?_)
            refine St.blkHit ?_
            injection h2 with h2
            subst h2
            have ho := hd2 _ rfl
            subst ho
            refine St.thenN ?_
            exact St.hereI () () rfl ⟨rfl, rfl, rfl, trivial⟩ (fun _ w => ((.k (.k .z)) : Keep _ _).sat w)
        · rintro o5 e6 ho
          subst ho
          have h : _ = some _ := h
          refine St.seq ?_
          obtain ⟨o6, hj3, h⟩ := bnd_e h
          refine St.cutE (fun (e7 : Unit) => [(4, .bool o6)]) (fun e7 => R) ?_ ?_
          · refine St.region ?_
            iterate 3 refine St.p rfl rfl ?_
            refine St.gSplit (dj := 104) _ rfl (fun hb9 => ?_) (fun hb9 => ?_)
            · replace hj3 := bif_t hb9 hj3
              refine St.gOn (dj := 104) rfl rfl ?_
              refine St.p rfl rfl ?_
              refine St.gOn (dj := 104) rfl rfl ?_
              refine St.p rfl rfl ?_
              refine St.gOn (dj := 104) rfl rfl ?_
              refine St.p rfl rfl ?_
              refine St.gOn (dj := 104) rfl rfl ?_
              refine St.p rfl rfl ?_
              refine St.gOn (dj := 104) rfl rfl ?_
              iterate 3 refine St.p rfl rfl ?_
              refine St.done ?_
              injection hj3 with hj3
              subst hj3
              refine St.thenN ?_
              exact St.hereE () ⟨rfl, trivial⟩ (fun _ w => ((.d (.d .z)) : Keep _ _).sat w)
            · replace hj3 := bif_f hb9 hj3
              refine St.gOff (dj := 104) rfl rfl rfl rfl ?_
              refine St.gOff (dj := 104) rfl rfl rfl rfl ?_
              refine St.gOff (dj := 104) rfl rfl rfl rfl ?_
              refine St.gOff (dj := 104) rfl rfl rfl rfl ?_
              refine St.gOff (dj := 104) rfl rfl rfl rfl ?_
              refine St.p rfl rfl ?_
              refine St.p rfl rfl ?_
              refine St.done ?_
              injection hj3 with hj3
              subst hj3
              refine St.thenN ?_
              exact St.hereE () ⟨rfl, trivial⟩ (fun _ w => ((.d (.d .z)) : Keep _ _).sat w)
          · rintro e7
            refine St.ret ?_
            repeat (first | refine St.thenR ?_ | refine St.blkR ?_)
            injection h with h
            subst h
            exact St.finR Try.results3 (.tmp rfl .nil) rfl [] ⟨rfl, rfl⟩ (fun _ w => (.z : Keep _ _).sat w)

end Go.Proofs.Yteaoblglgcpdnaa
