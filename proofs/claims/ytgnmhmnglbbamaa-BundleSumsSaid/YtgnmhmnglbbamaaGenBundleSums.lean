/-
  Models of functions of the program, and that the functions compute them.
  Conditions: none.
-/
import Derived.Test.YtgnmhmnglbbamaaGen
namespace Go.Proofs.Ytgnmhmnglbbamaa
open Go
set_option linter.unusedVariables false
set_option maxRecDepth 4000

theorem ent6 : Ent Try.prog 6 := ⟨_, Try.func6, by kernel_rfl, by kernel_rfl⟩

noncomputable def m_law28_BundleSums (name : Int) (data : (List Int)) (major : Int) : Option Bool :=
  bnd (m_law28_awake) fun r1 => bif !r1 then (some false) else (bnd ((bif decide ((data.length : Int) < 1) then (some true) else (some (decide ((data.length : Int) > 100))) : Option Bool)) fun o1 => bif o1 then (some true) else (bnd (elt ([⟨#[98, 105, 111, 115]⟩, ⟨#[109, 101]⟩, ⟨#[120, 45, 49]⟩]) (name.tmod 3)) fun x1 => bnd (m_bundle_Encode (⟨[(⟨x1, (⟨IntKind.wrap .i64 major, 0, 0⟩ : T_Version), data⟩ : T_Image)], []⟩ : T_Bundle)) fun r2 => bnd ((bif (r2.2 != 0) then (some true) else (some (decide ((r2.1.length : Int) < 14))) : Option Bool)) fun o2 => bif o2 then (some false) else (bnd (m_bundle_Sum (⟨x1, (⟨IntKind.wrap .i64 major, 0, 0⟩ : T_Version), data⟩ : T_Image)) fun r3 => bnd ((bnd (sub r2.1 5 (IntKind.wrap .i64 ((r2.1.length : Int) - 9))) fun l1 => bnd (m_checksum_CRC32 l1) fun r4 => bif (r4 == r3) then (bnd (sub r2.1 (IntKind.wrap .i64 ((r2.1.length : Int) - 9)) (IntKind.wrap .i64 ((IntKind.wrap .i64 ((r2.1.length : Int) - 9)) + 4))) fun l2 => bif ((strOf l2).toList == (strOf ([IntKind.wrap .u8 (iShr .u32 r3 24), IntKind.wrap .u8 (iShr .u32 r3 16), IntKind.wrap .u8 (iShr .u32 r3 8), IntKind.wrap .u8 r3])).toList) then (bnd (elt r2.1 (IntKind.wrap .i64 ((IntKind.wrap .i64 ((r2.1.length : Int) - 9)) + 4))) fun x2 => some (x2 == 0)) else (some false)) else (some false) : Option Bool)) fun o3 => some o3)))

set_option maxHeartbeats 4000000 in
theorem c_law28_BundleSums {name : Int} {data : (List Int)} {major : Int} {A1 : Option Addr} {c1 : Nat} {r : Bool} (h : m_law28_BundleSums name data major = some r) :
    Fun Try.prog 6 [.int .u8 name, .slice A1 data.length c1, .int .u8 major] [.ro (SlL eu8 A1 c1 data)] (Val (.bool r)) := by
  unfold m_law28_BundleSums at h
  refine Fun.intro Try.func6 rfl rfl rfl fun w R => ?_
  refine St.seq ?_
  refine St.region ?_
  refine St.p rfl rfl ?_
  refine St.done ?_
  refine St.thenN ?_
  refine St.prune (Γ' := [(0, _), (1, _), (2, _)]) ⟨rfl, rfl, rfl, trivial⟩ (.k .z) ?_
  refine St.seq ?_
  refine St.seq ?_
  refine St.region ?_
  obtain ⟨r1, hr1, h⟩ := bnd_e h
  refine St.callV (c_law28_awake hr1) ent7 rfl rfl rfl rfl trivial ?_
  refine St.p rfl rfl ?_
  refine St.done ?_
  refine St.thenN ?_
  refine St.prune (Γ' := [(0, _), (1, _), (2, _), (13, _)]) ⟨rfl, rfl, rfl, rfl, trivial⟩ (.k .z) ?_
  refine St.cond _ rfl (fun hb1 => ?_) (fun hb1 => ?_)
  · replace h := bif_t hb1 h
    refine St.seq ?_
    refine St.region ?_
    refine St.p rfl rfl ?_
    refine St.done ?_
    refine St.thenN ?_
    refine St.prune (Γ' := [(6, _)]) ⟨rfl, trivial⟩ (.d .z) ?_
    refine St.ret ?_
    repeat (first | refine St.thenR ?_ | refine St.blkR ?_)
    injection h with h
    subst h
    exact St.finR Try.results6 (.tmp rfl .nil) rfl [] ⟨rfl, rfl⟩ (fun _ w => (.z : Keep _ _).sat w)
  · replace h := bif_f hb1 h
    refine St.skip ?_
    refine St.thenN ?_
    refine St.prune (Γ' := [(0, _), (1, _), (2, _)]) ⟨rfl, rfl, rfl, trivial⟩ (.k .z) ?_
    refine St.seq ?_
    refine St.seq ?_
    obtain ⟨o1, hj1, h⟩ := bnd_e h
    refine St.cutE (fun (e1 : Unit) => [(0, .int .u8 name), (1, .slice A1 data.length c1), (2, .int .u8 major), (21, .bool o1)]) (fun e1 => .ro (SlL eu8 A1 c1 data) :: R) ?_ ?_
    · refine St.region ?_
      iterate 4 refine St.p rfl rfl ?_
      refine St.gSplit (dj := 17) _ rfl (fun hb2 => ?_) (fun hb2 => ?_)
      · replace hj1 := bif_t hb2 hj1
        refine St.gOff (dj := 17) rfl rfl rfl rfl ?_
        refine St.gOff (dj := 17) rfl rfl rfl rfl ?_
        refine St.gOff (dj := 17) rfl rfl rfl rfl ?_
        refine St.p rfl rfl ?_
        refine St.done ?_
        injection hj1 with hj1
        subst hj1
        refine St.thenN ?_
        exact St.hereE () ⟨rfl, rfl, rfl, rfl, trivial⟩ (fun _ w => ((.k .z) : Keep _ _).sat w)
      · replace hj1 := bif_f hb2 hj1
        refine St.gOn (dj := 17) rfl rfl ?_
        refine St.p rfl rfl ?_
        refine St.gOn (dj := 17) rfl rfl ?_
        refine St.p rfl rfl ?_
        refine St.gOn (dj := 17) rfl rfl ?_
        refine St.p rfl rfl ?_
        refine St.p rfl rfl ?_
        refine St.done ?_
        injection hj1 with hj1
        subst hj1
        refine St.thenN ?_
        exact St.hereE () ⟨rfl, rfl, rfl, rfl, trivial⟩ (fun _ w => ((.k .z) : Keep _ _).sat w)
    · rintro e1
      refine St.cond _ rfl (fun hb3 => ?_) (fun hb3 => ?_)
      · replace h := bif_t hb3 h
        refine St.seq ?_
        refine St.region ?_
        refine St.p rfl rfl ?_
        refine St.done ?_
        refine St.thenN ?_
        refine St.prune (Γ' := [(6, _)]) ⟨rfl, trivial⟩ (.d .z) ?_
        refine St.ret ?_
        repeat (first | refine St.thenR ?_ | refine St.blkR ?_)
        injection h with h
        subst h
        exact St.finR Try.results6 (.tmp rfl .nil) rfl [] ⟨rfl, rfl⟩ (fun _ w => (.z : Keep _ _).sat w)
      · replace h := bif_f hb3 h
        refine St.skip ?_
        refine St.thenN ?_
        refine St.prune (Γ' := [(0, _), (1, _), (2, _)]) ⟨rfl, rfl, rfl, trivial⟩ (.k .z) ?_
        refine St.seq ?_
        refine St.region ?_
        refine St.buildSlice rfl rfl rfl rfl rfl rfl rfl rfl fun g1 => ?_
        refine St.p rfl rfl ?_
        refine St.p rfl rfl ?_
        refine St.asrt (fun _ w => (w.front .z).litL (E := estr) (e := 9) [⟨#[98, 105, 111, 115]⟩, ⟨#[109, 101]⟩, ⟨#[120, 45, 49]⟩] rfl rfl) ?_
        obtain ⟨x1, hx1, h⟩ := bnd_e h
        refine St.ixO hx1 rfl rfl rfl (.head _) rfl rfl rfl rfl rfl fun g2 hA => ?_
        cases hA
        refine St.ldO 0 hx1 rfl rfl (.head _) rfl rfl ?_
        iterate 5 refine St.p rfl rfl ?_
        refine St.alloc rfl rfl fun g3 => ?_
        refine St.store 0 rfl rfl rfl rfl rfl rfl .z rfl ?_
        refine St.done ?_
        refine St.thenN ?_
        refine St.prune (Γ' := [(7, _)]) ⟨rfl, trivial⟩ (.k (.d (.k .z))) ?_
        refine St.seq ?_
        refine St.region ?_
        refine St.loadB 0 rfl rfl (.head _) rfl rfl ?_
        refine St.buildSlice rfl rfl rfl rfl rfl rfl rfl rfl fun g4 => ?_
        refine St.p rfl rfl ?_
        refine St.asrt (fun _ w => Sat.litC (ls := l_T_Image) (e := 41) [((⟨x1, (⟨IntKind.wrap .i64 major, 0, 0⟩ : T_Version), data⟩ : T_Image), ((A1, c1), ()))] rfl rfl rfl ⟨(.tail _ (.head _)), trivial⟩ (w.front .z)) ?_
        refine St.asrt (fun _ w => (w.front .z).meltC) ?_
        refine St.asrt (fun _ w => w.nilSl (cod e_Need)) ?_
        obtain ⟨r2, hr2, h⟩ := bnd_e h
        refine St.call (c_bundle_Encode hr2) ent11 rfl rfl rfl (fun _ w => Sat.dup (G := [.ro (Sl (codL l_T_Image) (some ⟨g4, 0, none⟩) ([(⟨x1, (⟨IntKind.wrap .i64 major, 0, 0⟩ : T_Version), data⟩ : T_Image)] : List T_Image).length ([(⟨x1, (⟨IntKind.wrap .i64 major, 0, 0⟩ : T_Version), data⟩ : T_Image)])), .ro (SlL e_Need none 0 ([] : List T_Need))]) rfl ⟨(.tail _ (.head _)), (.head _), trivial⟩ w) ?_
        rintro _ _ ⟨A2, c2, rfl, rfl⟩
        refine St.asrt (F' := .res (OwnL eu8 5 A2 c2 r2.1) :: .ro (SlL e_Need none 0 ([] : List T_Need)) :: .ro (Sl (codL l_T_Image) (some ⟨g4, 0, none⟩) ([(⟨x1, (⟨IntKind.wrap .i64 major, 0, 0⟩ : T_Version), data⟩ : T_Image)] : List T_Image).length ([(⟨x1, (⟨IntKind.wrap .i64 major, 0, 0⟩ : T_Version), data⟩ : T_Image)])) :: .res (Box g3 41 [.string x1, .int .i64 (IntKind.wrap .i64 major), .int .i64 0, .int .i64 0, .slice A1 data.length c1]) :: .ro (SlL eu8 A1 c1 data) :: R) (fun _ w => w) ?_
        iterate 5 refine St.p rfl rfl ?_
        refine St.done ?_
        refine St.thenN ?_
        refine St.prune (Γ' := [(7, _), (8, _), (9, _)]) ⟨rfl, rfl, rfl, trivial⟩ (.k (.d (.d (.k (.k .z))))) ?_
        refine St.seq ?_
        refine St.seq ?_
        obtain ⟨o2, hj2, h⟩ := bnd_e h
        refine St.cutE (fun (e2 : Unit) => [(7, .pointer (some ⟨g3, 0, none⟩)), (8, .slice A2 r2.1.length c2), (45, .bool o2)]) (fun e2 => .res (OwnL eu8 5 A2 c2 r2.1) :: .res (Box g3 41 [.string x1, .int .i64 (IntKind.wrap .i64 major), .int .i64 0, .int .i64 0, .slice A1 data.length c1]) :: .ro (SlL eu8 A1 c1 data) :: R) ?_ ?_
        · refine St.region ?_
          iterate 3 refine St.p rfl rfl ?_
          refine St.gSplit (dj := 41) _ rfl (fun hb4 => ?_) (fun hb4 => ?_)
          · replace hj2 := bif_t hb4 hj2
            refine St.gOff (dj := 41) rfl rfl rfl rfl ?_
            refine St.gOff (dj := 41) rfl rfl rfl rfl ?_
            refine St.gOff (dj := 41) rfl rfl rfl rfl ?_
            refine St.p rfl rfl ?_
            refine St.done ?_
            injection hj2 with hj2
            subst hj2
            refine St.thenN ?_
            exact St.hereE () ⟨rfl, rfl, rfl, trivial⟩ (fun _ w => ((.k (.k (.k .z))) : Keep _ _).sat w)
          · replace hj2 := bif_f hb4 hj2
            refine St.gOn (dj := 41) rfl rfl ?_
            refine St.p rfl rfl ?_
            refine St.gOn (dj := 41) rfl rfl ?_
            refine St.p rfl rfl ?_
            refine St.gOn (dj := 41) rfl rfl ?_
            refine St.p rfl rfl ?_
            refine St.p rfl rfl ?_
            refine St.done ?_
            injection hj2 with hj2
            subst hj2
            refine St.thenN ?_
            exact St.hereE () ⟨rfl, rfl, rfl, trivial⟩ (fun _ w => ((.k (.k (.k .z))) : Keep _ _).sat w)
        · rintro e2
          refine St.cond _ rfl (fun hb5 => ?_) (fun hb5 => ?_)
          · replace h := bif_t hb5 h
            refine St.seq ?_
            refine St.region ?_
            refine St.p rfl rfl ?_
            refine St.done ?_
            refine St.thenN ?_
            refine St.prune (Γ' := [(6, _)]) ⟨rfl, trivial⟩ (.d (.d (.d .z))) ?_
            refine St.ret ?_
            repeat (first | refine St.thenR ?_ | refine St.blkR ?_)
            injection h with h
            subst h
            exact St.finR Try.results6 (.tmp rfl .nil) rfl [] ⟨rfl, rfl⟩ (fun _ w => (.z : Keep _ _).sat w)
          · replace h := bif_f hb5 h
            refine St.skip ?_
            refine St.thenN ?_
            refine St.prune (Γ' := [(7, _), (8, _)]) ⟨rfl, rfl, trivial⟩ (.k (.k (.k .z))) ?_
            refine St.seq ?_
            refine St.region ?_
            refine St.loadB 0 rfl rfl (.tail _ (.head _)) rfl rfl ?_
            obtain ⟨r3, hr3, h⟩ := bnd_e h
            refine St.callV (c_bundle_Sum hr3) ent19 rfl rfl rfl rfl ⟨(.tail _ (.tail _ (.head _))), trivial⟩ ?_
            refine St.p rfl rfl ?_
            refine St.done ?_
            refine St.thenN ?_
            refine St.prune (Γ' := [(8, _), (10, _)]) ⟨rfl, rfl, trivial⟩ (.k (.d (.d .z))) ?_
            refine St.seq ?_
            refine St.region ?_
            iterate 4 refine St.p rfl rfl ?_
            refine St.done ?_
            refine St.thenN ?_
            refine St.prune (Γ' := [(8, _), (10, _), (11, _)]) ⟨rfl, rfl, rfl, trivial⟩ (.k .z) ?_
            refine St.seq ?_
            obtain ⟨o3, hj3, h⟩ := bnd_e h
            refine St.cutE (fun (e3 : Unit) => [(6, .bool o3)]) (fun e3 => R) ?_ ?_
            · refine St.asrt (fun _ w => (w.front .z).meltL) ?_
              refine St.regionX (iL [(.fl, 0), (.fl, 1), (.fx, 2), (.qc, 3), (.fl, 4), (.fl, 5), (.fl, 6), (.fl, 7), (.fl, 8), (.fl, 9), (.fl, 10), (.fl, 11), (.fl, 12), (.fl, 13), (.fl, 14), (.fl, 15), (.fl, 16), (.fl, 17), (.fl, 18), (.fl, 19), (.fl, 20), (.fl, 21), (.fl, 22), (.fl, 23), (.ef, 24), (.ef, 25), (.fl, 26), (.fl, 27), (.fl, 28), (.fl, 29), (.fl, 30), (.fl, 31), (.fx, 32), (.fx, 33), (.fl, 34), (.fl, 35), (.fl, 36)] .nil) (.ro (SlL eu8 A2 c2 r2.1) :: R) mixed (by kernel_rfl) (fun _ w => ((.k .z) : Keep _ _).sat w) ?_
              refine St.xfl (fun _ h => h) (Rd.p rfl) rfl ?_
              refine St.xfl (fun _ h => h) (Rd.p rfl) rfl ?_
              obtain ⟨l1, hl1, hj3⟩ := bnd_e hj3
              refine St.openS (.head _) hl1 fun A3 c3 hS1 => ?_
              have hc1 := fun w h => Sat.addS hS1 (.head _) hl1 ((fun (w : World) (h : Sat (.ro (SlL eu8 A2 c2 r2.1) :: R) w) => h) w h)
              refine St.xfx (Rd.sub hS1 hl1 (.tail _ (.head _)) rfl rfl rfl rfl rfl rfl rfl rfl) rfl ?_
              obtain ⟨r4, hr4, hj3⟩ := bnd_e hj3
              refine St.xqc hc1 (c_checksum_CRC32 hr4) ent25 rfl rfl rfl rfl ⟨(.head _), trivial⟩ ?_
              refine St.xfl (fun _ h => h) (Rd.p rfl) rfl ?_
              refine St.xfl (fun _ h => h) (Rd.p rfl) rfl ?_
              refine St.xfl (fun _ h => h) (Rd.p rfl) rfl ?_
              refine St.splitB (dj := 57) _ rfl (fun hb6 => ?_) (fun hb6 => ?_)
              · replace hj3 := bif_t hb6 hj3
                refine St.xgOn (dj := 57) rfl rfl ?_
                refine St.xfl (fun _ h => h) (Rd.p rfl) rfl ?_
                refine St.xgOn (dj := 57) rfl rfl ?_
                refine St.xfl (fun _ h => h) (Rd.p rfl) rfl ?_
                refine St.xgOn (dj := 57) rfl rfl ?_
                refine St.xfl (fun _ h => h) (Rd.p rfl) rfl ?_
                refine St.xgOn (dj := 57) rfl rfl ?_
                refine St.xfl (fun _ h => h) (Rd.p rfl) rfl ?_
                refine St.xgOn (dj := 57) rfl rfl ?_
                obtain ⟨l2, hl2, hj3⟩ := bnd_e hj3
                refine St.openS (.tail _ (.head _)) hl2 fun A4 c4 hS2 => ?_
                have hc2 := fun w h => Sat.addS hS2 (.tail _ (.head _)) hl2 (hc1 w h)
                refine St.xfl hc2 (Rd.sub hS2 hl2 (.tail _ (.tail _ (.head _))) rfl rfl rfl rfl rfl rfl rfl rfl) rfl ?_
                refine St.xgOn (dj := 57) rfl rfl ?_
                refine St.xfl hc2 (Rd.b2s (.head _) rfl rfl rfl rfl rfl rfl rfl rfl) rfl ?_
                refine St.xgOn (dj := 57) rfl rfl ?_
                refine St.xfl (fun _ h => h) (Rd.p rfl) rfl ?_
                refine St.xgOn (dj := 57) rfl rfl ?_
                refine St.xfl (fun _ h => h) (Rd.p rfl) rfl ?_
                refine St.xgOn (dj := 57) rfl rfl ?_
                refine St.xfl (fun _ h => h) (Rd.p rfl) rfl ?_
                refine St.xgOn (dj := 57) rfl rfl ?_
                refine St.xfl (fun _ h => h) (Rd.p rfl) rfl ?_
                refine St.xgOn (dj := 57) rfl rfl ?_
                refine St.xfl (fun _ h => h) (Rd.p rfl) rfl ?_
                refine St.xgOn (dj := 57) rfl rfl ?_
                refine St.xfl (fun _ h => h) (Rd.p rfl) rfl ?_
                refine St.xgOn (dj := 57) rfl rfl ?_
                refine St.xfl (fun _ h => h) (Rd.p rfl) rfl ?_
                refine St.xgOn (dj := 57) rfl rfl ?_
                refine St.xfl (fun _ h => h) (Rd.p rfl) rfl ?_
                refine St.xgOn (dj := 57) rfl rfl ?_
                refine St.xfl (fun _ h => h) (Rd.p rfl) rfl ?_
                refine St.xgOn (dj := 57) rfl rfl ?_
                refine St.xfl (fun _ h => h) (Rd.p rfl) rfl ?_
                refine St.xgOn (dj := 57) rfl rfl ?_
                refine St.xfl (fun _ h => h) (Rd.p rfl) rfl ?_
                refine St.xgOn (dj := 57) rfl rfl ?_
                refine St.xef ?_
                refine St.buildSlice rfl rfl rfl rfl rfl rfl rfl rfl fun g5 => ?_
                refine St.xk (fun _ w => ((.d (.d (.d (.k .z)))) : Keep _ _).sat w) ?_
                refine St.xgOn (dj := 57) rfl rfl ?_
                refine St.xef ?_
                refine St.asrt (fun _ w => (w.front .z).litL (E := eu8) (e := 5) [IntKind.wrap .u8 (iShr .u32 r3 24), IntKind.wrap .u8 (iShr .u32 r3 16), IntKind.wrap .u8 (iShr .u32 r3 8), IntKind.wrap .u8 r3] rfl rfl) ?_
                refine St.asrt (fun _ w => (w.front .z).meltL) ?_
                refine St.b2s rfl rfl rfl rfl rfl rfl rfl rfl rfl (srcL (E := eu8) (.head _)) ?_
                refine St.xk (fun _ w => ((.d (.d (.d (.k .z)))) : Keep _ _).sat w) ?_
                refine St.xgOn (dj := 57) rfl rfl ?_
                refine St.xfl (fun _ h => h) (Rd.p rfl) rfl ?_
                refine St.xfl (fun _ h => h) (Rd.p rfl) rfl ?_
                refine St.xfl (fun _ h => h) (Rd.p rfl) rfl ?_
                refine St.splitB (dj := 79) _ rfl (fun hb7 => ?_) (fun hb7 => ?_)
                · replace hj3 := bif_t hb7 hj3
                  refine St.xgOn (dj := 79) rfl rfl ?_
                  refine St.xfl (fun _ h => h) (Rd.p rfl) rfl ?_
                  refine St.xgOn (dj := 79) rfl rfl ?_
                  refine St.xfl (fun _ h => h) (Rd.p rfl) rfl ?_
                  refine St.xgOn (dj := 79) rfl rfl ?_
                  refine St.xfl (fun _ h => h) (Rd.p rfl) rfl ?_
                  refine St.xgOn (dj := 79) rfl rfl ?_
                  obtain ⟨x2, hx2, hj3⟩ := bnd_e hj3
                  refine St.openA (.tail _ (.tail _ (.tail _ (.head _)))) hx2 fun b1 ob1 hqb1 => ?_
                  refine St.asrt (fun _ w => Sat.addC hqb1 (.tail _ (.tail _ (.tail _ (.head _)))) hx2 w) ?_
                  have hc3 := fun w h => Sat.addC hqb1 (.tail _ (.tail _ (.head _))) hx2 (hc2 w h)
                  refine St.xfx (Rd.ixL (E := eu8) hqb1 hx2 rfl rfl rfl rfl rfl rfl rfl) rfl ?_
                  refine St.xgOn (dj := 79) rfl rfl ?_
                  refine St.xfx (Rd.load ob1 0 rfl (.head _) rfl rfl) rfl ?_
                  refine St.xgOn (dj := 79) rfl rfl ?_
                  refine St.xfl (fun _ h => h) (Rd.p rfl) rfl ?_
                  refine St.xfl (fun _ h => h) (Rd.p rfl) rfl ?_
                  refine St.xfl (fun _ h => h) (Rd.p rfl) rfl ?_
                  refine St.xdone ?_
                  injection hj3 with hj3
                  subst hj3
                  refine St.thenN ?_
                  exact St.hereE () ⟨rfl, trivial⟩ (fun _ w => ((.d (.d (.d (.d (.d .z))))) : Keep _ _).sat w)
                · replace hj3 := bif_f hb7 hj3
                  refine St.xgOff (dj := 79) rfl rfl rfl rfl ?_
                  refine St.xgOff (dj := 79) rfl rfl rfl rfl ?_
                  refine St.xgOff (dj := 79) rfl rfl rfl rfl ?_
                  refine St.xgOff (dj := 79) rfl rfl rfl rfl ?_
                  refine St.xgOff (dj := 79) rfl rfl rfl rfl ?_
                  refine St.xgOff (dj := 79) rfl rfl rfl rfl ?_
                  refine St.xfl (fun _ h => h) (Rd.p rfl) rfl ?_
                  refine St.xfl (fun _ h => h) (Rd.p rfl) rfl ?_
                  refine St.xdone ?_
                  injection hj3 with hj3
                  subst hj3
                  refine St.thenN ?_
                  exact St.hereE () ⟨rfl, trivial⟩ (fun _ w => ((.d (.d (.d (.d .z)))) : Keep _ _).sat w)
              · replace hj3 := bif_f hb6 hj3
                refine St.xgOff (dj := 57) rfl rfl rfl rfl ?_
                refine St.xgOff (dj := 57) rfl rfl rfl rfl ?_
                refine St.xgOff (dj := 57) rfl rfl rfl rfl ?_
                refine St.xgOff (dj := 57) rfl rfl rfl rfl ?_
                refine St.xgOff (dj := 57) rfl rfl rfl rfl ?_
                refine St.xgOff (dj := 57) rfl rfl rfl rfl ?_
                refine St.xgOff (dj := 57) rfl rfl rfl rfl ?_
                refine St.xgOff (dj := 57) rfl rfl rfl rfl ?_
                refine St.xgOff (dj := 57) rfl rfl rfl rfl ?_
                refine St.xgOff (dj := 57) rfl rfl rfl rfl ?_
                refine St.xgOff (dj := 57) rfl rfl rfl rfl ?_
                refine St.xgOff (dj := 57) rfl rfl rfl rfl ?_
                refine St.xgOff (dj := 57) rfl rfl rfl rfl ?_
                refine St.xgOff (dj := 57) rfl rfl rfl rfl ?_
                refine St.xgOff (dj := 57) rfl rfl rfl rfl ?_
                refine St.xgOff (dj := 57) rfl rfl rfl rfl ?_
                refine St.xgOff (dj := 57) rfl rfl rfl rfl ?_
                refine St.xgOff (dj := 57) rfl rfl rfl rfl ?_
                refine St.xgOff (dj := 57) rfl rfl rfl rfl ?_
                refine St.xgOff (dj := 57) rfl rfl rfl rfl ?_
                refine St.xfl (fun _ h => h) (Rd.p rfl) rfl ?_
                refine St.xfl (fun _ h => h) (Rd.p rfl) rfl ?_
                refine St.xgOff (dj := 79) rfl rfl rfl rfl ?_
                refine St.xgOff (dj := 79) rfl rfl rfl rfl ?_
                refine St.xgOff (dj := 79) rfl rfl rfl rfl ?_
                refine St.xgOff (dj := 79) rfl rfl rfl rfl ?_
                refine St.xgOff (dj := 79) rfl rfl rfl rfl ?_
                refine St.xgOff (dj := 79) rfl rfl rfl rfl ?_
                refine St.xfl (fun _ h => h) (Rd.p rfl) rfl ?_
                refine St.xfl (fun _ h => h) (Rd.p rfl) rfl ?_
                refine St.xdone ?_
                injection hj3 with hj3
                subst hj3
                refine St.thenN ?_
                exact St.hereE () ⟨rfl, trivial⟩ (fun _ w => ((.d (.d .z)) : Keep _ _).sat w)
            · rintro e3
              refine St.ret ?_
              repeat (first | refine St.thenR ?_ | refine St.blkR ?_)
              injection h with h
              subst h
              exact St.finR Try.results6 (.tmp rfl .nil) rfl [] ⟨rfl, rfl⟩ (fun _ w => (.z : Keep _ _).sat w)

end Go.Proofs.Ytgnmhmnglbbamaa
