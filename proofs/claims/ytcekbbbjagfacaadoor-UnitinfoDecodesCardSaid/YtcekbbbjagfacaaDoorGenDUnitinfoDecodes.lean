/-
 Models of functions of the program, and that the functions compute them.
 Conditions: none.
-/
import Derived.Test.YtcekbbbjagfacaaDoorGenDUnitinfoDecodesb
namespace Go.Proofs.YtcekbbbjagfacaaDoor
open Go
set_option linter.unusedVariables false
set_option maxRecDepth 4000

set_option maxHeartbeats 4000000 in
theorem c_unitinfo_Decode {b_p0 : (List Int)} {A1 : Option Addr} {c1 : Nat} {r : (T_Info × Int)} (h : m_unitinfo_Decode b_p0 = some r) :
  Fun Tryd.prog 27 [.slice A1 b_p0.length c1] [.ro (SlL eu8 A1 c1 b_p0), .ro (SlL ei64 (some ⟨0, 0, none⟩) 3 ([2, 5, 7] : List Int))] (fun v_ F_ => ∃ (A1 : Option Addr) (c1 : Nat) (A2 : Option Addr) (c2 : Nat) (A3 : Option Addr) (c3 : Nat) (A4 : Option Addr) (c4 : Nat), v_ = .tuple #[.agg (bx_T_Info r.1 A1 c1 A2 c2 A3 c3 A4 c4).toArray, .int .i64 r.2] ∧ F_ = [.ro (SlL e_Field A1 c1 r.1.Chassis.Fields), .ro (SlL e_Field A2 c2 r.1.Board.Fields), .ro (SlL e_Field A3 c3 r.1.Product.Fields), .ro (SlL eu8 A4 c4 r.1.Multi)]) := by
 unfold m_unitinfo_Decode at h
 refine Fun.intro Tryd.func27 rfl rfl rfl fun w R => ?_
 refine St.seq ?_
 refine St.region ?_
 refine St.alloc rfl rfl fun g1 => ?_
 refine St.p rfl rfl ?_
 refine St.done ?_
 refine St.thenN ?_
 refine St.prune (Γ' := [(0, _), (2, _)]) ⟨rfl, rfl, trivial⟩ (.k (.k (.k .z))) ?_
 refine St.seq ?_
 refine St.block ?_
 refine St.seq ?_
 refine St.region ?_
 iterate 4 refine St.p rfl rfl ?_
 refine St.done ?_
 refine St.thenN ?_
 refine St.prune (Γ' := [(0, _), (2, _), (9, _)]) ⟨rfl, rfl, rfl, trivial⟩ (.k (.k (.k .z))) ?_
 refine St.cond _ rfl (fun hb1 => ?_) (fun hb1 => ?_)
 ·replace h := bif_t hb1 h
  refine St.seq ?_
  refine St.region ?_
  refine St.p rfl rfl ?_
  refine St.store 0 rfl rfl rfl rfl rfl rfl .z rfl ?_
  refine St.p rfl rfl ?_
  refine St.done ?_
  refine St.thenN ?_
  refine St.prune (Γ' := [(2, _), (3, _)]) ⟨rfl, rfl, trivial⟩ (.k (.d (.k .z))) ?_
  refine St.ret ?_
  repeat (first | refine St.thenR ?_ | refine St.blkR ?_)
  refine St.asrt (fun _ w => w.nilSl (cod e_Field)) ?_
  refine St.asrt (fun _ w => w.nilSl (cod e_Field)) ?_
  refine St.asrt (fun _ w => w.nilSl (cod e_Field)) ?_
  refine St.asrt (fun _ w => w.nilSl (cod eu8)) ?_
  injection h with h
  subst h
  exact St.finR Tryd.results27 (.cell rfl (.tail _ (.tail _ (.tail _ (.tail _ (.head _))))) rfl (.tmp rfl .nil)) rfl [.ro (SlL e_Field none 0 ([] : List T_Field)), .ro (SlL e_Field none 0 ([] : List T_Field)), .ro (SlL e_Field none 0 ([] : List T_Field)), .ro (SlL eu8 none 0 ([] : List Int))] ⟨none, 0, none, 0, none, 0, none, 0, rfl, rfl⟩ (fun _ w => ((.k (.k (.k (.k (.d (.d (.d (.d (.d (.d .z)))))))))) : Keep _ _).sat (Sat.dup (G := [.ro (SlL e_Field none 0 ([] : List T_Field)), .ro (SlL e_Field none 0 ([] : List T_Field)), .ro (SlL e_Field none 0 ([] : List T_Field)), .ro (SlL eu8 none 0 ([] : List Int))]) rfl ⟨(.tail _ (.head _)), (.tail _ (.head _)), (.tail _ (.head _)), (.head _), trivial⟩ w))
 ·replace h := bif_f hb1 h
  refine St.seq ?_
  refine St.region ?_
  iterate 4 refine St.p rfl rfl ?_
  refine St.done ?_
  refine St.thenN ?_
  refine St.prune (Γ' := [(0, _), (2, _), (14, _)]) ⟨rfl, rfl, rfl, trivial⟩ (.k (.k (.k .z))) ?_
  refine St.cond _ rfl (fun hb2 => ?_) (fun hb2 => ?_)
  ·replace h := bif_t hb2 h
   refine St.seq ?_
   refine St.region ?_
   refine St.p rfl rfl ?_
   refine St.store 0 rfl rfl rfl rfl rfl rfl .z rfl ?_
   refine St.p rfl rfl ?_
   refine St.done ?_
   refine St.thenN ?_
   refine St.prune (Γ' := [(2, _), (3, _)]) ⟨rfl, rfl, trivial⟩ (.k (.d (.k .z))) ?_
   refine St.ret ?_
   repeat (first | refine St.thenR ?_ | refine St.blkR ?_)
   refine St.asrt (fun _ w => w.nilSl (cod e_Field)) ?_
   refine St.asrt (fun _ w => w.nilSl (cod e_Field)) ?_
   refine St.asrt (fun _ w => w.nilSl (cod e_Field)) ?_
   refine St.asrt (fun _ w => w.nilSl (cod eu8)) ?_
   injection h with h
   subst h
   exact St.finR Tryd.results27 (.cell rfl (.tail _ (.tail _ (.tail _ (.tail _ (.head _))))) rfl (.tmp rfl .nil)) rfl [.ro (SlL e_Field none 0 ([] : List T_Field)), .ro (SlL e_Field none 0 ([] : List T_Field)), .ro (SlL e_Field none 0 ([] : List T_Field)), .ro (SlL eu8 none 0 ([] : List Int))] ⟨none, 0, none, 0, none, 0, none, 0, rfl, rfl⟩ (fun _ w => ((.k (.k (.k (.k (.d (.d (.d (.d (.d (.d .z)))))))))) : Keep _ _).sat (Sat.dup (G := [.ro (SlL e_Field none 0 ([] : List T_Field)), .ro (SlL e_Field none 0 ([] : List T_Field)), .ro (SlL e_Field none 0 ([] : List T_Field)), .ro (SlL eu8 none 0 ([] : List Int))]) rfl ⟨(.tail _ (.head _)), (.tail _ (.head _)), (.tail _ (.head _)), (.head _), trivial⟩ w))
  ·replace h := bif_f hb2 h
   refine St.seq ?_
   refine St.region ?_
   refine St.p rfl rfl ?_
   obtain ⟨l1, hl1, h⟩ := bnd_e h
   refine St.sub (E := (cod eu8)) rfl rfl (.tail _ (.head _)) rfl rfl rfl rfl rfl rfl rfl hl1 fun A2 c2 => ?_
   obtain ⟨r1, hr1, h⟩ := bnd_e h
   refine St.callV (c_checksum_Sum8 hr1) ent39 rfl rfl rfl rfl ⟨(.head _), trivial⟩ ?_
   refine St.p rfl rfl ?_
   refine St.p rfl rfl ?_
   refine St.done ?_
   refine St.thenN ?_
   refine St.prune (Γ' := [(0, _), (2, _), (19, _)]) ⟨rfl, rfl, rfl, trivial⟩ (.d (.k (.k (.k .z)))) ?_
   refine St.cond _ rfl (fun hb3 => ?_) (fun hb3 => ?_)
   ·replace h := bif_t hb3 h
    refine St.seq ?_
    refine St.region ?_
    refine St.p rfl rfl ?_
    refine St.store 0 rfl rfl rfl rfl rfl rfl .z rfl ?_
    refine St.p rfl rfl ?_
    refine St.done ?_
    refine St.thenN ?_
    refine St.prune (Γ' := [(2, _), (3, _)]) ⟨rfl, rfl, trivial⟩ (.k (.d (.k .z))) ?_
    refine St.ret ?_
    repeat (first | refine St.thenR ?_ | refine St.blkR ?_)
    refine St.asrt (fun _ w => w.nilSl (cod e_Field)) ?_
    refine St.asrt (fun _ w => w.nilSl (cod e_Field)) ?_
    refine St.asrt (fun _ w => w.nilSl (cod e_Field)) ?_
    refine St.asrt (fun _ w => w.nilSl (cod eu8)) ?_
    injection h with h
    subst h
    exact St.finR Tryd.results27 (.cell rfl (.tail _ (.tail _ (.tail _ (.tail _ (.head _))))) rfl (.tmp rfl .nil)) rfl [.ro (SlL e_Field none 0 ([] : List T_Field)), .ro (SlL e_Field none 0 ([] : List T_Field)), .ro (SlL e_Field none 0 ([] : List T_Field)), .ro (SlL eu8 none 0 ([] : List Int))] ⟨none, 0, none, 0, none, 0, none, 0, rfl, rfl⟩ (fun _ w => ((.k (.k (.k (.k (.d (.d (.d (.d (.d (.d .z)))))))))) : Keep _ _).sat (Sat.dup (G := [.ro (SlL e_Field none 0 ([] : List T_Field)), .ro (SlL e_Field none 0 ([] : List T_Field)), .ro (SlL e_Field none 0 ([] : List T_Field)), .ro (SlL eu8 none 0 ([] : List Int))]) rfl ⟨(.tail _ (.head _)), (.tail _ (.head _)), (.tail _ (.head _)), (.head _), trivial⟩ w))
   ·replace h := bif_f hb3 h
    refine St.seq ?_
    obtain ⟨o1, hj1, h⟩ := bnd_e h
    refine St.cutE (fun (e1 : Unit) => [(0, .slice A1 b_p0.length c1), (2, .pointer (some ⟨g1, 0, none⟩)), (25, .bool o1)]) (fun e1 => .res (Box g1 28 [.bool false, .int .u8 0, .int .u32 0, .slice none 0 0, .bool false, .int .u8 0, .int .u32 0, .slice none 0 0, .bool false, .int .u8 0, .int .u32 0, .slice none 0 0, .slice none 0 0]) :: .ro (SlL eu8 A1 c1 b_p0) :: .ro (SlL ei64 (some ⟨0, 0, none⟩) 3 ([2, 5, 7] : List Int)) :: R) ?_ ?_
    ·refine St.region ?_
     refine St.p rfl rfl ?_
     obtain ⟨x1, hx1, hj1⟩ := bnd_e hj1
     refine St.ixL hx1 rfl rfl rfl (.tail _ (.head _)) rfl rfl rfl rfl rfl fun b1 ob1 => ?_
     refine St.load ob1 0 rfl rfl (.head _) rfl rfl ?_
     refine St.p rfl rfl ?_
     refine St.p rfl rfl ?_
     refine St.gSplit (dj := 30) _ rfl (fun hb4 => ?_) (fun hb4 => ?_)
     ·replace hj1 := bif_t hb4 hj1
      refine St.gOff (dj := 30) rfl rfl rfl rfl ?_
      refine St.gOff (dj := 30) rfl rfl rfl rfl ?_
      refine St.gOff (dj := 30) rfl rfl rfl rfl ?_
      refine St.gOff (dj := 30) rfl rfl rfl rfl ?_
      refine St.p rfl rfl ?_
      refine St.p rfl rfl ?_
      refine St.gOff (dj := 36) rfl rfl rfl rfl ?_
      refine St.gOff (dj := 36) rfl rfl rfl rfl ?_
      refine St.gOff (dj := 36) rfl rfl rfl rfl ?_
      refine St.gOff (dj := 36) rfl rfl rfl rfl ?_
      refine St.p rfl rfl ?_
      refine St.p rfl rfl ?_
      refine St.done ?_
      injection hj1 with hj1
      subst hj1
      refine St.thenN ?_
      exact St.hereE () ⟨rfl, rfl, rfl, trivial⟩ (fun _ w => ((.d (.k (.k (.k .z)))) : Keep _ _).sat w)
     ·replace hj1 := bif_f hb4 hj1
      refine St.gOn (dj := 30) rfl rfl ?_
      refine St.p rfl rfl ?_
      refine St.gOn (dj := 30) rfl rfl ?_
      obtain ⟨x2, hx2, hj1⟩ := bnd_e hj1
      refine St.ixL hx2 rfl rfl rfl (.tail _ (.tail _ (.head _))) rfl rfl rfl rfl rfl fun b2 ob2 => ?_
      refine St.gOn (dj := 30) rfl rfl ?_
      refine St.load ob2 0 rfl rfl (.head _) rfl rfl ?_
      refine St.gOn (dj := 30) rfl rfl ?_
      iterate 3 refine St.p rfl rfl ?_
      refine St.gSplit (dj := 36) _ rfl (fun hb5 => ?_) (fun hb5 => ?_)
      ·replace hj1 := bif_t hb5 hj1
       refine St.gOff (dj := 36) rfl rfl rfl rfl ?_
       refine St.gOff (dj := 36) rfl rfl rfl rfl ?_
       refine St.gOff (dj := 36) rfl rfl rfl rfl ?_
       refine St.gOff (dj := 36) rfl rfl rfl rfl ?_
       refine St.p rfl rfl ?_
       refine St.p rfl rfl ?_
       refine St.done ?_
       injection hj1 with hj1
       subst hj1
       refine St.thenN ?_
       exact St.hereE () ⟨rfl, rfl, rfl, trivial⟩ (fun _ w => ((.d (.d (.k (.k (.k .z))))) : Keep _ _).sat w)
      ·replace hj1 := bif_f hb5 hj1
       refine St.gOn (dj := 36) rfl rfl ?_
       refine St.p rfl rfl ?_
       refine St.gOn (dj := 36) rfl rfl ?_
       obtain ⟨x3, hx3, hj1⟩ := bnd_e hj1
       refine St.ixL hx3 rfl rfl rfl (.tail _ (.tail _ (.tail _ (.head _)))) rfl rfl rfl rfl rfl fun b3 ob3 => ?_
       refine St.gOn (dj := 36) rfl rfl ?_
       refine St.load ob3 0 rfl rfl (.head _) rfl rfl ?_
       refine St.gOn (dj := 36) rfl rfl ?_
       iterate 3 refine St.p rfl rfl ?_
       refine St.done ?_
       injection hj1 with hj1
       subst hj1
       refine St.thenN ?_
       exact St.hereE () ⟨rfl, rfl, rfl, trivial⟩ (fun _ w => ((.d (.d (.d (.k (.k (.k .z)))))) : Keep _ _).sat w)
    ·rintro e1
     refine St.cond _ rfl (fun hb6 => ?_) (fun hb6 => ?_)
     ·replace h := bif_t hb6 h
      refine St.seq ?_
      refine St.region ?_
      refine St.p rfl rfl ?_
      refine St.store 0 rfl rfl rfl rfl rfl rfl .z rfl ?_
      refine St.p rfl rfl ?_
      refine St.done ?_
      refine St.thenN ?_
      refine St.prune (Γ' := [(2, _), (3, _)]) ⟨rfl, rfl, trivial⟩ (.k (.d (.k .z))) ?_
      refine St.ret ?_
      repeat (first | refine St.thenR ?_ | refine St.blkR ?_)
      refine St.asrt (fun _ w => w.nilSl (cod e_Field)) ?_
      refine St.asrt (fun _ w => w.nilSl (cod e_Field)) ?_
      refine St.asrt (fun _ w => w.nilSl (cod e_Field)) ?_
      refine St.asrt (fun _ w => w.nilSl (cod eu8)) ?_
      injection h with h
      subst h
      exact St.finR Tryd.results27 (.cell rfl (.tail _ (.tail _ (.tail _ (.tail _ (.head _))))) rfl (.tmp rfl .nil)) rfl [.ro (SlL e_Field none 0 ([] : List T_Field)), .ro (SlL e_Field none 0 ([] : List T_Field)), .ro (SlL e_Field none 0 ([] : List T_Field)), .ro (SlL eu8 none 0 ([] : List Int))] ⟨none, 0, none, 0, none, 0, none, 0, rfl, rfl⟩ (fun _ w => ((.k (.k (.k (.k (.d (.d (.d (.d (.d (.d .z)))))))))) : Keep _ _).sat (Sat.dup (G := [.ro (SlL e_Field none 0 ([] : List T_Field)), .ro (SlL e_Field none 0 ([] : List T_Field)), .ro (SlL e_Field none 0 ([] : List T_Field)), .ro (SlL eu8 none 0 ([] : List Int))]) rfl ⟨(.tail _ (.head _)), (.tail _ (.head _)), (.tail _ (.head _)), (.head _), trivial⟩ w))
     ·replace h := bif_f hb6 h
      refine St.skip ?_
      refine St.blkN ?_
      refine St.thenN ?_
      refine St.prune (Γ' := [(0, _), (2, _)]) ⟨rfl, rfl, trivial⟩ (.k (.k (.k .z))) ?_
      refine St.seq ?_
      refine St.region ?_
      refine St.alloc rfl rfl fun g2 => ?_
      refine St.done ?_
      refine St.thenN ?_
      refine St.seq ?_
      refine St.seq ?_
      refine St.region ?_
      iterate 3 refine St.p rfl rfl ?_
      refine St.buildSlice rfl rfl rfl rfl rfl rfl rfl rfl fun g3 => ?_
      refine St.p rfl rfl ?_
      refine St.p rfl rfl ?_
      refine St.done ?_
      refine St.thenN ?_
      refine St.prune (Γ' := [(0, _), (2, _), (4, _), (46, _), (47, _), (48, _)]) ⟨rfl, rfl, rfl, rfl, rfl, rfl, trivial⟩ (.k (.k (.k (.k (.k .z))))) ?_
      refine St.block ?_
      refine St.rounds 9 ?_
      refine St.round ?_
      refine St.seq ?_
      refine St.region ?_
      refine St.p rfl rfl ?_
      refine St.done ?_
      refine St.thenN ?_
      refine St.seq ?_
      refine St.condT rfl ?_
      refine St.skip ?_
      refine St.thenN ?_
      refine St.prune (Γ' := [(0, _), (2, _), (4, _), (46, _), (47, _), (48, _)]) ⟨rfl, rfl, rfl, rfl, rfl, rfl, trivial⟩ (.k (.k (.k (.k (.k .z))))) ?_
      refine St.seq ?_
      refine St.block ?_
      refine St.seq ?_
      refine St.region ?_
      refine St.p rfl rfl ?_
      refine St.ixB 0 rfl rfl rfl rfl rfl rfl rfl rfl rfl rfl ?_
      refine St.loadB 0 rfl rfl (.head _) rfl rfl ?_
      refine St.p rfl rfl ?_
      refine St.p rfl rfl ?_
      refine St.done ?_
      refine St.thenN ?_
      refine St.prune (Γ' := [(0, _), (2, _), (4, _), (5, _), (6, _), (46, _), (47, _), (48, _)]) ⟨rfl, rfl, rfl, rfl, rfl, rfl, rfl, rfl, trivial⟩ (.k (.k (.k (.k (.k .z))))) ?_
      refine St.seq ?_
      refine St.region ?_
      refine St.p rfl rfl ?_
      refine St.done ?_
      refine St.thenN ?_
      refine St.prune (Γ' := [(0, _), (2, _), (4, _), (5, _), (6, _), (46, _), (47, _), (48, _)]) ⟨rfl, rfl, rfl, rfl, rfl, rfl, rfl, rfl, trivial⟩ (.k (.k (.k (.k (.k .z))))) ?_
      refine St.seq ?_
      refine St.region ?_
      iterate 3 refine St.p rfl rfl ?_
      obtain ⟨r2, hr2, h⟩ := bnd_e h
      refine St.call (c_unitinfo_decodeArea hr2) ent40 rfl rfl rfl (fun _ w => Sat.dup (G := [.ro (SlL eu8 A1 c1 b_p0)]) rfl ⟨(.tail _ (.tail _ (.tail _ (.head _)))), trivial⟩ w) ?_
      rintro _ _ ⟨A3, c3, rfl, rfl⟩
      refine St.asrt (F' := .ro (SlL e_Field A3 c3 r2.1.Fields) :: .res (Box g3 76 [.pointer (some ⟨g2, 0, none⟩), .pointer (some ⟨g2, 4, none⟩), .pointer (some ⟨g2, 8, none⟩)]) :: .res (Box g2 28 [.bool false, .int .u8 0, .int .u32 0, .slice none 0 0, .bool false, .int .u8 0, .int .u32 0, .slice none 0 0, .bool false, .int .u8 0, .int .u32 0, .slice none 0 0, .slice none 0 0]) :: .res (Box g1 28 [.bool false, .int .u8 0, .int .u32 0, .slice none 0 0, .bool false, .int .u8 0, .int .u32 0, .slice none 0 0, .bool false, .int .u8 0, .int .u32 0, .slice none 0 0, .slice none 0 0]) :: .ro (SlL eu8 A1 c1 b_p0) :: .ro (SlL ei64 (some ⟨0, 0, none⟩) 3 ([2, 5, 7] : List Int)) :: R) (fun _ w => w) ?_
      iterate 4 refine St.p rfl rfl ?_
      refine St.store 0 rfl rfl rfl rfl rfl rfl (.s (.s .z)) rfl ?_
      refine St.p rfl rfl ?_
      refine St.done ?_
      refine St.thenN ?_
      refine St.prune (Γ' := [(0, _), (2, _), (4, _), (7, _), (46, _), (47, _), (48, _)]) ⟨rfl, rfl, rfl, rfl, rfl, rfl, rfl, trivial⟩ (.k (.k (.k (.k (.k (.k .z)))))) ?_
      refine St.seq ?_
      refine St.region ?_
      refine St.p rfl rfl ?_
      refine St.p rfl rfl ?_
      refine St.done ?_
      refine St.thenN ?_
      refine St.prune (Γ' := [(0, _), (2, _), (4, _), (7, _), (46, _), (47, _), (48, _), (62, _)]) ⟨rfl, rfl, rfl, rfl, rfl, rfl, rfl, rfl, trivial⟩ (.k (.k (.k (.k (.k (.k .z)))))) ?_
      refine St.cond _ rfl (fun hb7 => ?_) (fun hb7 => ?_)
      ·replace h := bif_t hb7 h
       refine St.seq ?_
       refine St.region ?_
       refine St.p rfl rfl ?_
       refine St.p rfl rfl ?_
       refine St.store 0 rfl rfl rfl rfl rfl rfl (.s (.s (.s .z))) rfl ?_
       refine St.p rfl rfl ?_
       refine St.done ?_
       refine St.thenN ?_
       refine St.prune (Γ' := [(2, _), (3, _)]) ⟨rfl, rfl, trivial⟩ (.k (.d (.d (.d (.d (.k .z)))))) ?_
       refine St.ret ?_
       repeat (first | refine St.thenR ?_ | refine St.blkR ?_)
       refine St.asrt (fun _ w => w.nilSl (cod e_Field)) ?_
       refine St.asrt (fun _ w => w.nilSl (cod e_Field)) ?_
       refine St.asrt (fun _ w => w.nilSl (cod e_Field)) ?_
       refine St.asrt (fun _ w => w.nilSl (cod eu8)) ?_
       injection h with h
       subst h
       exact St.finR Tryd.results27 (.cell rfl (.tail _ (.tail _ (.tail _ (.tail _ (.head _))))) rfl (.tmp rfl .nil)) rfl [.ro (SlL e_Field none 0 ([] : List T_Field)), .ro (SlL e_Field none 0 ([] : List T_Field)), .ro (SlL e_Field none 0 ([] : List T_Field)), .ro (SlL eu8 none 0 ([] : List Int))] ⟨none, 0, none, 0, none, 0, none, 0, rfl, rfl⟩ (fun _ w => ((.k (.k (.k (.k (.d (.d (.d (.d (.d (.d .z)))))))))) : Keep _ _).sat (Sat.dup (G := [.ro (SlL e_Field none 0 ([] : List T_Field)), .ro (SlL e_Field none 0 ([] : List T_Field)), .ro (SlL e_Field none 0 ([] : List T_Field)), .ro (SlL eu8 none 0 ([] : List Int))]) rfl ⟨(.tail _ (.head _)), (.tail _ (.head _)), (.tail _ (.head _)), (.head _), trivial⟩ w))
      ·replace h := bif_f hb7 h
       refine St.skip ?_
       refine St.blkN ?_
       refine St.thenN ?_
       refine St.prune (Γ' := [(0, _), (2, _), (4, _), (46, _), (47, _), (48, _)]) ⟨rfl, rfl, rfl, rfl, rfl, rfl, trivial⟩ (.k (.k (.k (.k (.k (.k .z)))))) ?_
       refine St.region ?_
       refine St.p rfl rfl ?_
       refine St.p rfl rfl ?_
       refine St.done ?_
       refine St.thenN ?_
       refine St.round ?_
       refine St.prune (Γ' := [(0, _), (2, _), (4, _), (46, _), (47, _), (48, _)]) ⟨rfl, rfl, rfl, rfl, rfl, rfl, trivial⟩ (.k (.k (.k (.k (.k (.k .z)))))) ?_
       refine St.seq ?_
       refine St.region ?_
       refine St.p rfl rfl ?_
       refine St.done ?_
       refine St.thenN ?_
       refine St.seq ?_
       refine St.condT rfl ?_
       refine St.skip ?_
       refine St.thenN ?_
       refine St.prune (Γ' := [(0, _), (2, _), (4, _), (46, _), (47, _), (48, _)]) ⟨rfl, rfl, rfl, rfl, rfl, rfl, trivial⟩ (.k (.k (.k (.k (.k (.k .z)))))) ?_
       refine St.seq ?_
       refine St.block ?_
       refine St.seq ?_
       refine St.region ?_
       refine St.p rfl rfl ?_
       refine St.ixB 1 rfl rfl rfl rfl rfl rfl rfl rfl rfl rfl ?_
       refine St.loadB 1 rfl rfl (.tail _ (.tail _ (.head _))) rfl rfl ?_
       refine St.p rfl rfl ?_
       refine St.p rfl rfl ?_
       refine St.done ?_
       refine St.thenN ?_
       refine St.prune (Γ' := [(0, _), (2, _), (4, _), (5, _), (6, _), (46, _), (47, _), (48, _)]) ⟨rfl, rfl, rfl, rfl, rfl, rfl, rfl, rfl, trivial⟩ (.k (.k (.k (.k (.k (.k .z)))))) ?_
       refine St.seq ?_
       refine St.region ?_
       refine St.p rfl rfl ?_
       refine St.done ?_
       refine St.thenN ?_
       refine St.prune (Γ' := [(0, _), (2, _), (4, _), (5, _), (6, _), (46, _), (47, _), (48, _)]) ⟨rfl, rfl, rfl, rfl, rfl, rfl, rfl, rfl, trivial⟩ (.k (.k (.k (.k (.k (.k .z)))))) ?_
       refine St.seq ?_
       refine St.region ?_
       iterate 3 refine St.p rfl rfl ?_
       obtain ⟨r3, hr3, h⟩ := bnd_e h
       refine St.call (c_unitinfo_decodeArea hr3) ent40 rfl rfl rfl (fun _ w => Sat.dup (G := [.ro (SlL eu8 A1 c1 b_p0)]) rfl ⟨(.tail _ (.tail _ (.tail _ (.tail _ (.head _))))), trivial⟩ w) ?_
       rintro _ _ ⟨A4, c4, rfl, rfl⟩
       refine St.asrt (F' := .ro (SlL e_Field A4 c4 r3.1.Fields) :: .res (Box g2 28 [.bool r2.1.Present, .int .u8 r2.1.Code, .int .u32 r2.1.Minutes, .slice A3 r2.1.Fields.length c3, .bool false, .int .u8 0, .int .u32 0, .slice none 0 0, .bool false, .int .u8 0, .int .u32 0, .slice none 0 0, .slice none 0 0]) :: .ro (SlL e_Field A3 c3 r2.1.Fields) :: .res (Box g3 76 [.pointer (some ⟨g2, 0, none⟩), .pointer (some ⟨g2, 4, none⟩), .pointer (some ⟨g2, 8, none⟩)]) :: .res (Box g1 28 [.bool false, .int .u8 0, .int .u32 0, .slice none 0 0, .bool false, .int .u8 0, .int .u32 0, .slice none 0 0, .bool false, .int .u8 0, .int .u32 0, .slice none 0 0, .slice none 0 0]) :: .ro (SlL eu8 A1 c1 b_p0) :: .ro (SlL ei64 (some ⟨0, 0, none⟩) 3 ([2, 5, 7] : List Int)) :: R) (fun _ w => w) ?_
       iterate 4 refine St.p rfl rfl ?_
       refine St.store 4 rfl rfl rfl rfl rfl rfl (.s .z) rfl ?_
       refine St.p rfl rfl ?_
       refine St.done ?_
       refine St.thenN ?_
       refine St.prune (Γ' := [(0, _), (2, _), (4, _), (7, _), (46, _), (47, _), (48, _)]) ⟨rfl, rfl, rfl, rfl, rfl, rfl, rfl, trivial⟩ (.k (.k (.k (.k (.k (.k (.k .z))))))) ?_
       refine St.seq ?_
       refine St.region ?_
       refine St.p rfl rfl ?_
       refine St.p rfl rfl ?_
       refine St.done ?_
       refine St.thenN ?_
       refine St.prune (Γ' := [(0, _), (2, _), (4, _), (7, _), (46, _), (47, _), (48, _), (62, _)]) ⟨rfl, rfl, rfl, rfl, rfl, rfl, rfl, rfl, trivial⟩ (.k (.k (.k (.k (.k (.k (.k .z))))))) ?_
       refine St.cond _ rfl (fun hb8 => ?_) (fun hb8 => ?_)
       ·replace h := bif_t hb8 h
        refine St.seq ?_
        refine St.region ?_
        refine St.p rfl rfl ?_
        refine St.p rfl rfl ?_
        refine St.store 0 rfl rfl rfl rfl rfl rfl (.s (.s (.s (.s .z)))) rfl ?_
        refine St.p rfl rfl ?_
        refine St.done ?_
        refine St.thenN ?_
        refine St.prune (Γ' := [(2, _), (3, _)]) ⟨rfl, rfl, trivial⟩ (.k (.d (.d (.d (.d (.d (.k .z))))))) ?_
        refine St.ret ?_
        repeat (first | refine St.thenR ?_ | refine St.blkR ?_)
        refine St.asrt (fun _ w => w.nilSl (cod e_Field)) ?_
        refine St.asrt (fun _ w => w.nilSl (cod e_Field)) ?_
        refine St.asrt (fun _ w => w.nilSl (cod e_Field)) ?_
        refine St.asrt (fun _ w => w.nilSl (cod eu8)) ?_
        injection h with h
        subst h
        exact St.finR Tryd.results27 (.cell rfl (.tail _ (.tail _ (.tail _ (.tail _ (.head _))))) rfl (.tmp rfl .nil)) rfl [.ro (SlL e_Field none 0 ([] : List T_Field)), .ro (SlL e_Field none 0 ([] : List T_Field)), .ro (SlL e_Field none 0 ([] : List T_Field)), .ro (SlL eu8 none 0 ([] : List Int))] ⟨none, 0, none, 0, none, 0, none, 0, rfl, rfl⟩ (fun _ w => ((.k (.k (.k (.k (.d (.d (.d (.d (.d (.d .z)))))))))) : Keep _ _).sat (Sat.dup (G := [.ro (SlL e_Field none 0 ([] : List T_Field)), .ro (SlL e_Field none 0 ([] : List T_Field)), .ro (SlL e_Field none 0 ([] : List T_Field)), .ro (SlL eu8 none 0 ([] : List Int))]) rfl ⟨(.tail _ (.head _)), (.tail _ (.head _)), (.tail _ (.head _)), (.head _), trivial⟩ w))
       ·replace h := bif_f hb8 h
        refine St.skip ?_
        refine St.blkN ?_
        refine St.thenN ?_
        refine St.prune (Γ' := [(0, _), (2, _), (4, _), (46, _), (47, _), (48, _)]) ⟨rfl, rfl, rfl, rfl, rfl, rfl, trivial⟩ (.k (.k (.k (.k (.k (.k (.k .z))))))) ?_
        refine St.region ?_
        refine St.p rfl rfl ?_
        refine St.p rfl rfl ?_
        refine St.done ?_
        refine St.thenN ?_
        refine St.round ?_
        refine St.prune (Γ' := [(0, _), (2, _), (4, _), (46, _), (47, _), (48, _)]) ⟨rfl, rfl, rfl, rfl, rfl, rfl, trivial⟩ (.k (.k (.k (.k (.k (.k (.k .z))))))) ?_
        refine St.seq ?_
        refine St.region ?_
        refine St.p rfl rfl ?_
        refine St.done ?_
        refine St.thenN ?_
        refine St.seq ?_
        refine St.condT rfl ?_
        refine St.skip ?_
        refine St.thenN ?_
        refine St.prune (Γ' := [(0, _), (2, _), (4, _), (46, _), (47, _), (48, _)]) ⟨rfl, rfl, rfl, rfl, rfl, rfl, trivial⟩ (.k (.k (.k (.k (.k (.k (.k .z))))))) ?_
        refine St.seq ?_
        refine St.block ?_
        refine St.seq ?_
        refine St.region ?_
        refine St.p rfl rfl ?_
        refine St.ixB 2 rfl rfl rfl rfl rfl rfl rfl rfl rfl rfl ?_
        refine St.loadB 2 rfl rfl (.tail _ (.tail _ (.tail _ (.head _)))) rfl rfl ?_
        refine St.p rfl rfl ?_
        refine St.p rfl rfl ?_
        refine St.done ?_
        refine St.thenN ?_
        refine St.prune (Γ' := [(0, _), (2, _), (4, _), (5, _), (6, _), (46, _), (47, _), (48, _)]) ⟨rfl, rfl, rfl, rfl, rfl, rfl, rfl, rfl, trivial⟩ (.k (.k (.k (.k (.k (.k (.k .z))))))) ?_
        refine St.seq ?_
        refine St.region ?_
        refine St.p rfl rfl ?_
        refine St.done ?_
        refine St.thenN ?_
        refine St.prune (Γ' := [(0, _), (2, _), (4, _), (5, _), (6, _), (46, _), (47, _), (48, _)]) ⟨rfl, rfl, rfl, rfl, rfl, rfl, rfl, rfl, trivial⟩ (.k (.k (.k (.k (.k (.k (.k .z))))))) ?_
        refine St.seq ?_
        refine St.region ?_
        iterate 3 refine St.p rfl rfl ?_
        obtain ⟨r4, hr4, h⟩ := bnd_e h
        refine St.call (c_unitinfo_decodeArea hr4) ent40 rfl rfl rfl (fun _ w => Sat.dup (G := [.ro (SlL eu8 A1 c1 b_p0)]) rfl ⟨(.tail _ (.tail _ (.tail _ (.tail _ (.tail _ (.head _)))))), trivial⟩ w) ?_
        rintro _ _ ⟨A5, c5, rfl, rfl⟩
        refine St.asrt (F' := .ro (SlL e_Field A5 c5 r4.1.Fields) :: .res (Box g2 28 [.bool r2.1.Present, .int .u8 r2.1.Code, .int .u32 r2.1.Minutes, .slice A3 r2.1.Fields.length c3, .bool r3.1.Present, .int .u8 r3.1.Code, .int .u32 r3.1.Minutes, .slice A4 r3.1.Fields.length c4, .bool false, .int .u8 0, .int .u32 0, .slice none 0 0, .slice none 0 0]) :: .ro (SlL e_Field A4 c4 r3.1.Fields) :: .ro (SlL e_Field A3 c3 r2.1.Fields) :: .res (Box g3 76 [.pointer (some ⟨g2, 0, none⟩), .pointer (some ⟨g2, 4, none⟩), .pointer (some ⟨g2, 8, none⟩)]) :: .res (Box g1 28 [.bool false, .int .u8 0, .int .u32 0, .slice none 0 0, .bool false, .int .u8 0, .int .u32 0, .slice none 0 0, .bool false, .int .u8 0, .int .u32 0, .slice none 0 0, .slice none 0 0]) :: .ro (SlL eu8 A1 c1 b_p0) :: .ro (SlL ei64 (some ⟨0, 0, none⟩) 3 ([2, 5, 7] : List Int)) :: R) (fun _ w => w) ?_
        iterate 4 refine St.p rfl rfl ?_
        refine St.store 8 rfl rfl rfl rfl rfl rfl (.s .z) rfl ?_
        refine St.p rfl rfl ?_
        refine St.done ?_
        refine St.thenN ?_
        refine St.prune (Γ' := [(0, _), (2, _), (4, _), (7, _), (46, _), (47, _), (48, _)]) ⟨rfl, rfl, rfl, rfl, rfl, rfl, rfl, trivial⟩ (.k (.k (.k (.k (.k (.k (.k (.k .z)))))))) ?_
        refine St.seq ?_
        refine St.region ?_
        refine St.p rfl rfl ?_
        refine St.p rfl rfl ?_
        refine St.done ?_
        refine St.thenN ?_
        refine St.prune (Γ' := [(0, _), (2, _), (4, _), (7, _), (46, _), (47, _), (48, _), (62, _)]) ⟨rfl, rfl, rfl, rfl, rfl, rfl, rfl, rfl, trivial⟩ (.k (.k (.k (.k (.k (.k (.k (.k .z)))))))) ?_
        refine St.cond _ rfl (fun hb9 => ?_) (fun hb9 => ?_)
        ·replace h := bif_t hb9 h
         refine St.seq ?_
         refine St.region ?_
         refine St.p rfl rfl ?_
         refine St.p rfl rfl ?_
         refine St.store 0 rfl rfl rfl rfl rfl rfl (.s (.s (.s (.s (.s .z))))) rfl ?_
         refine St.p rfl rfl ?_
         refine St.done ?_
         refine St.thenN ?_
         refine St.prune (Γ' := [(2, _), (3, _)]) ⟨rfl, rfl, trivial⟩ (.k (.d (.d (.d (.d (.d (.d (.k .z)))))))) ?_
         refine St.ret ?_
         repeat (first | refine St.thenR ?_ | refine St.blkR ?_)
         refine St.asrt (fun _ w => w.nilSl (cod e_Field)) ?_
         refine St.asrt (fun _ w => w.nilSl (cod e_Field)) ?_
         refine St.asrt (fun _ w => w.nilSl (cod e_Field)) ?_
         refine St.asrt (fun _ w => w.nilSl (cod eu8)) ?_
         injection h with h
         subst h
         exact St.finR Tryd.results27 (.cell rfl (.tail _ (.tail _ (.tail _ (.tail _ (.head _))))) rfl (.tmp rfl .nil)) rfl [.ro (SlL e_Field none 0 ([] : List T_Field)), .ro (SlL e_Field none 0 ([] : List T_Field)), .ro (SlL e_Field none 0 ([] : List T_Field)), .ro (SlL eu8 none 0 ([] : List Int))] ⟨none, 0, none, 0, none, 0, none, 0, rfl, rfl⟩ (fun _ w => ((.k (.k (.k (.k (.d (.d (.d (.d (.d (.d .z)))))))))) : Keep _ _).sat (Sat.dup (G := [.ro (SlL e_Field none 0 ([] : List T_Field)), .ro (SlL e_Field none 0 ([] : List T_Field)), .ro (SlL e_Field none 0 ([] : List T_Field)), .ro (SlL eu8 none 0 ([] : List Int))]) rfl ⟨(.tail _ (.head _)), (.tail _ (.head _)), (.tail _ (.head _)), (.head _), trivial⟩ w))
        ·replace h := bif_f hb9 h
         refine St.skip ?_
         refine St.blkN ?_
         refine St.thenN ?_
         refine St.prune (Γ' := [(0, _), (2, _), (4, _), (46, _), (47, _), (48, _)]) ⟨rfl, rfl, rfl, rfl, rfl, rfl, trivial⟩ (.k (.k (.k (.k (.k (.k (.k (.k .z)))))))) ?_
         refine St.region ?_
         refine St.p rfl rfl ?_
         refine St.p rfl rfl ?_
         refine St.done ?_
         refine St.thenN ?_
         refine St.round ?_
         refine St.prune (Γ' := [(0, _), (2, _), (4, _), (46, _), (47, _), (48, _)]) ⟨rfl, rfl, rfl, rfl, rfl, rfl, trivial⟩ (.k (.k (.k (.k (.k (.k (.k (.k .z)))))))) ?_
         refine St.seq ?_
         refine St.region ?_
         refine St.p rfl rfl ?_
         refine St.done ?_
         refine St.thenN ?_
         refine St.seq ?_
         refine St.condF rfl ?_
         refine St.exit ?_
         repeat (first | refine St.thenX ?_ | refine St.blkMiss rfl ?_)
         refine St.blkHit ?_
         refine St.thenN ?_
         refine St.prune (Γ' := [(0, _), (2, _), (4, _)]) ⟨rfl, rfl, rfl, trivial⟩ (.k (.k (.k (.k (.d (.k (.k (.k .z)))))))) ?_
         refine St.seq ?_
         obtain ⟨o2, hj2, h⟩ := bnd_e h
         refine St.cutI (fun (o3 : List Int) (e2 : Option Addr × Nat) => [(2, .pointer (some ⟨g1, 0, none⟩)), (4, .pointer (some ⟨g2, 0, none⟩))]) (fun o3 e2 => .res (OwnL eu8 5 e2.1 e2.2 o3) :: .res (Box g2 28 [.bool r2.1.Present, .int .u8 r2.1.Code, .int .u32 r2.1.Minutes, .slice A3 r2.1.Fields.length c3, .bool r3.1.Present, .int .u8 r3.1.Code, .int .u32 r3.1.Minutes, .slice A4 r3.1.Fields.length c4, .bool r4.1.Present, .int .u8 r4.1.Code, .int .u32 r4.1.Minutes, .slice A5 r4.1.Fields.length c5, .slice e2.1 o3.length e2.2]) :: .ro (SlL e_Field A5 c5 r4.1.Fields) :: .ro (SlL e_Field A4 c4 r3.1.Fields) :: .ro (SlL e_Field A3 c3 r2.1.Fields) :: .res (Box g1 28 [.bool false, .int .u8 0, .int .u32 0, .slice none 0 0, .bool false, .int .u8 0, .int .u32 0, .slice none 0 0, .bool false, .int .u8 0, .int .u32 0, .slice none 0 0, .slice none 0 0]) :: .ro (SlL ei64 (some ⟨0, 0, none⟩) 3 ([2, 5, 7] : List Int)) :: R) (fun o3 => o2 = .inr o3) ?_ ?_
         ·refine St.seq ?_
          refine St.region ?_
          refine St.p rfl rfl ?_
          obtain ⟨x4, hx4, hj2⟩ := bnd_e hj2
          refine St.ixL hx4 rfl rfl rfl (.tail _ (.tail _ (.tail _ (.tail _ (.tail _ (.head _)))))) rfl rfl rfl rfl rfl fun b4 ob4 => ?_
          refine St.load ob4 0 rfl rfl (.head _) rfl rfl ?_
          iterate 3 refine St.p rfl rfl ?_
          refine St.done ?_
          refine St.thenN ?_
          refine St.prune (Γ' := [(0, _), (2, _), (4, _), (8, _)]) ⟨rfl, rfl, rfl, rfl, trivial⟩ (.d (.k (.k (.k (.k (.k (.k (.k .z)))))))) ?_
          refine St.seq ?_
          refine St.region ?_
          iterate 4 refine St.p rfl rfl ?_
          refine St.done ?_
          refine St.thenN ?_
          refine St.prune (Γ' := [(0, _), (2, _), (4, _), (8, _), (74, _)]) ⟨rfl, rfl, rfl, rfl, rfl, trivial⟩ (.k (.k (.k (.k (.k (.k (.k .z))))))) ?_
          refine St.cond _ rfl (fun hb10 => ?_) (fun hb10 => ?_)
          ·replace hj2 := bif_t hb10 hj2
           refine St.seq ?_
           refine St.region ?_
           refine St.p rfl rfl ?_
           refine St.store 0 rfl rfl rfl rfl rfl rfl (.s (.s (.s (.s .z)))) rfl ?_
           refine St.p rfl rfl ?_
           refine St.done ?_
           refine St.thenN ?_
           refine St.prune (Γ' := [(2, _), (3, _)]) ⟨rfl, rfl, trivial⟩ (.k (.d (.d (.d (.d (.d (.k .z))))))) ?_
           refine St.ret ?_
           repeat (first | refine St.thenR ?_ | refine St.blkR ?_)
           refine St.asrt (fun _ w => w.nilSl (cod e_Field)) ?_
           refine St.asrt (fun _ w => w.nilSl (cod e_Field)) ?_
           refine St.asrt (fun _ w => w.nilSl (cod e_Field)) ?_
           refine St.asrt (fun _ w => w.nilSl (cod eu8)) ?_
           injection hj2 with hj2
           subst hj2
           have h : some _ = some _ := h
           injection h with h
           subst h
           exact St.finR Tryd.results27 (.cell rfl (.tail _ (.tail _ (.tail _ (.tail _ (.head _))))) rfl (.tmp rfl .nil)) rfl [.ro (SlL e_Field none 0 ([] : List T_Field)), .ro (SlL e_Field none 0 ([] : List T_Field)), .ro (SlL e_Field none 0 ([] : List T_Field)), .ro (SlL eu8 none 0 ([] : List Int))] ⟨none, 0, none, 0, none, 0, none, 0, rfl, rfl⟩ (fun _ w => ((.k (.k (.k (.k (.d (.d (.d (.d (.d (.d .z)))))))))) : Keep _ _).sat (Sat.dup (G := [.ro (SlL e_Field none 0 ([] : List T_Field)), .ro (SlL e_Field none 0 ([] : List T_Field)), .ro (SlL e_Field none 0 ([] : List T_Field)), .ro (SlL eu8 none 0 ([] : List Int))]) rfl ⟨(.tail _ (.head _)), (.tail _ (.head _)), (.tail _ (.head _)), (.head _), trivial⟩ w))
          ·replace hj2 := bif_f hb10 hj2
           refine St.seq ?_
           refine St.region ?_
           refine St.p rfl rfl ?_
           refine St.p rfl rfl ?_
           refine St.done ?_
           refine St.thenN ?_
           refine St.prune (Γ' := [(0, _), (2, _), (4, _), (8, _), (77, _)]) ⟨rfl, rfl, rfl, rfl, rfl, trivial⟩ (.k (.k (.k (.k (.k (.k (.k .z))))))) ?_
           refine St.cond _ rfl (fun hb11 => ?_) (fun hb11 => ?_)
           ·replace hj2 := bif_t hb11 hj2
            refine St.region ?_
            refine St.p rfl rfl ?_
            refine St.p rfl rfl ?_
            obtain ⟨l2, hl2, hj2⟩ := bnd_e hj2
            refine St.sub (E := (cod eu8)) rfl rfl (.tail _ (.tail _ (.tail _ (.tail _ (.tail _ (.head _)))))) rfl rfl rfl rfl rfl rfl rfl hl2 fun A7 c7 => ?_
            obtain ⟨r5, hr5, hj2⟩ := bnd_e hj2
            refine St.call (c_slices_Clone__byte_byte hr5) ent41 rfl rfl rfl (fun _ w => Sat.dup (G := [.ro (SlL eu8 A7 c7 l2)]) rfl ⟨(.head _), trivial⟩ w) ?_
            rintro _ _ ⟨A8, c8, rfl, rfl⟩
            refine St.asrt (F' := .res (OwnL eu8 5 A8 c8 r5) :: .ro (SlL eu8 A7 c7 l2) :: .res (Box g2 28 [.bool r2.1.Present, .int .u8 r2.1.Code, .int .u32 r2.1.Minutes, .slice A3 r2.1.Fields.length c3, .bool r3.1.Present, .int .u8 r3.1.Code, .int .u32 r3.1.Minutes, .slice A4 r3.1.Fields.length c4, .bool r4.1.Present, .int .u8 r4.1.Code, .int .u32 r4.1.Minutes, .slice A5 r4.1.Fields.length c5, .slice none 0 0]) :: .ro (SlL e_Field A5 c5 r4.1.Fields) :: .ro (SlL e_Field A4 c4 r3.1.Fields) :: .ro (SlL e_Field A3 c3 r2.1.Fields) :: .res (Box g1 28 [.bool false, .int .u8 0, .int .u32 0, .slice none 0 0, .bool false, .int .u8 0, .int .u32 0, .slice none 0 0, .bool false, .int .u8 0, .int .u32 0, .slice none 0 0, .slice none 0 0]) :: .ro (SlL eu8 A1 c1 b_p0) :: .ro (SlL ei64 (some ⟨0, 0, none⟩) 3 ([2, 5, 7] : List Int)) :: R) (fun _ w => w) ?_
            refine St.p rfl rfl ?_
            refine St.store 12 rfl rfl rfl rfl rfl rfl (.s (.s .z)) rfl ?_
            refine St.done ?_
            injection hj2 with hj2
            subst hj2
            refine St.thenN ?_
            exact St.hereI r5 (A8, c8) rfl ⟨rfl, rfl, trivial⟩ (fun _ w => ((.k (.k (.k (.k (.k (.k (.k (.d (.d .z))))))))) : Keep _ _).sat (((((((w.front (.s (.s (.s (.s (.s (.s (.s (.s .z))))))))).front (.s (.s (.s (.s (.s (.s (.s .z)))))))).front (.s (.s (.s (.s (.s (.s (.s .z)))))))).front (.s (.s (.s (.s (.s (.s (.s .z)))))))).front (.s (.s (.s (.s (.s (.s (.s .z)))))))).front (.s (.s (.s (.s (.s .z)))))).front (.s (.s (.s (.s (.s (.s .z))))))))
           ·replace hj2 := bif_f hb11 hj2
            refine St.skip ?_
            refine St.asrt (fun _ w => w.nilL eu8 5) ?_
            injection hj2 with hj2
            subst hj2
            refine St.thenN ?_
            exact St.hereI ([]) (none, 0) rfl ⟨rfl, rfl, trivial⟩ (fun _ w => ((.k (.k (.k (.k (.k (.k (.d (.k .z)))))))) : Keep _ _).sat w)
         ·rintro o3 ⟨A6, c6⟩ ho
          subst ho
          have h : _ = some _ := h
          refine St.seq ?_
          refine St.seq ?_
          refine St.region ?_
          refine St.loadB 0 rfl rfl (.tail _ (.head _)) rfl rfl ?_
          refine St.asrt (fun _ w => (w.front .z).meltL) ?_
          obtain ⟨r6, hr6, h⟩ := bnd_e h
          refine St.callV (c_unitinfo_Valid hr6) ent16 rfl rfl rfl rfl ⟨(.tail _ (.tail _ (.tail _ (.tail _ (.head _))))), (.tail _ (.tail _ (.tail _ (.head _)))), (.tail _ (.tail _ (.head _))), (.head _), (.tail _ (.tail _ (.tail _ (.tail _ (.tail _ (.tail _ (.head _))))))), trivial⟩ ?_
          refine St.p rfl rfl ?_
          refine St.done ?_
          refine St.thenN ?_
          refine St.prune (Γ' := [(2, _), (4, _), (85, _)]) ⟨rfl, rfl, rfl, trivial⟩ (.k (.k (.k (.k (.k (.k (.k .z))))))) ?_
          refine St.cond _ rfl (fun hb12 => ?_) (fun hb12 => ?_)
          ·replace h := bif_t hb12 h
           refine St.seq ?_
           refine St.region ?_
           refine St.p rfl rfl ?_
           refine St.store 0 rfl rfl rfl rfl rfl rfl (.s (.s (.s (.s (.s .z))))) rfl ?_
           refine St.p rfl rfl ?_
           refine St.done ?_
           refine St.thenN ?_
           refine St.prune (Γ' := [(2, _), (3, _)]) ⟨rfl, rfl, trivial⟩ (.k (.d (.d (.d (.d (.d (.k .z))))))) ?_
           refine St.ret ?_
           repeat (first | refine St.thenR ?_ | refine St.blkR ?_)
           refine St.asrt (fun _ w => w.nilSl (cod e_Field)) ?_
           refine St.asrt (fun _ w => w.nilSl (cod e_Field)) ?_
           refine St.asrt (fun _ w => w.nilSl (cod e_Field)) ?_
           refine St.asrt (fun _ w => w.nilSl (cod eu8)) ?_
           injection h with h
           subst h
           exact St.finR Tryd.results27 (.cell rfl (.tail _ (.tail _ (.tail _ (.tail _ (.head _))))) rfl (.tmp rfl .nil)) rfl [.ro (SlL e_Field none 0 ([] : List T_Field)), .ro (SlL e_Field none 0 ([] : List T_Field)), .ro (SlL e_Field none 0 ([] : List T_Field)), .ro (SlL eu8 none 0 ([] : List Int))] ⟨none, 0, none, 0, none, 0, none, 0, rfl, rfl⟩ (fun _ w => ((.k (.k (.k (.k (.d (.d (.d (.d (.d (.d .z)))))))))) : Keep _ _).sat (Sat.dup (G := [.ro (SlL e_Field none 0 ([] : List T_Field)), .ro (SlL e_Field none 0 ([] : List T_Field)), .ro (SlL e_Field none 0 ([] : List T_Field)), .ro (SlL eu8 none 0 ([] : List Int))]) rfl ⟨(.tail _ (.head _)), (.tail _ (.head _)), (.tail _ (.head _)), (.head _), trivial⟩ w))
          ·replace h := bif_f hb12 h
           refine St.skip ?_
           refine St.thenN ?_
           refine St.prune (Γ' := [(2, _), (4, _)]) ⟨rfl, rfl, trivial⟩ (.k (.k (.k (.k (.k (.k (.k .z))))))) ?_
           refine St.seq ?_
           refine St.region ?_
           refine St.loadB 0 rfl rfl (.tail _ (.head _)) rfl rfl ?_
           refine St.store 0 rfl rfl rfl rfl rfl rfl (.s (.s (.s (.s (.s .z))))) rfl ?_
           refine St.p rfl rfl ?_
           refine St.done ?_
           refine St.thenN ?_
           refine St.prune (Γ' := [(2, _), (3, _)]) ⟨rfl, rfl, trivial⟩ (.k (.k (.d (.k (.k (.k (.k .z))))))) ?_
           refine St.ret ?_
           repeat (first | refine St.thenR ?_ | refine St.blkR ?_)
           injection h with h
           subst h
           exact St.finR Tryd.results27 (.cell rfl (.head _) rfl (.tmp rfl .nil)) rfl [.ro (SlL e_Field A3 c3 r2.1.Fields), .ro (SlL e_Field A4 c4 r3.1.Fields), .ro (SlL e_Field A5 c5 r4.1.Fields), .ro (SlL eu8 A6 c6 o3)] ⟨A3, c3, A4, c4, A5, c5, A6, c6, rfl, rfl⟩ (fun _ w => ((.k (.k (.k (.k (.d (.d (.d (.d (.d (.d .z)))))))))) : Keep _ _).sat (Sat.dup (G := [.ro (SlL e_Field A3 c3 r2.1.Fields), .ro (SlL e_Field A4 c4 r3.1.Fields), .ro (SlL e_Field A5 c5 r4.1.Fields), .ro (SlL eu8 A6 c6 o3)]) rfl ⟨(.tail _ (.tail _ (.tail _ (.tail _ (.head _))))), (.tail _ (.tail _ (.tail _ (.head _)))), (.tail _ (.tail _ (.head _))), (.tail _ (.head _)), trivial⟩ w))

theorem ent61 : Ent Tryd.prog 61 := ⟨_, Tryd.func61, by kernel_rfl, by kernel_rfl⟩

noncomputable def m_ref01_Open8 (b_p0 : (List Int)) : Option ((List Int) × Int) :=
 bif ((b_p0.length : Int) == 0) then (some ([], 4)) else (bnd (m_ref01_Sum8 b_p0) fun r1 => bif (r1 != 0) then (some ([], 5)) else (bnd (sub b_p0 0 (IntKind.wrap .i64 ((b_p0.length : Int) - 1))) fun l1 => bnd (m_ref01_Copy l1) fun r2 => some (r2, 0)))

theorem c_ref01_Open8 {b_p0 : (List Int)} {A1 : Option Addr} {c1 : Nat} {r : ((List Int) × Int)} (h : m_ref01_Open8 b_p0 = some r) :
  Fun Tryd.prog 61 [.slice A1 b_p0.length c1] [.ro (SlL eu8 A1 c1 b_p0)] (fun v_ F_ => ∃ (A1 : Option Addr) (c1 : Nat), v_ = .tuple #[.slice A1 r.1.length c1, .int .i64 r.2] ∧ F_ = [.res (OwnL eu8 5 A1 c1 r.1)]) := by
 unfold m_ref01_Open8 at h
 refine Fun.intro Tryd.func61 rfl rfl rfl fun w R => ?_
 refine St.seq ?_
 refine St.region ?_
 refine St.p rfl rfl ?_
 refine St.p rfl rfl ?_
 refine St.done ?_
 refine St.thenN ?_
 refine St.prune (Γ' := [(0, _)]) ⟨rfl, trivial⟩ (.k .z) ?_
 refine St.seq ?_
 refine St.seq ?_
 refine St.region ?_
 iterate 3 refine St.p rfl rfl ?_
 refine St.done ?_
 refine St.thenN ?_
 refine St.prune (Γ' := [(0, _), (6, _)]) ⟨rfl, rfl, trivial⟩ (.k .z) ?_
 refine St.cond _ rfl (fun hb1 => ?_) (fun hb1 => ?_)
 ·replace h := bif_t hb1 h
  refine St.seq ?_
  refine St.region ?_
  refine St.p rfl rfl ?_
  refine St.p rfl rfl ?_
  refine St.done ?_
  refine St.thenN ?_
  refine St.prune (Γ' := [(2, _), (3, _)]) ⟨rfl, rfl, trivial⟩ (.d .z) ?_
  refine St.ret ?_
  repeat (first | refine St.thenR ?_ | refine St.blkR ?_)
  refine St.asrt (fun _ w => w.nilL eu8 5) ?_
  injection h with h
  subst h
  exact St.finR Tryd.results61 (.tmp rfl (.tmp rfl .nil)) rfl [.res (OwnL eu8 5 none 0 ([] : List Int))] ⟨none, 0, rfl, rfl⟩ (fun _ w => ((.k .z) : Keep _ _).sat w)
 ·replace h := bif_f hb1 h
  refine St.skip ?_
  refine St.thenN ?_
  refine St.prune (Γ' := [(0, _)]) ⟨rfl, trivial⟩ (.k .z) ?_
  refine St.seq ?_
  refine St.seq ?_
  refine St.region ?_
  refine St.p rfl rfl ?_
  obtain ⟨r1, hr1, h⟩ := bnd_e h
  refine St.callV (c_ref01_Sum8 hr1) ent30 rfl rfl rfl rfl ⟨(.head _), trivial⟩ ?_
  refine St.p rfl rfl ?_
  refine St.done ?_
  refine St.thenN ?_
  refine St.prune (Γ' := [(0, _), (9, _)]) ⟨rfl, rfl, trivial⟩ (.k .z) ?_
  refine St.cond _ rfl (fun hb2 => ?_) (fun hb2 => ?_)
  ·replace h := bif_t hb2 h
   refine St.seq ?_
   refine St.region ?_
   refine St.p rfl rfl ?_
   refine St.p rfl rfl ?_
   refine St.done ?_
   refine St.thenN ?_
   refine St.prune (Γ' := [(2, _), (3, _)]) ⟨rfl, rfl, trivial⟩ (.d .z) ?_
   refine St.ret ?_
   repeat (first | refine St.thenR ?_ | refine St.blkR ?_)
   refine St.asrt (fun _ w => w.nilL eu8 5) ?_
   injection h with h
   subst h
   exact St.finR Tryd.results61 (.tmp rfl (.tmp rfl .nil)) rfl [.res (OwnL eu8 5 none 0 ([] : List Int))] ⟨none, 0, rfl, rfl⟩ (fun _ w => ((.k .z) : Keep _ _).sat w)
  ·replace h := bif_f hb2 h
   refine St.skip ?_
   refine St.thenN ?_
   refine St.prune (Γ' := [(0, _)]) ⟨rfl, trivial⟩ (.k .z) ?_
   refine St.seq ?_
   refine St.region ?_
   iterate 4 refine St.p rfl rfl ?_
   obtain ⟨l1, hl1, h⟩ := bnd_e h
   refine St.sub (E := (cod eu8)) rfl rfl (.head _) rfl rfl rfl rfl rfl rfl rfl hl1 fun A2 c2 => ?_
   obtain ⟨r2, hr2, h⟩ := bnd_e h
   refine St.call (c_ref01_Copy hr2) ent43 rfl rfl rfl (fun _ w => Sat.dup (G := [.ro (SlL eu8 A2 c2 l1)]) rfl ⟨(.head _), trivial⟩ w) ?_
   rintro _ _ ⟨A3, c3, rfl, rfl⟩
   refine St.asrt (F' := .res (OwnL eu8 5 A3 c3 r2) :: .ro (SlL eu8 A2 c2 l1) :: .ro (SlL eu8 A1 c1 b_p0) :: R) (fun _ w => w) ?_
   refine St.p rfl rfl ?_
   refine St.p rfl rfl ?_
   refine St.done ?_
   refine St.thenN ?_
   refine St.prune (Γ' := [(2, _), (3, _)]) ⟨rfl, rfl, trivial⟩ (.k (.d (.d .z))) ?_
   refine St.ret ?_
   repeat (first | refine St.thenR ?_ | refine St.blkR ?_)
   injection h with h
   subst h
   exact St.finR Tryd.results61 (.tmp rfl (.tmp rfl .nil)) rfl [.res (OwnL eu8 5 A3 c3 r2)] ⟨A3, c3, rfl, rfl⟩ (fun _ w => ((.k .z) : Keep _ _).sat w)

theorem ent63 : Ent Tryd.prog 63 := ⟨_, Tryd.func63, by kernel_rfl, by kernel_rfl⟩

noncomputable def m_ref17_start (kind : Int) : Option Int :=
 bif (kind == 1) then (some 6) else (some 3)

theorem c_ref17_start {kind : Int} {r : Int} (h : m_ref17_start kind = some r) :
  Fun Tryd.prog 63 [.int .i64 kind] [] (Val (.int .i64 r)) := by
 unfold m_ref17_start at h
 refine Fun.intro Tryd.func63 rfl rfl rfl fun w R => ?_
 refine St.seq ?_
 refine St.region ?_
 refine St.p rfl rfl ?_
 refine St.done ?_
 refine St.thenN ?_
 refine St.prune (Γ' := [(0, _)]) ⟨rfl, trivial⟩ .z ?_
 refine St.seq ?_
 refine St.seq ?_
 refine St.region ?_
 refine St.p rfl rfl ?_
 refine St.p rfl rfl ?_
 refine St.done ?_
 refine St.thenN ?_
 refine St.prune (Γ' := [(4, _)]) ⟨rfl, trivial⟩ .z ?_
 refine St.cond _ rfl (fun hb1 => ?_) (fun hb1 => ?_)
 ·replace h := bif_t hb1 h
  refine St.seq ?_
  refine St.region ?_
  refine St.p rfl rfl ?_
  refine St.done ?_
  refine St.thenN ?_
  refine St.prune (Γ' := [(2, _)]) ⟨rfl, trivial⟩ .z ?_
  refine St.ret ?_
  repeat (first | refine St.thenR ?_ | refine St.blkR ?_)
  injection h with h
  subst h
  exact St.finR Tryd.results63 (.tmp rfl .nil) rfl [] ⟨rfl, rfl⟩ (fun _ w => (.z : Keep _ _).sat w)
 ·replace h := bif_f hb1 h
  refine St.skip ?_
  refine St.thenN ?_
  refine St.prune (Γ' := []) trivial .z ?_
  refine St.seq ?_
  refine St.region ?_
  refine St.p rfl rfl ?_
  refine St.done ?_
  refine St.thenN ?_
  refine St.ret ?_
  repeat (first | refine St.thenR ?_ | refine St.blkR ?_)
  injection h with h
  subst h
  exact St.finR Tryd.results63 (.tmp rfl .nil) rfl [] ⟨rfl, rfl⟩ (fun _ w => (.z : Keep _ _).sat w)

theorem ent77 : Ent Tryd.prog 77 := ⟨_, Tryd.func77, by kernel_rfl, by kernel_rfl⟩

noncomputable def m_ref02_Decode (b_p0 : (List Int)) : Option (T_Field × Int × Bool × Int) :=
 bif ((b_p0.length : Int) == 0) then (some ((⟨0, ⟨#[]⟩⟩ : T_Field), 0, false, 4)) else (bnd (elt b_p0 0) fun x1 => bif (x1 == 193) then (some ((⟨0, ⟨#[]⟩⟩ : T_Field), 1, true, 0)) else (bif decide ((b_p0.length : Int) < (IntKind.wrap .i64 (1 + ((IntKind.wrap .i64 x1).tmod 64)))) then (some ((⟨0, ⟨#[]⟩⟩ : T_Field), 0, false, 4)) else (bif ((IntKind.wrap .i64 ((IntKind.wrap .i64 x1).tdiv 64)) == 1) then (bnd (loopM (τ := (T_Field × Int × Bool × Int) ⊕ List Int) (fun (s1 : List Int × Int) => bif decide (s1.2 < ((IntKind.wrap .i64 x1).tmod 64)) then (bnd (elt b_p0 (IntKind.wrap .i64 (1 + s1.2))) fun x2 => bnd ((bif decide ((IntKind.wrap .i64 ((IntKind.wrap .i64 x2).tdiv 16)) ≥ 13) then (some true) else (some (decide (((IntKind.wrap .i64 x2).tmod 16) ≥ 13))) : Option Bool)) fun o3 => bif o3 then (some (.done (.inl ((⟨0, ⟨#[]⟩⟩ : T_Field), 0, false, 6)))) else (bnd (eltS (⟨#[48, 49, 50, 51, 52, 53, 54, 55, 56, 57, 32, 45, 46]⟩) (IntKind.wrap .i64 ((IntKind.wrap .i64 x2).tdiv 16))) fun y1 => bnd (eltS (⟨#[48, 49, 50, 51, 52, 53, 54, 55, 56, 57, 32, 45, 46]⟩) ((IntKind.wrap .i64 x2).tmod 16)) fun y2 => bnd (app 1 s1.1 [y1, y2]) fun l1 => some (.next (l1, IntKind.wrap .i64 (s1.2 + 1))))) else (some (.done (.inr s1.1)))) ([], 0)) fun o1 => retOr o1 fun o2 => some ((⟨IntKind.wrap .i64 ((IntKind.wrap .i64 x1).tdiv 64), strOf o2⟩ : T_Field), IntKind.wrap .i64 (1 + ((IntKind.wrap .i64 x1).tmod 64)), false, 0)) else (bif ((IntKind.wrap .i64 ((IntKind.wrap .i64 x1).tdiv 64)) == 2) then (bnd (loopM (τ := (T_Field × Int × Bool × Int) ⊕ List Int) (fun (s2 : List Int × Int) => bif decide (s2.2 < (IntKind.wrap .i64 (8 * ((IntKind.wrap .i64 x1).tmod 64)))) then (bnd (elt b_p0 (IntKind.wrap .i64 (1 + (IntKind.wrap .i64 (s2.2.tdiv 8))))) fun x3 => bnd (shrM .i64 (IntKind.wrap .i64 x3) (IntKind.wrap .u64 (s2.2.tmod 8))) fun q1 => bif decide (s2.2 ≥ (IntKind.wrap .i64 (6 * (IntKind.wrap .i64 ((IntKind.wrap .i64 (8 * ((IntKind.wrap .i64 x1).tmod 64))).tdiv 6))))) then (bif ((q1.tmod 2) != 0) then (some (.done (.inl ((⟨0, ⟨#[]⟩⟩ : T_Field), 0, false, 6)))) else (some (.next (s2.1, IntKind.wrap .i64 (s2.2 + 1))))) else (bnd ((bif ((s2.2.tmod 6) == 0) then (bnd (app 1 s2.1 [32]) fun l2 => some l2) else (some s2.1) : Option (List Int))) fun o6 => bnd (elt o6 (IntKind.wrap .i64 (s2.2.tdiv 6))) fun x4 => bnd (shlM .i64 (q1.tmod 2) (IntKind.wrap .u64 (s2.2.tmod 6))) fun q2 => bnd (setE o6 (IntKind.wrap .i64 (s2.2.tdiv 6)) (IntKind.wrap .u8 (x4 + (IntKind.wrap .u8 q2)))) fun l3 => some (.next (l3, IntKind.wrap .i64 (s2.2 + 1))))) else (some (.done (.inr s2.1)))) ([], 0)) fun o4 => retOr o4 fun o5 => some ((⟨IntKind.wrap .i64 ((IntKind.wrap .i64 x1).tdiv 64), strOf o5⟩ : T_Field), IntKind.wrap .i64 (1 + ((IntKind.wrap .i64 x1).tmod 64)), false, 0)) else (bnd (loopM (τ := List Int) (fun (s3 : List Int × Int) => bif decide (s3.2 < ((IntKind.wrap .i64 x1).tmod 64)) then (bnd (elt b_p0 (IntKind.wrap .i64 (1 + s3.2))) fun x5 => bnd (app 1 s3.1 [x5]) fun l4 => some (.next (l4, IntKind.wrap .i64 (s3.2 + 1)))) else (some (.done s3.1))) ([], 0)) fun o7 => some ((⟨IntKind.wrap .i64 ((IntKind.wrap .i64 x1).tdiv 64), strOf o7⟩ : T_Field), IntKind.wrap .i64 (1 + ((IntKind.wrap .i64 x1).tmod 64)), false, 0))))))

set_option maxHeartbeats 4000000 in
theorem c_ref02_Decode {b_p0 : (List Int)} {A1 : Option Addr} {c1 : Nat} {r : (T_Field × Int × Bool × Int)} (h : m_ref02_Decode b_p0 = some r) :
  Fun Tryd.prog 77 [.slice A1 b_p0.length c1] [.ro (SlL eu8 A1 c1 b_p0)] (Val (.tuple #[.agg #[.int .i64 r.1.Kind, .string r.1.Value], .int .i64 r.2.1, .bool r.2.2.1, .int .i64 r.2.2.2])) := by
 unfold m_ref02_Decode at h
 refine Fun.intro Tryd.func77 rfl rfl rfl fun w R => ?_
 refine St.seq ?_
 refine St.region ?_
 refine St.alloc rfl rfl fun g1 => ?_
 iterate 3 refine St.p rfl rfl ?_
 refine St.done ?_
 refine St.thenN ?_
 refine St.prune (Γ' := [(0, _), (2, _)]) ⟨rfl, rfl, trivial⟩ (.k (.k .z)) ?_
 refine St.seq ?_
 refine St.seq ?_
 refine St.region ?_
 iterate 3 refine St.p rfl rfl ?_
 refine St.done ?_
 refine St.thenN ?_
 refine St.prune (Γ' := [(0, _), (2, _), (19, _)]) ⟨rfl, rfl, rfl, trivial⟩ (.k (.k .z)) ?_
 refine St.cond _ rfl (fun hb1 => ?_) (fun hb1 => ?_)
 ·replace h := bif_t hb1 h
  refine St.seq ?_
  refine St.region ?_
  refine St.p rfl rfl ?_
  refine St.store 0 rfl rfl rfl rfl rfl rfl .z rfl ?_
  iterate 3 refine St.p rfl rfl ?_
  refine St.done ?_
  refine St.thenN ?_
  refine St.prune (Γ' := [(2, _), (3, _), (4, _), (5, _)]) ⟨rfl, rfl, rfl, rfl, trivial⟩ (.k (.d .z)) ?_
  refine St.ret ?_
  repeat (first | refine St.thenR ?_ | refine St.blkR ?_)
  injection h with h
  subst h
  exact St.finR Tryd.results77 (.cell rfl (.head _) rfl (.tmp rfl (.tmp rfl (.tmp rfl .nil)))) rfl [] ⟨rfl, rfl⟩ (fun _ w => ((.d .z) : Keep _ _).sat w)
 ·replace h := bif_f hb1 h
  refine St.skip ?_
  refine St.thenN ?_
  refine St.prune (Γ' := [(0, _), (2, _)]) ⟨rfl, rfl, trivial⟩ (.k (.k .z)) ?_
  refine St.seq ?_
  refine St.seq ?_
  refine St.region ?_
  refine St.p rfl rfl ?_
  obtain ⟨x1, hx1, h⟩ := bnd_e h
  refine St.ixL hx1 rfl rfl rfl (.tail _ (.head _)) rfl rfl rfl rfl rfl fun b1 ob1 => ?_
  refine St.load ob1 0 rfl rfl (.head _) rfl rfl ?_
  refine St.p rfl rfl ?_
  refine St.done ?_
  refine St.thenN ?_
  refine St.prune (Γ' := [(0, _), (2, _), (24, _)]) ⟨rfl, rfl, rfl, trivial⟩ (.d (.k (.k .z))) ?_
  refine St.cond _ rfl (fun hb2 => ?_) (fun hb2 => ?_)
  ·replace h := bif_t hb2 h
   refine St.seq ?_
   refine St.region ?_
   refine St.p rfl rfl ?_
   refine St.store 0 rfl rfl rfl rfl rfl rfl .z rfl ?_
   iterate 3 refine St.p rfl rfl ?_
   refine St.done ?_
   refine St.thenN ?_
   refine St.prune (Γ' := [(2, _), (3, _), (4, _), (5, _)]) ⟨rfl, rfl, rfl, rfl, trivial⟩ (.k (.d .z)) ?_
   refine St.ret ?_
   repeat (first | refine St.thenR ?_ | refine St.blkR ?_)
   injection h with h
   subst h
   exact St.finR Tryd.results77 (.cell rfl (.head _) rfl (.tmp rfl (.tmp rfl (.tmp rfl .nil)))) rfl [] ⟨rfl, rfl⟩ (fun _ w => ((.d .z) : Keep _ _).sat w)
  ·replace h := bif_f hb2 h
   refine St.skip ?_
   refine St.thenN ?_
   refine St.prune (Γ' := [(0, _), (2, _)]) ⟨rfl, rfl, trivial⟩ (.k (.k .z)) ?_
   refine St.seq ?_
   refine St.region ?_
   refine St.p rfl rfl ?_
   refine St.ixL hx1 rfl rfl rfl (.tail _ (.head _)) rfl rfl rfl rfl rfl fun b2 ob2 => ?_
   refine St.load ob2 0 rfl rfl (.head _) rfl rfl ?_
   iterate 3 refine St.p rfl rfl ?_
   refine St.done ?_
   refine St.thenN ?_
   refine St.prune (Γ' := [(0, _), (2, _), (6, _)]) ⟨rfl, rfl, rfl, trivial⟩ (.d (.k (.k .z))) ?_
   refine St.seq ?_
   refine St.region ?_
   refine St.p rfl rfl ?_
   refine St.ixL hx1 rfl rfl rfl (.tail _ (.head _)) rfl rfl rfl rfl rfl fun b3 ob3 => ?_
   refine St.load ob3 0 rfl rfl (.head _) rfl rfl ?_
   iterate 3 refine St.p rfl rfl ?_
   refine St.done ?_
   refine St.thenN ?_
   refine St.prune (Γ' := [(0, _), (2, _), (6, _), (7, _)]) ⟨rfl, rfl, rfl, rfl, trivial⟩ (.d (.k (.k .z))) ?_
   refine St.seq ?_
   refine St.seq ?_
   refine St.region ?_
   iterate 5 refine St.p rfl rfl ?_
   refine St.done ?_
   refine St.thenN ?_
   refine St.prune (Γ' := [(0, _), (2, _), (6, _), (7, _), (40, _)]) ⟨rfl, rfl, rfl, rfl, rfl, trivial⟩ (.k (.k .z)) ?_
   refine St.cond _ rfl (fun hb3 => ?_) (fun hb3 => ?_)
   ·replace h := bif_t hb3 h
    refine St.seq ?_
    refine St.region ?_
    refine St.p rfl rfl ?_
    refine St.store 0 rfl rfl rfl rfl rfl rfl .z rfl ?_
    iterate 3 refine St.p rfl rfl ?_
    refine St.done ?_
    refine St.thenN ?_
    refine St.prune (Γ' := [(2, _), (3, _), (4, _), (5, _)]) ⟨rfl, rfl, rfl, rfl, trivial⟩ (.k (.d .z)) ?_
    refine St.ret ?_
    repeat (first | refine St.thenR ?_ | refine St.blkR ?_)
    injection h with h
    subst h
    exact St.finR Tryd.results77 (.cell rfl (.head _) rfl (.tmp rfl (.tmp rfl (.tmp rfl .nil)))) rfl [] ⟨rfl, rfl⟩ (fun _ w => ((.d .z) : Keep _ _).sat w)
   ·replace h := bif_f hb3 h
    refine St.skip ?_
    refine St.thenN ?_
    refine St.prune (Γ' := [(0, _), (2, _), (6, _), (7, _)]) ⟨rfl, rfl, rfl, rfl, trivial⟩ (.k (.k .z)) ?_
    refine St.seq ?_
    refine St.region ?_
    refine St.p rfl rfl ?_
    refine St.done ?_
    refine St.thenN ?_
    refine St.seq ?_
    refine St.seq ?_
    refine St.region ?_
    refine St.p rfl rfl ?_
    refine St.done ?_
    refine St.thenN ?_
    refine St.block ?_
    refine St.seq ?_
    refine St.region ?_
    refine St.p rfl rfl ?_
    refine St.p rfl rfl ?_
    refine St.done ?_
    refine St.thenN ?_
    refine St.prune (Γ' := [(0, _), (2, _), (6, _), (7, _), (8, _), (42, _), (56, _)]) ⟨rfl, rfl, rfl, rfl, rfl, rfl, rfl, trivial⟩ (.k (.k .z)) ?_
    refine St.cond _ rfl (fun hb4 => ?_) (fun hb4 => ?_)
    ·replace h := bif_t hb4 h
     refine St.seq ?_
     refine St.region ?_
     refine St.p rfl rfl ?_
     refine St.done ?_
     refine St.thenN ?_
     refine St.prune (Γ' := [(0, _), (2, _), (6, _), (7, _), (8, _), (9, _)]) ⟨rfl, rfl, rfl, rfl, rfl, rfl, trivial⟩ (.k (.k .z)) ?_
     refine St.seq ?_
     refine St.region ?_
     refine St.p rfl rfl ?_
     refine St.done ?_
     refine St.thenN ?_
     refine St.asrt (fun _ w => w.nilL eu8 5) ?_
     obtain ⟨o1, hl1, h⟩ := bnd_e h
     refine St.selfThen ?_
     refine St.cutI (fun (o2 : List Int) (e2 : Option Addr × Nat) => [(2, .pointer (some ⟨g1, 0, none⟩)), (6, .int .i64 (IntKind.wrap .i64 ((IntKind.wrap .i64 x1).tdiv 64))), (7, .int .i64 ((IntKind.wrap .i64 x1).tmod 64)), (8, .slice e2.1 o2.length e2.2)]) (fun o2 e2 => .res (OwnL eu8 5 e2.1 e2.2 o2) :: .res (Box g1 60 [.int .i64 0, .string (⟨#[]⟩)]) :: R) (fun o2 => o1 = .inr o2) ?_ ?_
     ·refine St.block ?_
      refine St.loop hl1 (fun (s1 : List Int × Int) (e1 : Option Addr × Nat) => [(0, .slice A1 b_p0.length c1), (2, .pointer (some ⟨g1, 0, none⟩)), (6, .int .i64 (IntKind.wrap .i64 ((IntKind.wrap .i64 x1).tdiv 64))), (7, .int .i64 ((IntKind.wrap .i64 x1).tmod 64)), (8, .slice e1.1 s1.1.length e1.2), (9, .string (⟨#[48, 49, 50, 51, 52, 53, 54, 55, 56, 57, 32, 45, 46]⟩)), (10, .int .i64 s1.2)]) (fun s1 e1 => .res (OwnL eu8 5 e1.1 e1.2 s1.1) :: .res (Box g1 60 [.int .i64 0, .string (⟨#[]⟩)]) :: .ro (SlL eu8 A1 c1 b_p0) :: R) (fun _ _ => True) (none, 0) trivial ⟨rfl, rfl, rfl, rfl, rfl, rfl, rfl, trivial⟩ (fun _ w => ((.k (.k (.k .z))) : Keep _ _).sat w) ?_
      rintro s1 ⟨A2, c2⟩ - hit1
      obtain ⟨st1, hm1, hd1⟩ := iter_e hit1
      have h1 := hm1
      refine St.seq ?_
      refine St.seq ?_
      refine St.region ?_
      iterate 3 refine St.p rfl rfl ?_
      refine St.done ?_
      refine St.thenN ?_
      refine St.prune (Γ' := [(0, _), (2, _), (6, _), (7, _), (8, _), (9, _), (10, _), (60, _)]) ⟨rfl, rfl, rfl, rfl, rfl, rfl, rfl, rfl, trivial⟩ (.k (.k (.k .z))) ?_
      refine St.cond _ rfl (fun hb5 => ?_) (fun hb5 => ?_)
      ·replace h1 := bif_t hb5 h1
       refine St.skip ?_
       refine St.thenN ?_
       refine St.prune (Γ' := [(0, _), (2, _), (6, _), (7, _), (8, _), (9, _), (10, _)]) ⟨rfl, rfl, rfl, rfl, rfl, rfl, rfl, trivial⟩ (.k (.k (.k .z))) ?_
       refine St.seq ?_
       refine St.block ?_
       refine St.seq ?_
       refine St.region ?_
       iterate 3 refine St.p rfl rfl ?_
       obtain ⟨x2, hx2, h1⟩ := bnd_e h1
       refine St.ixL hx2 rfl rfl rfl (.tail _ (.tail _ (.head _))) rfl rfl rfl rfl rfl fun b4 ob4 => ?_
       refine St.load ob4 0 rfl rfl (.head _) rfl rfl ?_
       iterate 3 refine St.p rfl rfl ?_
       refine St.done ?_
       refine St.thenN ?_
       refine St.prune (Γ' := [(0, _), (2, _), (6, _), (7, _), (8, _), (9, _), (10, _), (11, _)]) ⟨rfl, rfl, rfl, rfl, rfl, rfl, rfl, rfl, trivial⟩ (.d (.k (.k (.k .z)))) ?_
       refine St.seq ?_
       refine St.region ?_
       iterate 3 refine St.p rfl rfl ?_
       refine St.ixL hx2 rfl rfl rfl (.tail _ (.tail _ (.head _))) rfl rfl rfl rfl rfl fun b5 ob5 => ?_
       refine St.load ob5 0 rfl rfl (.head _) rfl rfl ?_
       iterate 3 refine St.p rfl rfl ?_
       refine St.done ?_
       refine St.thenN ?_
       refine St.prune (Γ' := [(0, _), (2, _), (6, _), (7, _), (8, _), (9, _), (10, _), (11, _), (12, _)]) ⟨rfl, rfl, rfl, rfl, rfl, rfl, rfl, rfl, rfl, trivial⟩ (.d (.k (.k (.k .z)))) ?_
       refine St.seq ?_
       refine St.seq ?_
       obtain ⟨o3, hj1, h1⟩ := bnd_e h1
       refine St.cutE (fun (e3 : Unit) => [(0, .slice A1 b_p0.length c1), (2, .pointer (some ⟨g1, 0, none⟩)), (6, .int .i64 (IntKind.wrap .i64 ((IntKind.wrap .i64 x1).tdiv 64))), (7, .int .i64 ((IntKind.wrap .i64 x1).tmod 64)), (8, .slice A2 s1.1.length c2), (9, .string (⟨#[48, 49, 50, 51, 52, 53, 54, 55, 56, 57, 32, 45, 46]⟩)), (10, .int .i64 s1.2), (11, .int .i64 (IntKind.wrap .i64 ((IntKind.wrap .i64 x2).tdiv 16))), (12, .int .i64 ((IntKind.wrap .i64 x2).tmod 16)), (82, .bool o3)]) (fun e3 => .res (OwnL eu8 5 A2 c2 s1.1) :: .res (Box g1 60 [.int .i64 0, .string (⟨#[]⟩)]) :: .ro (SlL eu8 A1 c1 b_p0) :: R) ?_ ?_
       ·refine St.region ?_
        iterate 3 refine St.p rfl rfl ?_
        refine St.gSplit (dj := 79) _ rfl (fun hb6 => ?_) (fun hb6 => ?_)
        ·replace hj1 := bif_t hb6 hj1
         refine St.gOff (dj := 79) rfl rfl rfl rfl ?_
         refine St.gOff (dj := 79) rfl rfl rfl rfl ?_
         refine St.p rfl rfl ?_
         refine St.done ?_
         injection hj1 with hj1
         subst hj1
         refine St.thenN ?_
         exact St.hereE () ⟨rfl, rfl, rfl, rfl, rfl, rfl, rfl, rfl, rfl, rfl, trivial⟩ (fun _ w => ((.k (.k (.k .z))) : Keep _ _).sat w)
        ·replace hj1 := bif_f hb6 hj1
         refine St.gOn (dj := 79) rfl rfl ?_
         refine St.p rfl rfl ?_
         refine St.gOn (dj := 79) rfl rfl ?_
         refine St.p rfl rfl ?_
         refine St.p rfl rfl ?_
         refine St.done ?_
         injection hj1 with hj1
         subst hj1
         refine St.thenN ?_
         exact St.hereE () ⟨rfl, rfl, rfl, rfl, rfl, rfl, rfl, rfl, rfl, rfl, trivial⟩ (fun _ w => ((.k (.k (.k .z))) : Keep _ _).sat w)
       ·rintro e3
        refine St.cond _ rfl (fun hb7 => ?_) (fun hb7 => ?_)
        ·replace h1 := bif_t hb7 h1
         refine St.seq ?_
         refine St.region ?_
         refine St.p rfl rfl ?_
         refine St.store 0 rfl rfl rfl rfl rfl rfl (.s .z) rfl ?_
         iterate 3 refine St.p rfl rfl ?_
         refine St.done ?_
         refine St.thenN ?_
         refine St.prune (Γ' := [(2, _), (3, _), (4, _), (5, _)]) ⟨rfl, rfl, rfl, rfl, trivial⟩ (.k (.d (.d .z))) ?_
         refine St.ret ?_
         repeat (first | refine St.thenR ?_ | refine St.blkR ?_)
         injection h1 with h1
         subst h1
         have ho := hd1 _ rfl
         subst ho
         have h : some _ = some _ := h
         injection h with h
         subst h
         exact St.finR Tryd.results77 (.cell rfl (.head _) rfl (.tmp rfl (.tmp rfl (.tmp rfl .nil)))) rfl [] ⟨rfl, rfl⟩ (fun _ w => ((.d .z) : Keep _ _).sat w)
        ·replace h1 := bif_f hb7 h1
         refine St.skip ?_
         refine St.thenN ?_
         refine St.prune (Γ' := [(0, _), (2, _), (6, _), (7, _), (8, _), (9, _), (10, _), (11, _), (12, _)]) ⟨rfl, rfl, rfl, rfl, rfl, rfl, rfl, rfl, rfl, trivial⟩ (.k (.k (.k .z))) ?_
         refine St.regionX (iL [(.fl, 0), (.fl, 1), (.fl, 2), (.fx, 3), (.fl, 4), (.fl, 5), (.fx, 6), (.ef, 7), (.ef, 8), (.fl, 9)] .nil) (.res (Box g1 60 [.int .i64 0, .string (⟨#[]⟩)]) :: .ro (SlL eu8 A1 c1 b_p0) :: R) mixed (by kernel_rfl) (fun _ w => ((.d (.k (.k .z))) : Keep _ _).sat w) ?_
         refine St.xfl (fun _ h => h) (Rd.p rfl) rfl ?_
         refine St.xfl (fun _ h => h) (Rd.p rfl) rfl ?_
         refine St.xfl (fun _ h => h) (Rd.p rfl) rfl ?_
         obtain ⟨y1, hy1, h1⟩ := bnd_e h1
         refine St.xfx (Rd.eltS hy1 rfl rfl rfl rfl) rfl ?_
         refine St.xfl (fun _ h => h) (Rd.p rfl) rfl ?_
         refine St.xfl (fun _ h => h) (Rd.p rfl) rfl ?_
         obtain ⟨y2, hy2, h1⟩ := bnd_e h1
         refine St.xfx (Rd.eltS hy2 rfl rfl rfl rfl) rfl ?_
         refine St.xef ?_
         refine St.buildSlice rfl rfl rfl rfl rfl rfl rfl rfl fun g2 => ?_
         refine St.xk (fun _ w => ((.d (.d (.k (.k .z)))) : Keep _ _).sat w) ?_
         refine St.xef ?_
         obtain ⟨l1, hl1, h1⟩ := bnd_e h1
         refine St.app (E := eu8) hl1 rfl rfl rfl (.s .z) rfl rfl rfl rfl rfl rfl rfl rfl (srcB (.head _) rfl rfl) rfl rfl fun A4 c4 => ?_
         refine St.xk (fun _ w => ((.d (.d (.k (.k .z)))) : Keep _ _).sat w) ?_
         refine St.xfl (fun _ h => h) (Rd.p rfl) rfl ?_
         refine St.xdone ?_
         refine St.blkN ?_
         refine St.thenN ?_
         refine St.prune (Γ' := [(0, _), (2, _), (6, _), (7, _), (8, _), (9, _), (10, _)]) ⟨rfl, rfl, rfl, rfl, rfl, rfl, rfl, trivial⟩ (.k (.d (.k (.k .z)))) ?_
         refine St.region ?_
         iterate 3 refine St.p rfl rfl ?_
         refine St.done ?_
         injection h1 with h1
         subst h1
         refine St.thenN ?_
         exact St.again _ (A4, c4) hm1 trivial ⟨rfl, rfl, rfl, rfl, rfl, rfl, rfl, trivial⟩ (fun _ w => ((.k (.k (.k .z))) : Keep _ _).sat w)
      ·replace h1 := bif_f hb5 h1
       refine St.exit ?_
       repeat (first | refine St.thenX ?_ | refine St.blkMiss rfl ?_)
       refine St.blkHit ?_
       injection h1 with h1
       subst h1
       have ho := hd1 _ rfl
       subst ho
       refine St.thenN ?_
       exact St.hereI s1.1 (A2, c2) rfl ⟨rfl, rfl, rfl, rfl, trivial⟩ (fun _ w => ((.k (.k (.d .z))) : Keep _ _).sat w)
     ·rintro o2 ⟨A3, c3⟩ ho
      subst ho
      have h : _ = some _ := h
      refine St.blkN ?_
      refine St.thenN ?_
      refine St.seq ?_
      refine St.region ?_
      refine St.p rfl rfl ?_
      refine St.p rfl rfl ?_
      refine St.asrt (fun _ w => (w.front .z).meltL) ?_
      refine St.b2s rfl rfl rfl rfl rfl rfl rfl rfl rfl (srcL (E := eu8) (.head _)) ?_
      iterate 3 refine St.p rfl rfl ?_
      refine St.store 0 rfl rfl rfl rfl rfl rfl (.s .z) rfl ?_
      iterate 3 refine St.p rfl rfl ?_
      refine St.done ?_
      refine St.thenN ?_
      refine St.prune (Γ' := [(2, _), (3, _), (4, _), (5, _)]) ⟨rfl, rfl, rfl, rfl, trivial⟩ (.k (.d .z)) ?_
      refine St.ret ?_
      repeat (first | refine St.thenR ?_ | refine St.blkR ?_)
      injection h with h
      subst h
      exact St.finR Tryd.results77 (.cell rfl (.head _) rfl (.tmp rfl (.tmp rfl (.tmp rfl .nil)))) rfl [] ⟨rfl, rfl⟩ (fun _ w => ((.d .z) : Keep _ _).sat w)
    ·replace h := bif_f hb4 h
     refine St.seq ?_
     refine St.region ?_
     refine St.p rfl rfl ?_
     refine St.p rfl rfl ?_
     refine St.done ?_
     refine St.thenN ?_
     refine St.prune (Γ' := [(0, _), (2, _), (6, _), (7, _), (8, _), (93, _)]) ⟨rfl, rfl, rfl, rfl, rfl, rfl, trivial⟩ (.k (.k .z)) ?_
     refine St.cond _ rfl (fun hb8 => ?_) (fun hb8 => ?_)
     ·replace h := bif_t hb8 h
      refine St.seq ?_
      refine St.region ?_
      iterate 4 refine St.p rfl rfl ?_
      refine St.done ?_
      refine St.thenN ?_
      refine St.prune (Γ' := [(0, _), (2, _), (6, _), (7, _), (8, _), (13, _)]) ⟨rfl, rfl, rfl, rfl, rfl, rfl, trivial⟩ (.k (.k .z)) ?_
      refine St.seq ?_
      refine St.region ?_
      refine St.p rfl rfl ?_
      refine St.done ?_
      refine St.thenN ?_
      refine St.asrt (fun _ w => w.nilL eu8 5) ?_
      obtain ⟨o4, hl2, h⟩ := bnd_e h
      refine St.selfThen ?_
      refine St.cutI (fun (o5 : List Int) (e5 : Option Addr × Nat) => [(2, .pointer (some ⟨g1, 0, none⟩)), (6, .int .i64 (IntKind.wrap .i64 ((IntKind.wrap .i64 x1).tdiv 64))), (7, .int .i64 ((IntKind.wrap .i64 x1).tmod 64)), (8, .slice e5.1 o5.length e5.2)]) (fun o5 e5 => .res (OwnL eu8 5 e5.1 e5.2 o5) :: .res (Box g1 60 [.int .i64 0, .string (⟨#[]⟩)]) :: R) (fun o5 => o4 = .inr o5) ?_ ?_
      ·refine St.block ?_
       refine St.loop hl2 (fun (s2 : List Int × Int) (e4 : Option Addr × Nat) => [(0, .slice A1 b_p0.length c1), (2, .pointer (some ⟨g1, 0, none⟩)), (6, .int .i64 (IntKind.wrap .i64 ((IntKind.wrap .i64 x1).tdiv 64))), (7, .int .i64 ((IntKind.wrap .i64 x1).tmod 64)), (8, .slice e4.1 s2.1.length e4.2), (13, .int .i64 (IntKind.wrap .i64 ((IntKind.wrap .i64 (8 * ((IntKind.wrap .i64 x1).tmod 64))).tdiv 6))), (14, .int .i64 s2.2)]) (fun s2 e4 => .res (OwnL eu8 5 e4.1 e4.2 s2.1) :: .res (Box g1 60 [.int .i64 0, .string (⟨#[]⟩)]) :: .ro (SlL eu8 A1 c1 b_p0) :: R) (fun _ _ => True) (none, 0) trivial ⟨rfl, rfl, rfl, rfl, rfl, rfl, rfl, trivial⟩ (fun _ w => ((.k (.k (.k .z))) : Keep _ _).sat w) ?_
       rintro s2 ⟨A5, c5⟩ - hit2
       obtain ⟨st2, hm2, hd2⟩ := iter_e hit2
       have h2 := hm2
       refine St.seq ?_
       refine St.seq ?_
       refine St.region ?_
       iterate 4 refine St.p rfl rfl ?_
       refine St.done ?_
       refine St.thenN ?_
       refine St.prune (Γ' := [(0, _), (2, _), (6, _), (7, _), (8, _), (13, _), (14, _), (101, _)]) ⟨rfl, rfl, rfl, rfl, rfl, rfl, rfl, rfl, trivial⟩ (.k (.k (.k .z))) ?_
       refine St.cond _ rfl (fun hb9 => ?_) (fun hb9 => ?_)
       ·replace h2 := bif_t hb9 h2
        refine St.skip ?_
        refine St.thenN ?_
        refine St.prune (Γ' := [(0, _), (2, _), (6, _), (7, _), (8, _), (13, _), (14, _)]) ⟨rfl, rfl, rfl, rfl, rfl, rfl, rfl, trivial⟩ (.k (.k (.k .z))) ?_
        refine St.seq ?_
        refine St.block ?_
        refine St.seq ?_
        refine St.region ?_
        iterate 4 refine St.p rfl rfl ?_
        obtain ⟨x3, hx3, h2⟩ := bnd_e h2
        refine St.ixL hx3 rfl rfl rfl (.tail _ (.tail _ (.head _))) rfl rfl rfl rfl rfl fun b6 ob6 => ?_
        refine St.load ob6 0 rfl rfl (.head _) rfl rfl ?_
        iterate 4 refine St.p rfl rfl ?_
        obtain ⟨q1, hq1, h2⟩ := bnd_e h2
        refine St.shr rfl rfl rfl hq1 ?_
        refine St.p rfl rfl ?_
        refine St.p rfl rfl ?_
        refine St.done ?_
        refine St.thenN ?_
        refine St.prune (Γ' := [(0, _), (2, _), (6, _), (7, _), (8, _), (13, _), (14, _), (15, _)]) ⟨rfl, rfl, rfl, rfl, rfl, rfl, rfl, rfl, trivial⟩ (.d (.k (.k (.k .z)))) ?_
        refine St.seq ?_
        refine St.seq ?_
        refine St.region ?_
        iterate 4 refine St.p rfl rfl ?_
        refine St.done ?_
        refine St.thenN ?_
        refine St.prune (Γ' := [(0, _), (2, _), (6, _), (7, _), (8, _), (13, _), (14, _), (15, _), (119, _)]) ⟨rfl, rfl, rfl, rfl, rfl, rfl, rfl, rfl, rfl, trivial⟩ (.k (.k (.k .z))) ?_
        refine St.cond _ rfl (fun hb10 => ?_) (fun hb10 => ?_)
        ·replace h2 := bif_t hb10 h2
         refine St.seq ?_
         refine St.seq ?_
         refine St.region ?_
         refine St.p rfl rfl ?_
         refine St.p rfl rfl ?_
         refine St.done ?_
         refine St.thenN ?_
         refine St.prune (Γ' := [(0, _), (2, _), (6, _), (7, _), (8, _), (13, _), (14, _), (121, _)]) ⟨rfl, rfl, rfl, rfl, rfl, rfl, rfl, rfl, trivial⟩ (.k (.k (.k .z))) ?_
         refine St.cond _ rfl (fun hb11 => ?_) (fun hb11 => ?_)
         ·replace h2 := bif_t hb11 h2
          refine St.seq ?_
          refine St.region ?_
          refine St.p rfl rfl ?_
          refine St.store 0 rfl rfl rfl rfl rfl rfl (.s .z) rfl ?_
          iterate 3 refine St.p rfl rfl ?_
          refine St.done ?_
          refine St.thenN ?_
          refine St.prune (Γ' := [(2, _), (3, _), (4, _), (5, _)]) ⟨rfl, rfl, rfl, rfl, trivial⟩ (.k (.d (.d .z))) ?_
          refine St.ret ?_
          repeat (first | refine St.thenR ?_ | refine St.blkR ?_)
          injection h2 with h2
          subst h2
          have ho := hd2 _ rfl
          subst ho
          have h : some _ = some _ := h
          injection h with h
          subst h
          exact St.finR Tryd.results77 (.cell rfl (.head _) rfl (.tmp rfl (.tmp rfl (.tmp rfl .nil)))) rfl [] ⟨rfl, rfl⟩ (fun _ w => ((.d .z) : Keep _ _).sat w)
         ·replace h2 := bif_f hb11 h2
          refine St.skip ?_
          refine St.thenN ?_
          refine St.prune (Γ' := [(0, _), (2, _), (6, _), (7, _), (8, _), (13, _), (14, _)]) ⟨rfl, rfl, rfl, rfl, rfl, rfl, rfl, trivial⟩ (.k (.k (.k .z))) ?_
          refine St.exit ?_
          repeat (first | refine St.thenX ?_ | refine St.blkMiss rfl ?_)
          refine St.blkHit ?_
          refine St.thenN ?_
          refine St.region ?_
          iterate 3 refine St.p rfl rfl ?_
          refine St.done ?_
          injection h2 with h2
          subst h2
          refine St.thenN ?_
          exact St.again _ (A5, c5) hm2 trivial ⟨rfl, rfl, rfl, rfl, rfl, rfl, rfl, trivial⟩ (fun _ w => ((.k (.k (.k .z))) : Keep _ _).sat w)
        ·replace h2 := bif_f hb10 h2
         refine St.skip ?_
         refine St.thenN ?_
         refine St.prune (Γ' := [(0, _), (2, _), (6, _), (7, _), (8, _), (13, _), (14, _), (15, _)]) ⟨rfl, rfl, rfl, rfl, rfl, rfl, rfl, rfl, trivial⟩ (.k (.k (.k .z))) ?_
         refine St.seq ?_
         obtain ⟨o6, hj2, h2⟩ := bnd_e h2
         refine St.cutE (fun (e6 : Option Addr × Nat) => [(0, .slice A1 b_p0.length c1), (2, .pointer (some ⟨g1, 0, none⟩)), (6, .int .i64 (IntKind.wrap .i64 ((IntKind.wrap .i64 x1).tdiv 64))), (7, .int .i64 ((IntKind.wrap .i64 x1).tmod 64)), (8, .slice e6.1 o6.length e6.2), (13, .int .i64 (IntKind.wrap .i64 ((IntKind.wrap .i64 (8 * ((IntKind.wrap .i64 x1).tmod 64))).tdiv 6))), (14, .int .i64 s2.2), (15, .int .i64 (q1.tmod 2))]) (fun e6 => .res (OwnL eu8 5 e6.1 e6.2 o6) :: .res (Box g1 60 [.int .i64 0, .string (⟨#[]⟩)]) :: .ro (SlL eu8 A1 c1 b_p0) :: R) ?_ ?_
         ·refine St.seq ?_
          refine St.region ?_
          iterate 3 refine St.p rfl rfl ?_
          refine St.done ?_
          refine St.thenN ?_
          refine St.prune (Γ' := [(0, _), (2, _), (6, _), (7, _), (8, _), (13, _), (14, _), (15, _), (125, _)]) ⟨rfl, rfl, rfl, rfl, rfl, rfl, rfl, rfl, rfl, trivial⟩ (.k (.k (.k .z))) ?_
          refine St.cond _ rfl (fun hb12 => ?_) (fun hb12 => ?_)
          ·replace hj2 := bif_t hb12 hj2
           refine St.region ?_
           refine St.p rfl rfl ?_
           refine St.buildSlice rfl rfl rfl rfl rfl rfl rfl rfl fun g3 => ?_
           obtain ⟨l2, hl2, hj2⟩ := bnd_e hj2
           refine St.app (E := eu8) hl2 rfl rfl rfl (.s .z) rfl rfl rfl rfl rfl rfl rfl rfl (srcB (.head _) rfl rfl) rfl rfl fun A8 c8 => ?_
           refine St.p rfl rfl ?_
           refine St.done ?_
           injection hj2 with hj2
           subst hj2
           refine St.thenN ?_
           exact St.hereE (A8, c8) ⟨rfl, rfl, rfl, rfl, rfl, rfl, rfl, rfl, trivial⟩ (fun _ w => ((.k (.d (.k (.k .z)))) : Keep _ _).sat w)
          ·replace hj2 := bif_f hb12 hj2
           refine St.skip ?_
           injection hj2 with hj2
           subst hj2
           refine St.thenN ?_
           exact St.hereE (A5, c5) ⟨rfl, rfl, rfl, rfl, rfl, rfl, rfl, rfl, trivial⟩ (fun _ w => ((.k (.k (.k .z))) : Keep _ _).sat w)
         ·rintro ⟨A7, c7⟩
          refine St.region ?_
          iterate 3 refine St.p rfl rfl ?_
          obtain ⟨x4, hx4, h2⟩ := bnd_e h2
          refine St.ixO hx4 rfl rfl rfl (.head _) rfl rfl rfl rfl rfl fun g4 hA => ?_
          subst hA
          refine St.ldO 0 hx4 rfl rfl (.head _) rfl rfl ?_
          iterate 4 refine St.p rfl rfl ?_
          obtain ⟨q2, hq2, h2⟩ := bnd_e h2
          refine St.shl rfl rfl rfl hq2 ?_
          refine St.p rfl rfl ?_
          refine St.p rfl rfl ?_
          refine St.ixO hx4 rfl rfl rfl (.head _) rfl rfl rfl rfl rfl fun g5 hA => ?_
          cases hA
          obtain ⟨l3, hl3, h2⟩ := bnd_e h2
          refine St.stO 0 hx4 hl3 rfl rfl .z rfl rfl rfl rfl rfl ?_
          refine St.slots (Γ' := [(0, _), (2, _), (6, _), (7, _), (8, .slice (some ⟨g4, 0, none⟩) l3.length c7), (13, _), (14, _), (15, _), (129, .slice (some ⟨g4, 0, none⟩) l3.length c7), (130, _), (131, _), (132, _), (133, _), (134, _), (135, _), (136, _), (137, _), (138, _), (139, _), (140, _), (141, _)]) ⟨rfl, rfl, rfl, rfl, sl_len hl3, rfl, rfl, rfl, sl_len hl3, rfl, rfl, rfl, rfl, rfl, rfl, rfl, rfl, rfl, rfl, rfl, rfl, trivial⟩ ?_
          refine St.done ?_
          refine St.blkN ?_
          refine St.thenN ?_
          refine St.prune (Γ' := [(0, _), (2, _), (6, _), (7, _), (8, _), (13, _), (14, _)]) ⟨rfl, rfl, rfl, rfl, rfl, rfl, rfl, trivial⟩ (.k (.k (.k .z))) ?_
          refine St.region ?_
          iterate 3 refine St.p rfl rfl ?_
          refine St.done ?_
          injection h2 with h2
          subst h2
          refine St.thenN ?_
          exact St.again _ ((some ⟨g4, 0, none⟩), c7) hm2 trivial ⟨rfl, rfl, rfl, rfl, rfl, rfl, rfl, trivial⟩ (fun _ w => ((.k (.k (.k .z))) : Keep _ _).sat w)
       ·replace h2 := bif_f hb9 h2
        refine St.exit ?_
        repeat (first | refine St.thenX ?_ | refine St.blkMiss rfl ?_)
        refine St.blkHit ?_
        injection h2 with h2
        subst h2
        have ho := hd2 _ rfl
        subst ho
        refine St.thenN ?_
        exact St.hereI s2.1 (A5, c5) rfl ⟨rfl, rfl, rfl, rfl, trivial⟩ (fun _ w => ((.k (.k (.d .z))) : Keep _ _).sat w)
      ·rintro o5 ⟨A6, c6⟩ ho
       subst ho
       have h : _ = some _ := h
       refine St.blkN ?_
       refine St.thenN ?_
       refine St.seq ?_
       refine St.region ?_
       refine St.p rfl rfl ?_
       refine St.p rfl rfl ?_
       refine St.asrt (fun _ w => (w.front .z).meltL) ?_
       refine St.b2s rfl rfl rfl rfl rfl rfl rfl rfl rfl (srcL (E := eu8) (.head _)) ?_
       iterate 3 refine St.p rfl rfl ?_
       refine St.store 0 rfl rfl rfl rfl rfl rfl (.s .z) rfl ?_
       iterate 3 refine St.p rfl rfl ?_
       refine St.done ?_
       refine St.thenN ?_
       refine St.prune (Γ' := [(2, _), (3, _), (4, _), (5, _)]) ⟨rfl, rfl, rfl, rfl, trivial⟩ (.k (.d .z)) ?_
       refine St.ret ?_
       repeat (first | refine St.thenR ?_ | refine St.blkR ?_)
       injection h with h
       subst h
       exact St.finR Tryd.results77 (.cell rfl (.head _) rfl (.tmp rfl (.tmp rfl (.tmp rfl .nil)))) rfl [] ⟨rfl, rfl⟩ (fun _ w => ((.d .z) : Keep _ _).sat w)
     ·replace h := bif_f hb8 h
      refine St.seq ?_
      refine St.region ?_
      refine St.p rfl rfl ?_
      refine St.done ?_
      refine St.thenN ?_
      refine St.prune (Γ' := [(0, _), (2, _), (6, _), (7, _), (8, _), (16, _)]) ⟨rfl, rfl, rfl, rfl, rfl, rfl, trivial⟩ (.k (.k .z)) ?_
      refine St.asrt (fun _ w => w.nilL eu8 5) ?_
      obtain ⟨o7, hl3, h⟩ := bnd_e h
      refine St.selfThen ?_
      refine St.cutE (fun (e8 : Option Addr × Nat) => [(2, .pointer (some ⟨g1, 0, none⟩)), (6, .int .i64 (IntKind.wrap .i64 ((IntKind.wrap .i64 x1).tdiv 64))), (7, .int .i64 ((IntKind.wrap .i64 x1).tmod 64)), (8, .slice e8.1 o7.length e8.2)]) (fun e8 => .res (OwnL eu8 5 e8.1 e8.2 o7) :: .res (Box g1 60 [.int .i64 0, .string (⟨#[]⟩)]) :: R) ?_ ?_
      ·refine St.block ?_
       refine St.loop hl3 (fun (s3 : List Int × Int) (e7 : Option Addr × Nat) => [(0, .slice A1 b_p0.length c1), (2, .pointer (some ⟨g1, 0, none⟩)), (6, .int .i64 (IntKind.wrap .i64 ((IntKind.wrap .i64 x1).tdiv 64))), (7, .int .i64 ((IntKind.wrap .i64 x1).tmod 64)), (8, .slice e7.1 s3.1.length e7.2), (16, .int .i64 s3.2)]) (fun s3 e7 => .res (OwnL eu8 5 e7.1 e7.2 s3.1) :: .res (Box g1 60 [.int .i64 0, .string (⟨#[]⟩)]) :: .ro (SlL eu8 A1 c1 b_p0) :: R) (fun _ _ => True) (none, 0) trivial ⟨rfl, rfl, rfl, rfl, rfl, rfl, trivial⟩ (fun _ w => ((.k (.k (.k .z))) : Keep _ _).sat w) ?_
       rintro s3 ⟨A9, c9⟩ - hit3
       obtain ⟨st3, hm3, hd3⟩ := iter_e hit3
       have h3 := hm3
       refine St.seq ?_
       refine St.seq ?_
       refine St.region ?_
       iterate 3 refine St.p rfl rfl ?_
       refine St.done ?_
       refine St.thenN ?_
       refine St.prune (Γ' := [(0, _), (2, _), (6, _), (7, _), (8, _), (16, _), (45, _)]) ⟨rfl, rfl, rfl, rfl, rfl, rfl, rfl, trivial⟩ (.k (.k (.k .z))) ?_
       refine St.cond _ rfl (fun hb13 => ?_) (fun hb13 => ?_)
       ·replace h3 := bif_t hb13 h3
        refine St.skip ?_
        refine St.thenN ?_
        refine St.prune (Γ' := [(0, _), (2, _), (6, _), (7, _), (8, _), (16, _)]) ⟨rfl, rfl, rfl, rfl, rfl, rfl, trivial⟩ (.k (.k (.k .z))) ?_
        refine St.seq ?_
        refine St.block ?_
        refine St.region ?_
        iterate 4 refine St.p rfl rfl ?_
        obtain ⟨x5, hx5, h3⟩ := bnd_e h3
        refine St.ixL hx5 rfl rfl rfl (.tail _ (.tail _ (.head _))) rfl rfl rfl rfl rfl fun b7 ob7 => ?_
        refine St.load ob7 0 rfl rfl (.head _) rfl rfl ?_
        refine St.buildSlice rfl rfl rfl rfl rfl rfl rfl rfl fun g6 => ?_
        obtain ⟨l4, hl4, h3⟩ := bnd_e h3
        refine St.app (E := eu8) hl4 rfl rfl rfl (.s (.s .z)) rfl rfl rfl rfl rfl rfl rfl rfl (srcB (.head _) rfl rfl) rfl rfl fun A11 c11 => ?_
        refine St.p rfl rfl ?_
        refine St.done ?_
        refine St.blkN ?_
        refine St.thenN ?_
        refine St.prune (Γ' := [(0, _), (2, _), (6, _), (7, _), (8, _), (16, _)]) ⟨rfl, rfl, rfl, rfl, rfl, rfl, trivial⟩ (.k (.d (.d (.k (.k .z))))) ?_
        refine St.region ?_
        iterate 3 refine St.p rfl rfl ?_
        refine St.done ?_
        injection h3 with h3
        subst h3
        refine St.thenN ?_
        exact St.again _ (A11, c11) hm3 trivial ⟨rfl, rfl, rfl, rfl, rfl, rfl, trivial⟩ (fun _ w => ((.k (.k (.k .z))) : Keep _ _).sat w)
       ·replace h3 := bif_f hb13 h3
        refine St.exit ?_
        repeat (first | refine St.thenX ?_ | refine St.blkMiss rfl ?_)
        refine St.blkHit ?_
        injection h3 with h3
        subst h3
        have ho := hd3 _ rfl
        subst ho
        refine St.thenN ?_
        exact St.hereE (A9, c9) ⟨rfl, rfl, rfl, rfl, trivial⟩ (fun _ w => ((.k (.k (.d .z))) : Keep _ _).sat w)
      ·rintro ⟨A10, c10⟩
       refine St.blkN ?_
       refine St.thenN ?_
       refine St.seq ?_
       refine St.region ?_
       refine St.p rfl rfl ?_
       refine St.p rfl rfl ?_
       refine St.asrt (fun _ w => (w.front .z).meltL) ?_
       refine St.b2s rfl rfl rfl rfl rfl rfl rfl rfl rfl (srcL (E := eu8) (.head _)) ?_
       iterate 3 refine St.p rfl rfl ?_
       refine St.store 0 rfl rfl rfl rfl rfl rfl (.s .z) rfl ?_
       iterate 3 refine St.p rfl rfl ?_
       refine St.done ?_
       refine St.thenN ?_
       refine St.prune (Γ' := [(2, _), (3, _), (4, _), (5, _)]) ⟨rfl, rfl, rfl, rfl, trivial⟩ (.k (.d .z)) ?_
       refine St.ret ?_
       repeat (first | refine St.thenR ?_ | refine St.blkR ?_)
       injection h with h
       subst h
       exact St.finR Tryd.results77 (.cell rfl (.head _) rfl (.tmp rfl (.tmp rfl (.tmp rfl .nil)))) rfl [] ⟨rfl, rfl⟩ (fun _ w => ((.d .z) : Keep _ _).sat w)

theorem ent62 : Ent Tryd.prog 62 := ⟨_, Tryd.func62, by kernel_rfl, by kernel_rfl⟩

noncomputable def m_ref02_DecodeList (b_p0 : (List Int)) : Option ((List T_Field) × Int × Int) :=
 bnd (loopM (τ := ((List T_Field) × Int × Int) ⊕ Unit) (fun (s1 : List T_Field × Int) => bnd (sub b_p0 s1.2 (b_p0.length : Int)) fun l1 => bnd (m_ref02_Decode l1) fun r1 => bif (r1.2.2.2 != 0) then (some (.done (.inl ([], 0, r1.2.2.2)))) else (bif r1.2.2.1 then (some (.done (.inl (s1.1, IntKind.wrap .i64 (s1.2 + r1.2.1), 0)))) else (bif ((s1.1.length : Int) == 16) then (some (.done (.inl ([], 0, 3)))) else (bnd (app 24 s1.1 [r1.1]) fun l2 => some (.next (l2, IntKind.wrap .i64 (s1.2 + r1.2.1))))))) ([], 0)) fun o1 => retOr o1 fun o2 => none

theorem c_ref02_DecodeList {b_p0 : (List Int)} {A1 : Option Addr} {c1 : Nat} {r : ((List T_Field) × Int × Int)} (h : m_ref02_DecodeList b_p0 = some r) :
  Fun Tryd.prog 62 [.slice A1 b_p0.length c1] [.ro (SlL eu8 A1 c1 b_p0)] (fun v_ F_ => ∃ (A1 : Option Addr) (c1 : Nat), v_ = .tuple #[.slice A1 r.1.length c1, .int .i64 r.2.1, .int .i64 r.2.2] ∧ F_ = [.res (OwnL e_Field 60 A1 c1 r.1)]) := by
 unfold m_ref02_DecodeList at h
 refine Fun.intro Tryd.func62 rfl rfl rfl fun w R => ?_
 refine St.seq ?_
 refine St.region ?_
 iterate 3 refine St.p rfl rfl ?_
 refine St.done ?_
 refine St.thenN ?_
 refine St.prune (Γ' := [(0, _)]) ⟨rfl, trivial⟩ (.k .z) ?_
 refine St.seq ?_
 refine St.region ?_
 refine St.p rfl rfl ?_
 refine St.done ?_
 refine St.thenN ?_
 refine St.seq ?_
 refine St.region ?_
 refine St.p rfl rfl ?_
 refine St.done ?_
 refine St.thenN ?_
 refine St.asrt (fun _ w => w.nilL e_Field 60) ?_
 obtain ⟨o1, hl1, h⟩ := bnd_e h
 refine St.selfThen ?_
 refine St.cutI (fun (o2 : Unit) (e2 : Unit) => []) (fun o2 e2 => R) (fun o2 => o1 = .inr o2) ?_ ?_
 ·refine St.block ?_
  refine St.loop hl1 (fun (s1 : List T_Field × Int) (e1 : Option Addr × Nat) => [(0, .slice A1 b_p0.length c1), (5, .slice e1.1 s1.1.length e1.2), (6, .int .i64 s1.2)]) (fun s1 e1 => .res (OwnL e_Field 60 e1.1 e1.2 s1.1) :: .ro (SlL eu8 A1 c1 b_p0) :: R) (fun _ _ => True) (none, 0) trivial ⟨rfl, rfl, rfl, trivial⟩ (fun _ w => ((.k (.k .z)) : Keep _ _).sat w) ?_
  rintro s1 ⟨A2, c2⟩ - hit1
  obtain ⟨st1, hm1, hd1⟩ := iter_e hit1
  have h1 := hm1
  refine St.block ?_
  refine St.seq ?_
  refine St.region ?_
  refine St.p rfl rfl ?_
  refine St.p rfl rfl ?_
  obtain ⟨l1, hl1, h1⟩ := bnd_e h1
  refine St.sub (E := (cod eu8)) rfl rfl (.tail _ (.head _)) rfl rfl rfl rfl rfl rfl rfl hl1 fun A3 c3 => ?_
  obtain ⟨r1, hr1, h1⟩ := bnd_e h1
  refine St.callV (c_ref02_Decode hr1) ent77 rfl rfl rfl rfl ⟨(.head _), trivial⟩ ?_
  iterate 5 refine St.p rfl rfl ?_
  refine St.alloc rfl rfl fun g1 => ?_
  refine St.store 0 rfl rfl rfl rfl rfl rfl .z rfl ?_
  iterate 3 refine St.p rfl rfl ?_
  refine St.done ?_
  refine St.thenN ?_
  refine St.prune (Γ' := [(0, _), (5, _), (6, _), (7, _), (8, _), (9, _), (10, _)]) ⟨rfl, rfl, rfl, rfl, rfl, rfl, rfl, trivial⟩ (.k (.d (.k (.k .z)))) ?_
  refine St.seq ?_
  refine St.seq ?_
  refine St.region ?_
  refine St.p rfl rfl ?_
  refine St.p rfl rfl ?_
  refine St.done ?_
  refine St.thenN ?_
  refine St.prune (Γ' := [(0, _), (5, _), (6, _), (7, _), (8, _), (9, _), (10, _), (21, _)]) ⟨rfl, rfl, rfl, rfl, rfl, rfl, rfl, rfl, trivial⟩ (.k (.k (.k .z))) ?_
  refine St.cond _ rfl (fun hb1 => ?_) (fun hb1 => ?_)
  ·replace h1 := bif_t hb1 h1
   refine St.seq ?_
   refine St.region ?_
   iterate 4 refine St.p rfl rfl ?_
   refine St.done ?_
   refine St.thenN ?_
   refine St.prune (Γ' := [(2, _), (3, _), (4, _)]) ⟨rfl, rfl, rfl, trivial⟩ (.d (.d (.d .z))) ?_
   refine St.ret ?_
   repeat (first | refine St.thenR ?_ | refine St.blkR ?_)
   refine St.asrt (fun _ w => w.nilL e_Field 60) ?_
   injection h1 with h1
   subst h1
   have ho := hd1 _ rfl
   subst ho
   have h : some _ = some _ := h
   injection h with h
   subst h
   exact St.finR Tryd.results62 (.tmp rfl (.tmp rfl (.tmp rfl .nil))) rfl [.res (OwnL e_Field 60 none 0 ([] : List T_Field))] ⟨none, 0, rfl, rfl⟩ (fun _ w => ((.k .z) : Keep _ _).sat w)
  ·replace h1 := bif_f hb1 h1
   refine St.skip ?_
   refine St.thenN ?_
   refine St.prune (Γ' := [(0, _), (5, _), (6, _), (7, _), (8, _), (9, _)]) ⟨rfl, rfl, rfl, rfl, rfl, rfl, trivial⟩ (.k (.k (.k .z))) ?_
   refine St.seq ?_
   refine St.region ?_
   iterate 4 refine St.p rfl rfl ?_
   refine St.done ?_
   refine St.thenN ?_
   refine St.prune (Γ' := [(0, _), (5, _), (6, _), (7, _), (9, _)]) ⟨rfl, rfl, rfl, rfl, rfl, trivial⟩ (.k (.k (.k .z))) ?_
   refine St.seq ?_
   refine St.seq ?_
   refine St.region ?_
   refine St.p rfl rfl ?_
   refine St.done ?_
   refine St.thenN ?_
   refine St.prune (Γ' := [(0, _), (5, _), (6, _), (7, _), (26, _)]) ⟨rfl, rfl, rfl, rfl, rfl, trivial⟩ (.k (.k (.k .z))) ?_
   refine St.cond _ rfl (fun hb2 => ?_) (fun hb2 => ?_)
   ·replace h1 := bif_t hb2 h1
    refine St.seq ?_
    refine St.region ?_
    iterate 5 refine St.p rfl rfl ?_
    refine St.done ?_
    refine St.thenN ?_
    refine St.prune (Γ' := [(2, _), (3, _), (4, _)]) ⟨rfl, rfl, rfl, trivial⟩ (.d (.k (.d .z))) ?_
    refine St.ret ?_
    repeat (first | refine St.thenR ?_ | refine St.blkR ?_)
    injection h1 with h1
    subst h1
    have ho := hd1 _ rfl
    subst ho
    have h : some _ = some _ := h
    injection h with h
    subst h
    exact St.finR Tryd.results62 (.tmp rfl (.tmp rfl (.tmp rfl .nil))) rfl [.res (OwnL e_Field 60 A2 c2 s1.1)] ⟨A2, c2, rfl, rfl⟩ (fun _ w => ((.k .z) : Keep _ _).sat w)
   ·replace h1 := bif_f hb2 h1
    refine St.skip ?_
    refine St.thenN ?_
    refine St.prune (Γ' := [(0, _), (5, _), (6, _), (7, _)]) ⟨rfl, rfl, rfl, rfl, trivial⟩ (.k (.k (.k .z))) ?_
    refine St.seq ?_
    refine St.seq ?_
    refine St.region ?_
    iterate 3 refine St.p rfl rfl ?_
    refine St.done ?_
    refine St.thenN ?_
    refine St.prune (Γ' := [(0, _), (5, _), (6, _), (7, _), (31, _)]) ⟨rfl, rfl, rfl, rfl, rfl, trivial⟩ (.k (.k (.k .z))) ?_
    refine St.cond _ rfl (fun hb3 => ?_) (fun hb3 => ?_)
    ·replace h1 := bif_t hb3 h1
     refine St.seq ?_
     refine St.region ?_
     iterate 3 refine St.p rfl rfl ?_
     refine St.done ?_
     refine St.thenN ?_
     refine St.prune (Γ' := [(2, _), (3, _), (4, _)]) ⟨rfl, rfl, rfl, trivial⟩ (.d (.d (.d .z))) ?_
     refine St.ret ?_
     repeat (first | refine St.thenR ?_ | refine St.blkR ?_)
     refine St.asrt (fun _ w => w.nilL e_Field 60) ?_
     injection h1 with h1
     subst h1
     have ho := hd1 _ rfl
     subst ho
     have h : some _ = some _ := h
     injection h with h
     subst h
     exact St.finR Tryd.results62 (.tmp rfl (.tmp rfl (.tmp rfl .nil))) rfl [.res (OwnL e_Field 60 none 0 ([] : List T_Field))] ⟨none, 0, rfl, rfl⟩ (fun _ w => ((.k .z) : Keep _ _).sat w)
    ·replace h1 := bif_f hb3 h1
     refine St.skip ?_
     refine St.thenN ?_
     refine St.prune (Γ' := [(0, _), (5, _), (6, _), (7, _)]) ⟨rfl, rfl, rfl, rfl, trivial⟩ (.k (.k (.k .z))) ?_
     refine St.region ?_
     refine St.p rfl rfl ?_
     refine St.loadB 0 rfl rfl (.head _) rfl rfl ?_
     refine St.buildSlice rfl rfl rfl rfl rfl rfl rfl rfl fun g2 => ?_
     obtain ⟨l2, hl2, h1⟩ := bnd_e h1
     refine St.app (E := e_Field) hl2 rfl rfl rfl (.s (.s .z)) rfl rfl rfl rfl rfl rfl rfl rfl (srcB (.head _) rfl rfl) rfl rfl fun A4 c4 => ?_
     refine St.p rfl rfl ?_
     refine St.done ?_
     refine St.blkN ?_
     injection h1 with h1
     subst h1
     refine St.thenN ?_
     exact St.again _ (A4, c4) hm1 trivial ⟨rfl, rfl, rfl, trivial⟩ (fun _ w => ((.k (.d (.d (.k .z)))) : Keep _ _).sat w)
 ·rintro o2 e2 ho
  subst ho
  have h : _ = some _ := h
  have h : none = some _ := h
  cases h

theorem ent64 : Ent Tryd.prog 64 := ⟨_, Tryd.func64, by kernel_rfl, by kernel_rfl⟩

noncomputable def m_ref01_Number (b_p0 : (List Int)) : Option Int :=
 bnd (loopM (τ := Int) (fun (s1 : Int × Int) => bif decide (s1.2 ≥ 0) then (bnd (elt b_p0 s1.2) fun x1 => some (.next (IntKind.wrap .u64 ((IntKind.wrap .u64 (256 * s1.1)) + (IntKind.wrap .u64 x1)), IntKind.wrap .i64 (s1.2 - 1)))) else (some (.done s1.1))) (0, IntKind.wrap .i64 ((b_p0.length : Int) - 1))) fun o1 => some o1

theorem c_ref01_Number {b_p0 : (List Int)} {A1 : Option Addr} {c1 : Nat} {r : Int} (h : m_ref01_Number b_p0 = some r) :
  Fun Tryd.prog 64 [.slice A1 b_p0.length c1] [.ro (SlL eu8 A1 c1 b_p0)] (Val (.int .u64 r)) := by
 unfold m_ref01_Number at h
 refine Fun.intro Tryd.func64 rfl rfl rfl fun w R => ?_
 refine St.seq ?_
 refine St.region ?_
 refine St.p rfl rfl ?_
 refine St.done ?_
 refine St.thenN ?_
 refine St.prune (Γ' := [(0, _)]) ⟨rfl, trivial⟩ (.k .z) ?_
 refine St.seq ?_
 refine St.region ?_
 refine St.p rfl rfl ?_
 refine St.done ?_
 refine St.thenN ?_
 refine St.seq ?_
 refine St.seq ?_
 refine St.region ?_
 iterate 4 refine St.p rfl rfl ?_
 refine St.done ?_
 refine St.thenN ?_
 refine St.prune (Γ' := [(0, _), (3, _), (4, _)]) ⟨rfl, rfl, rfl, trivial⟩ (.k .z) ?_
 obtain ⟨o1, hl1, h⟩ := bnd_e h
 refine St.cutE (fun (e2 : Unit) => [(3, .int .u64 o1)]) (fun e2 => R) ?_ ?_
 ·refine St.block ?_
  refine St.loop hl1 (fun (s1 : Int × Int) (e1 : Unit) => [(0, .slice A1 b_p0.length c1), (3, .int .u64 s1.1), (4, .int .i64 s1.2)]) (fun s1 e1 => .ro (SlL eu8 A1 c1 b_p0) :: R) (fun _ _ => True) () trivial ⟨rfl, rfl, rfl, trivial⟩ (fun _ w => ((.k .z) : Keep _ _).sat w) ?_
  rintro s1 e1 - hit1
  obtain ⟨st1, hm1, hd1⟩ := iter_e hit1
  have h1 := hm1
  refine St.seq ?_
  refine St.seq ?_
  refine St.region ?_
  refine St.p rfl rfl ?_
  refine St.p rfl rfl ?_
  refine St.done ?_
  refine St.thenN ?_
  refine St.prune (Γ' := [(0, _), (3, _), (4, _), (9, _)]) ⟨rfl, rfl, rfl, rfl, trivial⟩ (.k .z) ?_
  refine St.cond _ rfl (fun hb1 => ?_) (fun hb1 => ?_)
  ·replace h1 := bif_t hb1 h1
   refine St.skip ?_
   refine St.thenN ?_
   refine St.prune (Γ' := [(0, _), (3, _), (4, _)]) ⟨rfl, rfl, rfl, trivial⟩ (.k .z) ?_
   refine St.seq ?_
   refine St.block ?_
   refine St.region ?_
   iterate 4 refine St.p rfl rfl ?_
   obtain ⟨x1, hx1, h1⟩ := bnd_e h1
   refine St.ixL hx1 rfl rfl rfl (.head _) rfl rfl rfl rfl rfl fun b1 ob1 => ?_
   refine St.load ob1 0 rfl rfl (.head _) rfl rfl ?_
   iterate 3 refine St.p rfl rfl ?_
   refine St.done ?_
   refine St.blkN ?_
   refine St.thenN ?_
   refine St.prune (Γ' := [(0, _), (3, _), (4, _)]) ⟨rfl, rfl, rfl, trivial⟩ (.d (.k .z)) ?_
   refine St.region ?_
   iterate 3 refine St.p rfl rfl ?_
   refine St.done ?_
   injection h1 with h1
   subst h1
   refine St.thenN ?_
   exact St.again _ () hm1 trivial ⟨rfl, rfl, rfl, trivial⟩ (fun _ w => ((.k .z) : Keep _ _).sat w)
  ·replace h1 := bif_f hb1 h1
   refine St.exit ?_
   repeat (first | refine St.thenX ?_ | refine St.blkMiss rfl ?_)
   refine St.blkHit ?_
   injection h1 with h1
   subst h1
   have ho := hd1 _ rfl
   subst ho
   refine St.thenN ?_
   exact St.hereE () ⟨rfl, trivial⟩ (fun _ w => ((.d .z) : Keep _ _).sat w)
 ·rintro e2
  refine St.seq ?_
  refine St.region ?_
  refine St.p rfl rfl ?_
  refine St.p rfl rfl ?_
  refine St.done ?_
  refine St.thenN ?_
  refine St.prune (Γ' := [(2, _)]) ⟨rfl, trivial⟩ .z ?_
  refine St.ret ?_
  repeat (first | refine St.thenR ?_ | refine St.blkR ?_)
  injection h with h
  subst h
  exact St.finR Tryd.results64 (.tmp rfl .nil) rfl [] ⟨rfl, rfl⟩ (fun _ w => (.z : Keep _ _).sat w)

theorem ent42 : Ent Tryd.prog 42 := ⟨_, Tryd.func42, by kernel_rfl, by kernel_rfl⟩

noncomputable def m_ref17_read (kind : Int) (b_p1 : (List Int)) (offset : Int) : Option (T_Area × Int) :=
 bif (offset == 0) then (some ((⟨false, 0, 0, []⟩ : T_Area), 0)) else (bif decide ((b_p1.length : Int) < (IntKind.wrap .i64 ((IntKind.wrap .i64 (8 * offset)) + 2))) then (some ((⟨false, 0, 0, []⟩ : T_Area), 4)) else (bnd ((bnd (elt b_p1 (IntKind.wrap .i64 (8 * offset))) fun x1 => bif (x1 != 1) then (some true) else (bnd (elt b_p1 (IntKind.wrap .i64 ((IntKind.wrap .i64 (8 * offset)) + 1))) fun x2 => some (x2 == 0)) : Option Bool)) fun o1 => bif o1 then (some ((⟨false, 0, 0, []⟩ : T_Area), 6)) else (bnd (elt b_p1 (IntKind.wrap .i64 ((IntKind.wrap .i64 (8 * offset)) + 1))) fun x3 => bif decide ((b_p1.length : Int) < (IntKind.wrap .i64 ((IntKind.wrap .i64 (8 * offset)) + (IntKind.wrap .i64 (8 * (IntKind.wrap .i64 x3)))))) then (some ((⟨false, 0, 0, []⟩ : T_Area), 4)) else (bnd (sub b_p1 (IntKind.wrap .i64 (8 * offset)) (IntKind.wrap .i64 ((IntKind.wrap .i64 (8 * offset)) + (IntKind.wrap .i64 (8 * (IntKind.wrap .i64 x3)))))) fun l1 => bnd (m_ref01_Open8 l1) fun r1 => bif (r1.2 != 0) then (some ((⟨false, 0, 0, []⟩ : T_Area), r1.2)) else (bnd (m_ref17_start kind) fun r2 => bnd (sub r1.1 r2 (r1.1.length : Int)) fun l2 => bnd (m_ref02_DecodeList l2) fun r3 => bif (r3.2.2 != 0) then (some ((⟨false, 0, 0, []⟩ : T_Area), r3.2.2)) else (bnd (m_ref17_start kind) fun r4 => bnd (loopM (τ := (T_Area × Int) ⊕ Unit) (fun (s1 : Int) => bif decide (s1 < (r1.1.length : Int)) then (bnd (elt r1.1 s1) fun x4 => bif (x4 != 0) then (some (.done (.inl ((⟨false, 0, 0, []⟩ : T_Area), 6)))) else (some (.next (IntKind.wrap .i64 (s1 + 1))))) else (some (.done (.inr ())))) (IntKind.wrap .i64 (r4 + r3.2.1))) fun o2 => retOr o2 fun o3 => bnd (elt r1.1 2) fun x5 => bif (kind == 1) then (bnd (sub r1.1 3 6) fun l3 => bnd (m_ref01_Number l3) fun r5 => some ((⟨true, x5, IntKind.wrap .u32 r5, r3.1⟩ : T_Area), 0)) else (some ((⟨true, x5, 0, r3.1⟩ : T_Area), 0))))))))

set_option maxHeartbeats 4000000 in
theorem c_ref17_read {kind : Int} {b_p1 : (List Int)} {offset : Int} {A1 : Option Addr} {c1 : Nat} {r : (T_Area × Int)} (h : m_ref17_read kind b_p1 offset = some r) :
  Fun Tryd.prog 42 [.int .i64 kind, .slice A1 b_p1.length c1, .int .i64 offset] [.ro (SlL eu8 A1 c1 b_p1)] (fun v_ F_ => ∃ (A1 : Option Addr) (c1 : Nat), v_ = .tuple #[.agg (bx_T_Area r.1 A1 c1).toArray, .int .i64 r.2] ∧ F_ = [.ro (SlL e_Field A1 c1 r.1.Fields)]) := by
 unfold m_ref17_read at h
 refine Fun.intro Tryd.func42 rfl rfl rfl fun w R => ?_
 refine St.seq ?_
 refine St.region ?_
 refine St.alloc rfl rfl fun g1 => ?_
 refine St.p rfl rfl ?_
 refine St.done ?_
 refine St.thenN ?_
 refine St.prune (Γ' := [(0, _), (1, _), (2, _), (6, _)]) ⟨rfl, rfl, rfl, rfl, trivial⟩ (.k (.k .z)) ?_
 refine St.seq ?_
 refine St.region ?_
 refine St.p rfl rfl ?_
 refine St.alloc rfl rfl fun g2 => ?_
 refine St.store 0 rfl rfl rfl rfl rfl rfl .z rfl ?_
 refine St.done ?_
 refine St.thenN ?_
 refine St.prune (Γ' := [(0, _), (1, _), (2, _), (6, _), (8, _)]) ⟨rfl, rfl, rfl, rfl, rfl, trivial⟩ (.k (.k (.k .z))) ?_
 refine St.seq ?_
 refine St.seq ?_
 refine St.region ?_
 refine St.p rfl rfl ?_
 refine St.p rfl rfl ?_
 refine St.done ?_
 refine St.thenN ?_
 refine St.prune (Γ' := [(0, _), (1, _), (2, _), (6, _), (8, _), (19, _)]) ⟨rfl, rfl, rfl, rfl, rfl, rfl, trivial⟩ (.k (.k (.k .z))) ?_
 refine St.cond _ rfl (fun hb1 => ?_) (fun hb1 => ?_)
 ·replace h := bif_t hb1 h
  refine St.seq ?_
  refine St.region ?_
  refine St.loadB 0 rfl rfl (.head _) rfl rfl ?_
  refine St.store 0 rfl rfl rfl rfl rfl rfl (.s .z) rfl ?_
  refine St.p rfl rfl ?_
  refine St.done ?_
  refine St.thenN ?_
  refine St.prune (Γ' := [(6, _), (7, _)]) ⟨rfl, rfl, trivial⟩ (.k (.d (.d .z))) ?_
  refine St.ret ?_
  repeat (first | refine St.thenR ?_ | refine St.blkR ?_)
  refine St.asrt (fun _ w => w.nilSl (cod e_Field)) ?_
  injection h with h
  subst h
  exact St.finR Tryd.results42 (.cell rfl (.tail _ (.head _)) rfl (.tmp rfl .nil)) rfl [.ro (SlL e_Field none 0 ([] : List T_Field))] ⟨none, 0, rfl, rfl⟩ (fun _ w => ((.k (.d (.d .z))) : Keep _ _).sat (Sat.dup (G := [.ro (SlL e_Field none 0 ([] : List T_Field))]) rfl ⟨(.head _), trivial⟩ w))
 ·replace h := bif_f hb1 h
  refine St.skip ?_
  refine St.thenN ?_
  refine St.prune (Γ' := [(0, _), (1, _), (2, _), (6, _), (8, _)]) ⟨rfl, rfl, rfl, rfl, rfl, trivial⟩ (.k (.k (.k .z))) ?_
  refine St.seq ?_
  refine St.region ?_
  iterate 3 refine St.p rfl rfl ?_
  refine St.done ?_
  refine St.thenN ?_
  refine St.prune (Γ' := [(0, _), (1, _), (6, _), (8, _), (9, _)]) ⟨rfl, rfl, rfl, rfl, rfl, trivial⟩ (.k (.k (.k .z))) ?_
  refine St.seq ?_
  refine St.seq ?_
  refine St.region ?_
  iterate 5 refine St.p rfl rfl ?_
  refine St.done ?_
  refine St.thenN ?_
  refine St.prune (Γ' := [(0, _), (1, _), (6, _), (8, _), (9, _), (27, _)]) ⟨rfl, rfl, rfl, rfl, rfl, rfl, trivial⟩ (.k (.k (.k .z))) ?_
  refine St.cond _ rfl (fun hb2 => ?_) (fun hb2 => ?_)
  ·replace h := bif_t hb2 h
   refine St.seq ?_
   refine St.region ?_
   refine St.loadB 0 rfl rfl (.head _) rfl rfl ?_
   refine St.store 0 rfl rfl rfl rfl rfl rfl (.s .z) rfl ?_
   refine St.p rfl rfl ?_
   refine St.done ?_
   refine St.thenN ?_
   refine St.prune (Γ' := [(6, _), (7, _)]) ⟨rfl, rfl, trivial⟩ (.k (.d (.d .z))) ?_
   refine St.ret ?_
   repeat (first | refine St.thenR ?_ | refine St.blkR ?_)
   refine St.asrt (fun _ w => w.nilSl (cod e_Field)) ?_
   injection h with h
   subst h
   exact St.finR Tryd.results42 (.cell rfl (.tail _ (.head _)) rfl (.tmp rfl .nil)) rfl [.ro (SlL e_Field none 0 ([] : List T_Field))] ⟨none, 0, rfl, rfl⟩ (fun _ w => ((.k (.d (.d .z))) : Keep _ _).sat (Sat.dup (G := [.ro (SlL e_Field none 0 ([] : List T_Field))]) rfl ⟨(.head _), trivial⟩ w))
  ·replace h := bif_f hb2 h
   refine St.skip ?_
   refine St.thenN ?_
   refine St.prune (Γ' := [(0, _), (1, _), (6, _), (8, _), (9, _)]) ⟨rfl, rfl, rfl, rfl, rfl, trivial⟩ (.k (.k (.k .z))) ?_
   refine St.seq ?_
   refine St.seq ?_
   obtain ⟨o1, hj1, h⟩ := bnd_e h
   refine St.cutE (fun (e1 : Unit) => [(0, .int .i64 kind), (1, .slice A1 b_p1.length c1), (6, .pointer (some ⟨g1, 0, none⟩)), (8, .pointer (some ⟨g2, 0, none⟩)), (9, .int .i64 (IntKind.wrap .i64 (8 * offset))), (41, .bool o1)]) (fun e1 => .res (Box g2 25 [.bool false, .int .u8 0, .int .u32 0, .slice none 0 0]) :: .res (Box g1 25 [.bool false, .int .u8 0, .int .u32 0, .slice none 0 0]) :: .ro (SlL eu8 A1 c1 b_p1) :: R) ?_ ?_
   ·refine St.region ?_
    refine St.p rfl rfl ?_
    refine St.p rfl rfl ?_
    obtain ⟨x1, hx1, hj1⟩ := bnd_e hj1
    refine St.ixL hx1 rfl rfl rfl (.tail _ (.tail _ (.head _))) rfl rfl rfl rfl rfl fun b1 ob1 => ?_
    refine St.load ob1 0 rfl rfl (.head _) rfl rfl ?_
    refine St.p rfl rfl ?_
    refine St.p rfl rfl ?_
    refine St.gSplit (dj := 34) _ rfl (fun hb3 => ?_) (fun hb3 => ?_)
    ·replace hj1 := bif_t hb3 hj1
     refine St.gOff (dj := 34) rfl rfl rfl rfl ?_
     refine St.gOff (dj := 34) rfl rfl rfl rfl ?_
     refine St.gOff (dj := 34) rfl rfl rfl rfl ?_
     refine St.gOff (dj := 34) rfl rfl rfl rfl ?_
     refine St.gOff (dj := 34) rfl rfl rfl rfl ?_
     refine St.gOff (dj := 34) rfl rfl rfl rfl ?_
     refine St.p rfl rfl ?_
     refine St.done ?_
     injection hj1 with hj1
     subst hj1
     refine St.thenN ?_
     exact St.hereE () ⟨rfl, rfl, rfl, rfl, rfl, rfl, trivial⟩ (fun _ w => ((.d (.k (.k (.k .z)))) : Keep _ _).sat w)
    ·replace hj1 := bif_f hb3 hj1
     refine St.gOn (dj := 34) rfl rfl ?_
     refine St.p rfl rfl ?_
     refine St.gOn (dj := 34) rfl rfl ?_
     refine St.p rfl rfl ?_
     refine St.gOn (dj := 34) rfl rfl ?_
     refine St.p rfl rfl ?_
     refine St.gOn (dj := 34) rfl rfl ?_
     obtain ⟨x2, hx2, hj1⟩ := bnd_e hj1
     refine St.ixL hx2 rfl rfl rfl (.tail _ (.tail _ (.tail _ (.head _)))) rfl rfl rfl rfl rfl fun b2 ob2 => ?_
     refine St.gOn (dj := 34) rfl rfl ?_
     refine St.load ob2 0 rfl rfl (.head _) rfl rfl ?_
     refine St.gOn (dj := 34) rfl rfl ?_
     refine St.p rfl rfl ?_
     refine St.p rfl rfl ?_
     refine St.done ?_
     injection hj1 with hj1
     subst hj1
     refine St.thenN ?_
     exact St.hereE () ⟨rfl, rfl, rfl, rfl, rfl, rfl, trivial⟩ (fun _ w => ((.d (.d (.k (.k (.k .z))))) : Keep _ _).sat w)
   ·rintro e1
    refine St.cond _ rfl (fun hb4 => ?_) (fun hb4 => ?_)
    ·replace h := bif_t hb4 h
     refine St.seq ?_
     refine St.region ?_
     refine St.loadB 0 rfl rfl (.head _) rfl rfl ?_
     refine St.store 0 rfl rfl rfl rfl rfl rfl (.s .z) rfl ?_
     refine St.p rfl rfl ?_
     refine St.done ?_
     refine St.thenN ?_
     refine St.prune (Γ' := [(6, _), (7, _)]) ⟨rfl, rfl, trivial⟩ (.k (.d (.d .z))) ?_
     refine St.ret ?_
     repeat (first | refine St.thenR ?_ | refine St.blkR ?_)
     refine St.asrt (fun _ w => w.nilSl (cod e_Field)) ?_
     injection h with h
     subst h
     exact St.finR Tryd.results42 (.cell rfl (.tail _ (.head _)) rfl (.tmp rfl .nil)) rfl [.ro (SlL e_Field none 0 ([] : List T_Field))] ⟨none, 0, rfl, rfl⟩ (fun _ w => ((.k (.d (.d .z))) : Keep _ _).sat (Sat.dup (G := [.ro (SlL e_Field none 0 ([] : List T_Field))]) rfl ⟨(.head _), trivial⟩ w))
    ·replace h := bif_f hb4 h
     refine St.skip ?_
     refine St.thenN ?_
     refine St.prune (Γ' := [(0, _), (1, _), (6, _), (8, _), (9, _)]) ⟨rfl, rfl, rfl, rfl, rfl, trivial⟩ (.k (.k (.k .z))) ?_
     refine St.seq ?_
     refine St.region ?_
     iterate 3 refine St.p rfl rfl ?_
     obtain ⟨x3, hx3, h⟩ := bnd_e h
     refine St.ixL hx3 rfl rfl rfl (.tail _ (.tail _ (.head _))) rfl rfl rfl rfl rfl fun b3 ob3 => ?_
     refine St.load ob3 0 rfl rfl (.head _) rfl rfl ?_
     iterate 3 refine St.p rfl rfl ?_
     refine St.done ?_
     refine St.thenN ?_
     refine St.prune (Γ' := [(0, _), (1, _), (6, _), (8, _), (9, _), (10, _)]) ⟨rfl, rfl, rfl, rfl, rfl, rfl, trivial⟩ (.d (.k (.k (.k .z)))) ?_
     refine St.seq ?_
     refine St.seq ?_
     refine St.region ?_
     iterate 6 refine St.p rfl rfl ?_
     refine St.done ?_
     refine St.thenN ?_
     refine St.prune (Γ' := [(0, _), (1, _), (6, _), (8, _), (9, _), (10, _), (55, _)]) ⟨rfl, rfl, rfl, rfl, rfl, rfl, rfl, trivial⟩ (.k (.k (.k .z))) ?_
     refine St.cond _ rfl (fun hb5 => ?_) (fun hb5 => ?_)
     ·replace h := bif_t hb5 h
      refine St.seq ?_
      refine St.region ?_
      refine St.loadB 0 rfl rfl (.head _) rfl rfl ?_
      refine St.store 0 rfl rfl rfl rfl rfl rfl (.s .z) rfl ?_
      refine St.p rfl rfl ?_
      refine St.done ?_
      refine St.thenN ?_
      refine St.prune (Γ' := [(6, _), (7, _)]) ⟨rfl, rfl, trivial⟩ (.k (.d (.d .z))) ?_
      refine St.ret ?_
      repeat (first | refine St.thenR ?_ | refine St.blkR ?_)
      refine St.asrt (fun _ w => w.nilSl (cod e_Field)) ?_
      injection h with h
      subst h
      exact St.finR Tryd.results42 (.cell rfl (.tail _ (.head _)) rfl (.tmp rfl .nil)) rfl [.ro (SlL e_Field none 0 ([] : List T_Field))] ⟨none, 0, rfl, rfl⟩ (fun _ w => ((.k (.d (.d .z))) : Keep _ _).sat (Sat.dup (G := [.ro (SlL e_Field none 0 ([] : List T_Field))]) rfl ⟨(.head _), trivial⟩ w))
     ·replace h := bif_f hb5 h
      refine St.skip ?_
      refine St.thenN ?_
      refine St.prune (Γ' := [(0, _), (1, _), (6, _), (8, _), (9, _), (10, _)]) ⟨rfl, rfl, rfl, rfl, rfl, rfl, trivial⟩ (.k (.k (.k .z))) ?_
      refine St.seq ?_
      refine St.region ?_
      iterate 5 refine St.p rfl rfl ?_
      obtain ⟨l1, hl1, h⟩ := bnd_e h
      refine St.sub (E := (cod eu8)) rfl rfl (.tail _ (.tail _ (.head _))) rfl rfl rfl rfl rfl rfl rfl hl1 fun A2 c2 => ?_
      obtain ⟨r1, hr1, h⟩ := bnd_e h
      refine St.call (c_ref01_Open8 hr1) ent61 rfl rfl rfl (fun _ w => Sat.dup (G := [.ro (SlL eu8 A2 c2 l1)]) rfl ⟨(.head _), trivial⟩ w) ?_
      rintro _ _ ⟨A3, c3, rfl, rfl⟩
      refine St.asrt (F' := .res (OwnL eu8 5 A3 c3 r1.1) :: .ro (SlL eu8 A2 c2 l1) :: .res (Box g2 25 [.bool false, .int .u8 0, .int .u32 0, .slice none 0 0]) :: .res (Box g1 25 [.bool false, .int .u8 0, .int .u32 0, .slice none 0 0]) :: .ro (SlL eu8 A1 c1 b_p1) :: R) (fun _ w => w) ?_
      iterate 5 refine St.p rfl rfl ?_
      refine St.done ?_
      refine St.thenN ?_
      refine St.prune (Γ' := [(0, _), (6, _), (8, _), (11, _), (12, _)]) ⟨rfl, rfl, rfl, rfl, rfl, trivial⟩ (.k (.d (.k (.k (.d .z))))) ?_
      refine St.seq ?_
      refine St.seq ?_
      refine St.region ?_
      refine St.p rfl rfl ?_
      refine St.p rfl rfl ?_
      refine St.done ?_
      refine St.thenN ?_
      refine St.prune (Γ' := [(0, _), (6, _), (8, _), (11, _), (12, _), (68, _)]) ⟨rfl, rfl, rfl, rfl, rfl, rfl, trivial⟩ (.k (.k (.k .z))) ?_
      refine St.cond _ rfl (fun hb6 => ?_) (fun hb6 => ?_)
      ·replace h := bif_t hb6 h
       refine St.seq ?_
       refine St.region ?_
       refine St.loadB 0 rfl rfl (.tail _ (.head _)) rfl rfl ?_
       refine St.p rfl rfl ?_
       refine St.store 0 rfl rfl rfl rfl rfl rfl (.s (.s .z)) rfl ?_
       refine St.p rfl rfl ?_
       refine St.done ?_
       refine St.thenN ?_
       refine St.prune (Γ' := [(6, _), (7, _)]) ⟨rfl, rfl, trivial⟩ (.k (.d (.d .z))) ?_
       refine St.ret ?_
       repeat (first | refine St.thenR ?_ | refine St.blkR ?_)
       refine St.asrt (fun _ w => w.nilSl (cod e_Field)) ?_
       injection h with h
       subst h
       exact St.finR Tryd.results42 (.cell rfl (.tail _ (.head _)) rfl (.tmp rfl .nil)) rfl [.ro (SlL e_Field none 0 ([] : List T_Field))] ⟨none, 0, rfl, rfl⟩ (fun _ w => ((.k (.d (.d .z))) : Keep _ _).sat (Sat.dup (G := [.ro (SlL e_Field none 0 ([] : List T_Field))]) rfl ⟨(.head _), trivial⟩ w))
      ·replace h := bif_f hb6 h
       refine St.skip ?_
       refine St.thenN ?_
       refine St.prune (Γ' := [(0, _), (6, _), (8, _), (11, _)]) ⟨rfl, rfl, rfl, rfl, trivial⟩ (.k (.k (.k .z))) ?_
       refine St.seq ?_
       refine St.region ?_
       refine St.p rfl rfl ?_
       refine St.p rfl rfl ?_
       obtain ⟨r2, hr2, h⟩ := bnd_e h
       refine St.callV (c_ref17_start hr2) ent63 rfl rfl rfl rfl trivial ?_
       refine St.asrt (fun _ w => (w.front .z).meltL) ?_
       obtain ⟨l2, hl2, h⟩ := bnd_e h
       refine St.sub (E := (cod eu8)) rfl rfl (.head _) rfl rfl rfl rfl rfl rfl rfl hl2 fun A4 c4 => ?_
       obtain ⟨r3, hr3, h⟩ := bnd_e h
       refine St.call (c_ref02_DecodeList hr3) ent62 rfl rfl rfl (fun _ w => Sat.dup (G := [.ro (SlL eu8 A4 c4 l2)]) rfl ⟨(.head _), trivial⟩ w) ?_
       rintro _ _ ⟨A5, c5, rfl, rfl⟩
       refine St.asrt (F' := .res (OwnL e_Field 60 A5 c5 r3.1) :: .ro (SlL eu8 A4 c4 l2) :: .ro (SlL eu8 A3 c3 r1.1) :: .res (Box g2 25 [.bool false, .int .u8 0, .int .u32 0, .slice none 0 0]) :: .res (Box g1 25 [.bool false, .int .u8 0, .int .u32 0, .slice none 0 0]) :: R) (fun _ w => w) ?_
       iterate 7 refine St.p rfl rfl ?_
       refine St.done ?_
       refine St.thenN ?_
       refine St.prune (Γ' := [(0, _), (6, _), (8, _), (11, _), (12, _), (13, _), (14, _)]) ⟨rfl, rfl, rfl, rfl, rfl, rfl, rfl, trivial⟩ (.k (.d (.k (.k (.k .z))))) ?_
       refine St.seq ?_
       refine St.seq ?_
       refine St.region ?_
       refine St.p rfl rfl ?_
       refine St.p rfl rfl ?_
       refine St.done ?_
       refine St.thenN ?_
       refine St.prune (Γ' := [(0, _), (6, _), (8, _), (11, _), (12, _), (13, _), (14, _), (81, _)]) ⟨rfl, rfl, rfl, rfl, rfl, rfl, rfl, rfl, trivial⟩ (.k (.k (.k (.k .z)))) ?_
       refine St.cond _ rfl (fun hb7 => ?_) (fun hb7 => ?_)
       ·replace h := bif_t hb7 h
        refine St.seq ?_
        refine St.region ?_
        refine St.loadB 0 rfl rfl (.tail _ (.tail _ (.head _))) rfl rfl ?_
        refine St.p rfl rfl ?_
        refine St.store 0 rfl rfl rfl rfl rfl rfl (.s (.s (.s .z))) rfl ?_
        refine St.p rfl rfl ?_
        refine St.done ?_
        refine St.thenN ?_
        refine St.prune (Γ' := [(6, _), (7, _)]) ⟨rfl, rfl, trivial⟩ (.k (.d (.d (.d .z)))) ?_
        refine St.ret ?_
        repeat (first | refine St.thenR ?_ | refine St.blkR ?_)
        refine St.asrt (fun _ w => w.nilSl (cod e_Field)) ?_
        injection h with h
        subst h
        exact St.finR Tryd.results42 (.cell rfl (.tail _ (.head _)) rfl (.tmp rfl .nil)) rfl [.ro (SlL e_Field none 0 ([] : List T_Field))] ⟨none, 0, rfl, rfl⟩ (fun _ w => ((.k (.d (.d .z))) : Keep _ _).sat (Sat.dup (G := [.ro (SlL e_Field none 0 ([] : List T_Field))]) rfl ⟨(.head _), trivial⟩ w))
       ·replace h := bif_f hb7 h
        refine St.skip ?_
        refine St.thenN ?_
        refine St.prune (Γ' := [(0, _), (6, _), (8, _), (11, _), (13, _), (14, _)]) ⟨rfl, rfl, rfl, rfl, rfl, rfl, trivial⟩ (.k (.k (.k (.k .z)))) ?_
        refine St.seq ?_
        refine St.seq ?_
        refine St.region ?_
        refine St.p rfl rfl ?_
        obtain ⟨r4, hr4, h⟩ := bnd_e h
        refine St.callV (c_ref17_start hr4) ent63 rfl rfl rfl rfl trivial ?_
        iterate 3 refine St.p rfl rfl ?_
        refine St.done ?_
        refine St.thenN ?_
        refine St.prune (Γ' := [(0, _), (6, _), (8, _), (11, _), (13, _), (15, _)]) ⟨rfl, rfl, rfl, rfl, rfl, rfl, trivial⟩ (.k (.k (.k (.k .z)))) ?_
        obtain ⟨o2, hl1, h⟩ := bnd_e h
        refine St.cutI (fun (o3 : Unit) (e3 : Unit) => [(0, .int .i64 kind), (6, .pointer (some ⟨g1, 0, none⟩)), (11, .slice A3 r1.1.length c3), (13, .slice A5 r3.1.length c5)]) (fun o3 e3 => .res (OwnL e_Field 60 A5 c5 r3.1) :: .ro (SlL eu8 A3 c3 r1.1) :: .res (Box g1 25 [.bool false, .int .u8 0, .int .u32 0, .slice none 0 0]) :: R) (fun o3 => o2 = .inr o3) ?_ ?_
        ·refine St.block ?_
         refine St.loop hl1 (fun (s1 : Int) (e2 : Unit) => [(0, .int .i64 kind), (6, .pointer (some ⟨g1, 0, none⟩)), (8, .pointer (some ⟨g2, 0, none⟩)), (11, .slice A3 r1.1.length c3), (13, .slice A5 r3.1.length c5), (15, .int .i64 s1)]) (fun s1 e2 => .res (OwnL e_Field 60 A5 c5 r3.1) :: .ro (SlL eu8 A3 c3 r1.1) :: .res (Box g2 25 [.bool false, .int .u8 0, .int .u32 0, .slice none 0 0]) :: .res (Box g1 25 [.bool false, .int .u8 0, .int .u32 0, .slice none 0 0]) :: R) (fun _ _ => True) () trivial ⟨rfl, rfl, rfl, rfl, rfl, rfl, trivial⟩ (fun _ w => ((.k (.k (.k (.k .z)))) : Keep _ _).sat w) ?_
         rintro s1 e2 - hit1
         obtain ⟨st1, hm1, hd1⟩ := iter_e hit1
         have h1 := hm1
         refine St.seq ?_
         refine St.seq ?_
         refine St.region ?_
         iterate 4 refine St.p rfl rfl ?_
         refine St.done ?_
         refine St.thenN ?_
         refine St.prune (Γ' := [(0, _), (6, _), (8, _), (11, _), (13, _), (15, _), (91, _)]) ⟨rfl, rfl, rfl, rfl, rfl, rfl, rfl, trivial⟩ (.k (.k (.k (.k .z)))) ?_
         refine St.cond _ rfl (fun hb8 => ?_) (fun hb8 => ?_)
         ·replace h1 := bif_t hb8 h1
          refine St.skip ?_
          refine St.thenN ?_
          refine St.prune (Γ' := [(0, _), (6, _), (8, _), (11, _), (13, _), (15, _)]) ⟨rfl, rfl, rfl, rfl, rfl, rfl, trivial⟩ (.k (.k (.k (.k .z)))) ?_
          refine St.seq ?_
          refine St.block ?_
          refine St.seq ?_
          refine St.region ?_
          refine St.p rfl rfl ?_
          refine St.p rfl rfl ?_
          obtain ⟨x4, hx4, h1⟩ := bnd_e h1
          refine St.ixL hx4 rfl rfl rfl (.tail _ (.head _)) rfl rfl rfl rfl rfl fun b4 ob4 => ?_
          refine St.load ob4 0 rfl rfl (.head _) rfl rfl ?_
          refine St.p rfl rfl ?_
          refine St.done ?_
          refine St.thenN ?_
          refine St.prune (Γ' := [(0, _), (6, _), (8, _), (11, _), (13, _), (15, _), (98, _)]) ⟨rfl, rfl, rfl, rfl, rfl, rfl, rfl, trivial⟩ (.d (.k (.k (.k (.k .z))))) ?_
          refine St.cond _ rfl (fun hb9 => ?_) (fun hb9 => ?_)
          ·replace h1 := bif_t hb9 h1
           refine St.seq ?_
           refine St.region ?_
           refine St.loadB 0 rfl rfl (.tail _ (.tail _ (.head _))) rfl rfl ?_
           refine St.store 0 rfl rfl rfl rfl rfl rfl (.s (.s (.s .z))) rfl ?_
           refine St.p rfl rfl ?_
           refine St.done ?_
           refine St.thenN ?_
           refine St.prune (Γ' := [(6, _), (7, _)]) ⟨rfl, rfl, trivial⟩ (.k (.d (.d (.d .z)))) ?_
           refine St.ret ?_
           repeat (first | refine St.thenR ?_ | refine St.blkR ?_)
           refine St.asrt (fun _ w => w.nilSl (cod e_Field)) ?_
           injection h1 with h1
           subst h1
           have ho := hd1 _ rfl
           subst ho
           have h : some _ = some _ := h
           injection h with h
           subst h
           exact St.finR Tryd.results42 (.cell rfl (.tail _ (.head _)) rfl (.tmp rfl .nil)) rfl [.ro (SlL e_Field none 0 ([] : List T_Field))] ⟨none, 0, rfl, rfl⟩ (fun _ w => ((.k (.d (.d .z))) : Keep _ _).sat (Sat.dup (G := [.ro (SlL e_Field none 0 ([] : List T_Field))]) rfl ⟨(.head _), trivial⟩ w))
          ·replace h1 := bif_f hb9 h1
           refine St.skip ?_
           refine St.blkN ?_
           refine St.thenN ?_
           refine St.prune (Γ' := [(0, _), (6, _), (8, _), (11, _), (13, _), (15, _)]) ⟨rfl, rfl, rfl, rfl, rfl, rfl, trivial⟩ (.k (.k (.k (.k .z)))) ?_
           refine St.region ?_
           iterate 3 refine St.p rfl rfl ?_
           refine St.done ?_
           injection h1 with h1
           subst h1
           refine St.thenN ?_
           exact St.again _ () hm1 trivial ⟨rfl, rfl, rfl, rfl, rfl, rfl, trivial⟩ (fun _ w => ((.k (.k (.k (.k .z)))) : Keep _ _).sat w)
         ·replace h1 := bif_f hb8 h1
          refine St.exit ?_
          repeat (first | refine St.thenX ?_ | refine St.blkMiss rfl ?_)
          refine St.blkHit ?_
          injection h1 with h1
          subst h1
          have ho := hd1 _ rfl
          subst ho
          refine St.thenN ?_
          exact St.hereI () () rfl ⟨rfl, rfl, rfl, rfl, trivial⟩ (fun _ w => ((.k (.k (.d (.k .z)))) : Keep _ _).sat w)
        ·rintro o3 e3 ho
         subst ho
         have h : _ = some _ := h
         refine St.seq ?_
         refine St.region ?_
         refine St.p rfl rfl ?_
         obtain ⟨x5, hx5, h⟩ := bnd_e h
         refine St.ixL hx5 rfl rfl rfl (.tail _ (.head _)) rfl rfl rfl rfl rfl fun b5 ob5 => ?_
         refine St.load ob5 0 rfl rfl (.head _) rfl rfl ?_
         refine St.p rfl rfl ?_
         refine St.p rfl rfl ?_
         refine St.alloc rfl rfl fun g3 => ?_
         refine St.store 0 rfl rfl rfl rfl rfl rfl .z rfl ?_
         refine St.done ?_
         refine St.thenN ?_
         refine St.prune (Γ' := [(0, _), (6, _), (11, _), (16, _)]) ⟨rfl, rfl, rfl, rfl, trivial⟩ (.k (.d (.k (.k (.k .z))))) ?_
         refine St.seq ?_
         refine St.seq ?_
         refine St.region ?_
         refine St.p rfl rfl ?_
         refine St.p rfl rfl ?_
         refine St.done ?_
         refine St.thenN ?_
         refine St.prune (Γ' := [(6, _), (11, _), (16, _), (106, _)]) ⟨rfl, rfl, rfl, rfl, trivial⟩ (.k (.k (.k (.k .z)))) ?_
         refine St.cond _ rfl (fun hb10 => ?_) (fun hb10 => ?_)
         ·replace h := bif_t hb10 h
          refine St.region ?_
          refine St.p rfl rfl ?_
          obtain ⟨l3, hl3, h⟩ := bnd_e h
          refine St.sub (E := (cod eu8)) rfl rfl (.tail _ (.tail _ (.head _))) rfl rfl rfl rfl rfl rfl rfl hl3 fun A6 c6 => ?_
          obtain ⟨r5, hr5, h⟩ := bnd_e h
          refine St.callV (c_ref01_Number hr5) ent64 rfl rfl rfl rfl ⟨(.head _), trivial⟩ ?_
          refine St.p rfl rfl ?_
          refine St.p rfl rfl ?_
          refine St.store 2 rfl rfl rfl rfl rfl rfl (.s .z) rfl ?_
          refine St.done ?_
          refine St.thenN ?_
          refine St.prune (Γ' := [(6, _), (16, _)]) ⟨rfl, rfl, trivial⟩ (.k (.d (.k (.d (.k .z))))) ?_
          refine St.seq ?_
          refine St.region ?_
          refine St.loadB 0 rfl rfl (.head _) rfl rfl ?_
          refine St.store 0 rfl rfl rfl rfl rfl rfl (.s (.s .z)) rfl ?_
          refine St.p rfl rfl ?_
          refine St.done ?_
          refine St.thenN ?_
          refine St.prune (Γ' := [(6, _), (7, _)]) ⟨rfl, rfl, trivial⟩ (.k (.d (.k .z))) ?_
          refine St.ret ?_
          repeat (first | refine St.thenR ?_ | refine St.blkR ?_)
          refine St.asrt (fun _ w => (w.front (.s .z)).meltL) ?_
          injection h with h
          subst h
          exact St.finR Tryd.results42 (.cell rfl (.tail _ (.head _)) rfl (.tmp rfl .nil)) rfl [.ro (SlL e_Field A5 c5 r3.1)] ⟨A5, c5, rfl, rfl⟩ (fun _ w => ((.k (.d (.d .z))) : Keep _ _).sat (Sat.dup (G := [.ro (SlL e_Field A5 c5 r3.1)]) rfl ⟨(.head _), trivial⟩ w))
         ·replace h := bif_f hb10 h
          refine St.skip ?_
          refine St.thenN ?_
          refine St.prune (Γ' := [(6, _), (16, _)]) ⟨rfl, rfl, trivial⟩ (.k (.k (.d (.k .z)))) ?_
          refine St.seq ?_
          refine St.region ?_
          refine St.loadB 0 rfl rfl (.head _) rfl rfl ?_
          refine St.store 0 rfl rfl rfl rfl rfl rfl (.s (.s .z)) rfl ?_
          refine St.p rfl rfl ?_
          refine St.done ?_
          refine St.thenN ?_
          refine St.prune (Γ' := [(6, _), (7, _)]) ⟨rfl, rfl, trivial⟩ (.k (.d (.k .z))) ?_
          refine St.ret ?_
          repeat (first | refine St.thenR ?_ | refine St.blkR ?_)
          refine St.asrt (fun _ w => (w.front (.s .z)).meltL) ?_
          injection h with h
          subst h
          exact St.finR Tryd.results42 (.cell rfl (.tail _ (.head _)) rfl (.tmp rfl .nil)) rfl [.ro (SlL e_Field A5 c5 r3.1)] ⟨A5, c5, rfl, rfl⟩ (fun _ w => ((.k (.d (.d .z))) : Keep _ _).sat (Sat.dup (G := [.ro (SlL e_Field A5 c5 r3.1)]) rfl ⟨(.head _), trivial⟩ w))

theorem ent28 : Ent Tryd.prog 28 := ⟨_, Tryd.func28, by kernel_rfl, by kernel_rfl⟩

noncomputable def m_ref17_Decode (b_p0 : (List Int)) : Option (T_Info × Int) :=
 bif decide ((b_p0.length : Int) < 8) then (some ((⟨(⟨false, 0, 0, []⟩ : T_Area), (⟨false, 0, 0, []⟩ : T_Area), (⟨false, 0, 0, []⟩ : T_Area), []⟩ : T_Info), 4)) else (bif decide ((b_p0.length : Int) > 2048) then (some ((⟨(⟨false, 0, 0, []⟩ : T_Area), (⟨false, 0, 0, []⟩ : T_Area), (⟨false, 0, 0, []⟩ : T_Area), []⟩ : T_Info), 3)) else (bnd (sub b_p0 0 8) fun l1 => bnd (m_ref01_Sum8 l1) fun r1 => bif (r1 != 0) then (some ((⟨(⟨false, 0, 0, []⟩ : T_Area), (⟨false, 0, 0, []⟩ : T_Area), (⟨false, 0, 0, []⟩ : T_Area), []⟩ : T_Info), 5)) else (bnd ((bnd (elt b_p0 0) fun x1 => bif (x1 != 1) then (some true) else (bnd (elt b_p0 1) fun x2 => bif (x2 != 0) then (some true) else (bnd (elt b_p0 6) fun x3 => some (x3 != 0))) : Option Bool)) fun o1 => bif o1 then (some ((⟨(⟨false, 0, 0, []⟩ : T_Area), (⟨false, 0, 0, []⟩ : T_Area), (⟨false, 0, 0, []⟩ : T_Area), []⟩ : T_Info), 6)) else (bnd (elt b_p0 2) fun x4 => bnd (m_ref17_read 0 b_p0 (IntKind.wrap .i64 x4)) fun r2 => bif (r2.2 != 0) then (some ((⟨(⟨false, 0, 0, []⟩ : T_Area), (⟨false, 0, 0, []⟩ : T_Area), (⟨false, 0, 0, []⟩ : T_Area), []⟩ : T_Info), r2.2)) else (bnd (elt b_p0 3) fun x5 => bnd (m_ref17_read 1 b_p0 (IntKind.wrap .i64 x5)) fun r3 => bif (r3.2 != 0) then (some ((⟨(⟨false, 0, 0, []⟩ : T_Area), (⟨false, 0, 0, []⟩ : T_Area), (⟨false, 0, 0, []⟩ : T_Area), []⟩ : T_Info), r3.2)) else (bnd (elt b_p0 4) fun x6 => bnd (m_ref17_read 2 b_p0 (IntKind.wrap .i64 x6)) fun r4 => bif (r4.2 != 0) then (some ((⟨(⟨false, 0, 0, []⟩ : T_Area), (⟨false, 0, 0, []⟩ : T_Area), (⟨false, 0, 0, []⟩ : T_Area), []⟩ : T_Info), r4.2)) else (bnd ((bnd (elt b_p0 5) fun x7 => bif (x7 != 0) then (bif decide ((IntKind.wrap .i64 (8 * (IntKind.wrap .i64 x7))) > (b_p0.length : Int)) then (some (.inl ((⟨(⟨false, 0, 0, []⟩ : T_Area), (⟨false, 0, 0, []⟩ : T_Area), (⟨false, 0, 0, []⟩ : T_Area), []⟩ : T_Info), 4))) else (bnd (sub b_p0 (IntKind.wrap .i64 (8 * (IntKind.wrap .i64 x7))) (b_p0.length : Int)) fun l2 => bnd (m_ref01_Copy l2) fun r5 => some (.inr r5))) else (some (.inr ([]))) : Option ((T_Info × Int) ⊕ List Int))) fun o2 => retOr o2 fun o3 => bnd (m_ref17_Valid (⟨r2.1, r3.1, r4.1, o3⟩ : T_Info)) fun r6 => bif !r6 then (some ((⟨(⟨false, 0, 0, []⟩ : T_Area), (⟨false, 0, 0, []⟩ : T_Area), (⟨false, 0, 0, []⟩ : T_Area), []⟩ : T_Info), 1)) else (some ((⟨r2.1, r3.1, r4.1, o3⟩ : T_Info), 0)))))))))

set_option maxHeartbeats 4000000 in
theorem c_ref17_Decode {b_p0 : (List Int)} {A1 : Option Addr} {c1 : Nat} {r : (T_Info × Int)} (h : m_ref17_Decode b_p0 = some r) :
  Fun Tryd.prog 28 [.slice A1 b_p0.length c1] [.ro (SlL eu8 A1 c1 b_p0)] (fun v_ F_ => ∃ (A1 : Option Addr) (c1 : Nat) (A2 : Option Addr) (c2 : Nat) (A3 : Option Addr) (c3 : Nat) (A4 : Option Addr) (c4 : Nat), v_ = .tuple #[.agg (bx_T_Info r.1 A1 c1 A2 c2 A3 c3 A4 c4).toArray, .int .i64 r.2] ∧ F_ = [.ro (SlL e_Field A1 c1 r.1.Chassis.Fields), .ro (SlL e_Field A2 c2 r.1.Board.Fields), .ro (SlL e_Field A3 c3 r.1.Product.Fields), .ro (SlL eu8 A4 c4 r.1.Multi)]) := by
 unfold m_ref17_Decode at h
 refine Fun.intro Tryd.func28 rfl rfl rfl fun w R => ?_
 refine St.seq ?_
 refine St.region ?_
 refine St.alloc rfl rfl fun g1 => ?_
 refine St.p rfl rfl ?_
 refine St.done ?_
 refine St.thenN ?_
 refine St.prune (Γ' := [(0, _), (2, _)]) ⟨rfl, rfl, trivial⟩ (.k (.k .z)) ?_
 refine St.seq ?_
 refine St.region ?_
 refine St.p rfl rfl ?_
 refine St.alloc rfl rfl fun g2 => ?_
 refine St.store 0 rfl rfl rfl rfl rfl rfl .z rfl ?_
 refine St.done ?_
 refine St.thenN ?_
 refine St.prune (Γ' := [(0, _), (2, _), (4, _)]) ⟨rfl, rfl, rfl, trivial⟩ (.k (.k (.k .z))) ?_
 refine St.seq ?_
 refine St.seq ?_
 refine St.region ?_
 iterate 3 refine St.p rfl rfl ?_
 refine St.done ?_
 refine St.thenN ?_
 refine St.prune (Γ' := [(0, _), (2, _), (4, _), (14, _)]) ⟨rfl, rfl, rfl, rfl, trivial⟩ (.k (.k (.k .z))) ?_
 refine St.cond _ rfl (fun hb1 => ?_) (fun hb1 => ?_)
 ·replace h := bif_t hb1 h
  refine St.seq ?_
  refine St.region ?_
  refine St.loadB 0 rfl rfl (.head _) rfl rfl ?_
  refine St.store 0 rfl rfl rfl rfl rfl rfl (.s .z) rfl ?_
  refine St.p rfl rfl ?_
  refine St.done ?_
  refine St.thenN ?_
  refine St.prune (Γ' := [(2, _), (3, _)]) ⟨rfl, rfl, trivial⟩ (.k (.d (.d .z))) ?_
  refine St.ret ?_
  repeat (first | refine St.thenR ?_ | refine St.blkR ?_)
  refine St.asrt (fun _ w => w.nilSl (cod e_Field)) ?_
  refine St.asrt (fun _ w => w.nilSl (cod e_Field)) ?_
  refine St.asrt (fun _ w => w.nilSl (cod e_Field)) ?_
  refine St.asrt (fun _ w => w.nilSl (cod eu8)) ?_
  injection h with h
  subst h
  exact St.finR Tryd.results28 (.cell rfl (.tail _ (.tail _ (.tail _ (.tail _ (.head _))))) rfl (.tmp rfl .nil)) rfl [.ro (SlL e_Field none 0 ([] : List T_Field)), .ro (SlL e_Field none 0 ([] : List T_Field)), .ro (SlL e_Field none 0 ([] : List T_Field)), .ro (SlL eu8 none 0 ([] : List Int))] ⟨none, 0, none, 0, none, 0, none, 0, rfl, rfl⟩ (fun _ w => ((.k (.k (.k (.k (.d (.d (.d (.d (.d .z))))))))) : Keep _ _).sat (Sat.dup (G := [.ro (SlL e_Field none 0 ([] : List T_Field)), .ro (SlL e_Field none 0 ([] : List T_Field)), .ro (SlL e_Field none 0 ([] : List T_Field)), .ro (SlL eu8 none 0 ([] : List Int))]) rfl ⟨(.tail _ (.head _)), (.tail _ (.head _)), (.tail _ (.head _)), (.head _), trivial⟩ w))
 ·replace h := bif_f hb1 h
  refine St.skip ?_
  refine St.thenN ?_
  refine St.prune (Γ' := [(0, _), (2, _), (4, _)]) ⟨rfl, rfl, rfl, trivial⟩ (.k (.k (.k .z))) ?_
  refine St.seq ?_
  refine St.seq ?_
  refine St.region ?_
  iterate 3 refine St.p rfl rfl ?_
  refine St.done ?_
  refine St.thenN ?_
  refine St.prune (Γ' := [(0, _), (2, _), (4, _), (18, _)]) ⟨rfl, rfl, rfl, rfl, trivial⟩ (.k (.k (.k .z))) ?_
  refine St.cond _ rfl (fun hb2 => ?_) (fun hb2 => ?_)
  ·replace h := bif_t hb2 h
   refine St.seq ?_
   refine St.region ?_
   refine St.loadB 0 rfl rfl (.head _) rfl rfl ?_
   refine St.store 0 rfl rfl rfl rfl rfl rfl (.s .z) rfl ?_
   refine St.p rfl rfl ?_
   refine St.done ?_
   refine St.thenN ?_
   refine St.prune (Γ' := [(2, _), (3, _)]) ⟨rfl, rfl, trivial⟩ (.k (.d (.d .z))) ?_
   refine St.ret ?_
   repeat (first | refine St.thenR ?_ | refine St.blkR ?_)
   refine St.asrt (fun _ w => w.nilSl (cod e_Field)) ?_
   refine St.asrt (fun _ w => w.nilSl (cod e_Field)) ?_
   refine St.asrt (fun _ w => w.nilSl (cod e_Field)) ?_
   refine St.asrt (fun _ w => w.nilSl (cod eu8)) ?_
   injection h with h
   subst h
   exact St.finR Tryd.results28 (.cell rfl (.tail _ (.tail _ (.tail _ (.tail _ (.head _))))) rfl (.tmp rfl .nil)) rfl [.ro (SlL e_Field none 0 ([] : List T_Field)), .ro (SlL e_Field none 0 ([] : List T_Field)), .ro (SlL e_Field none 0 ([] : List T_Field)), .ro (SlL eu8 none 0 ([] : List Int))] ⟨none, 0, none, 0, none, 0, none, 0, rfl, rfl⟩ (fun _ w => ((.k (.k (.k (.k (.d (.d (.d (.d (.d .z))))))))) : Keep _ _).sat (Sat.dup (G := [.ro (SlL e_Field none 0 ([] : List T_Field)), .ro (SlL e_Field none 0 ([] : List T_Field)), .ro (SlL e_Field none 0 ([] : List T_Field)), .ro (SlL eu8 none 0 ([] : List Int))]) rfl ⟨(.tail _ (.head _)), (.tail _ (.head _)), (.tail _ (.head _)), (.head _), trivial⟩ w))
  ·replace h := bif_f hb2 h
   refine St.skip ?_
   refine St.thenN ?_
   refine St.prune (Γ' := [(0, _), (2, _), (4, _)]) ⟨rfl, rfl, rfl, trivial⟩ (.k (.k (.k .z))) ?_
   refine St.seq ?_
   refine St.seq ?_
   refine St.region ?_
   refine St.p rfl rfl ?_
   obtain ⟨l1, hl1, h⟩ := bnd_e h
   refine St.sub (E := (cod eu8)) rfl rfl (.tail _ (.tail _ (.head _))) rfl rfl rfl rfl rfl rfl rfl hl1 fun A2 c2 => ?_
   obtain ⟨r1, hr1, h⟩ := bnd_e h
   refine St.callV (c_ref01_Sum8 hr1) ent30 rfl rfl rfl rfl ⟨(.head _), trivial⟩ ?_
   refine St.p rfl rfl ?_
   refine St.done ?_
   refine St.thenN ?_
   refine St.prune (Γ' := [(0, _), (2, _), (4, _), (23, _)]) ⟨rfl, rfl, rfl, rfl, trivial⟩ (.d (.k (.k (.k .z)))) ?_
   refine St.cond _ rfl (fun hb3 => ?_) (fun hb3 => ?_)
   ·replace h := bif_t hb3 h
    refine St.seq ?_
    refine St.region ?_
    refine St.loadB 0 rfl rfl (.head _) rfl rfl ?_
    refine St.store 0 rfl rfl rfl rfl rfl rfl (.s .z) rfl ?_
    refine St.p rfl rfl ?_
    refine St.done ?_
    refine St.thenN ?_
    refine St.prune (Γ' := [(2, _), (3, _)]) ⟨rfl, rfl, trivial⟩ (.k (.d (.d .z))) ?_
    refine St.ret ?_
    repeat (first | refine St.thenR ?_ | refine St.blkR ?_)
    refine St.asrt (fun _ w => w.nilSl (cod e_Field)) ?_
    refine St.asrt (fun _ w => w.nilSl (cod e_Field)) ?_
    refine St.asrt (fun _ w => w.nilSl (cod e_Field)) ?_
    refine St.asrt (fun _ w => w.nilSl (cod eu8)) ?_
    injection h with h
    subst h
    exact St.finR Tryd.results28 (.cell rfl (.tail _ (.tail _ (.tail _ (.tail _ (.head _))))) rfl (.tmp rfl .nil)) rfl [.ro (SlL e_Field none 0 ([] : List T_Field)), .ro (SlL e_Field none 0 ([] : List T_Field)), .ro (SlL e_Field none 0 ([] : List T_Field)), .ro (SlL eu8 none 0 ([] : List Int))] ⟨none, 0, none, 0, none, 0, none, 0, rfl, rfl⟩ (fun _ w => ((.k (.k (.k (.k (.d (.d (.d (.d (.d .z))))))))) : Keep _ _).sat (Sat.dup (G := [.ro (SlL e_Field none 0 ([] : List T_Field)), .ro (SlL e_Field none 0 ([] : List T_Field)), .ro (SlL e_Field none 0 ([] : List T_Field)), .ro (SlL eu8 none 0 ([] : List Int))]) rfl ⟨(.tail _ (.head _)), (.tail _ (.head _)), (.tail _ (.head _)), (.head _), trivial⟩ w))
   ·replace h := bif_f hb3 h
    refine St.skip ?_
    refine St.thenN ?_
    refine St.prune (Γ' := [(0, _), (2, _), (4, _)]) ⟨rfl, rfl, rfl, trivial⟩ (.k (.k (.k .z))) ?_
    refine St.seq ?_
    refine St.seq ?_
    obtain ⟨o1, hj1, h⟩ := bnd_e h
    refine St.cutE (fun (e1 : Unit) => [(0, .slice A1 b_p0.length c1), (2, .pointer (some ⟨g1, 0, none⟩)), (4, .pointer (some ⟨g2, 0, none⟩)), (40, .bool o1)]) (fun e1 => .res (Box g2 28 [.bool false, .int .u8 0, .int .u32 0, .slice none 0 0, .bool false, .int .u8 0, .int .u32 0, .slice none 0 0, .bool false, .int .u8 0, .int .u32 0, .slice none 0 0, .slice none 0 0]) :: .res (Box g1 28 [.bool false, .int .u8 0, .int .u32 0, .slice none 0 0, .bool false, .int .u8 0, .int .u32 0, .slice none 0 0, .bool false, .int .u8 0, .int .u32 0, .slice none 0 0, .slice none 0 0]) :: .ro (SlL eu8 A1 c1 b_p0) :: R) ?_ ?_
    ·refine St.region ?_
     refine St.p rfl rfl ?_
     obtain ⟨x1, hx1, hj1⟩ := bnd_e hj1
     refine St.ixL hx1 rfl rfl rfl (.tail _ (.tail _ (.head _))) rfl rfl rfl rfl rfl fun b1 ob1 => ?_
     refine St.load ob1 0 rfl rfl (.head _) rfl rfl ?_
     refine St.p rfl rfl ?_
     refine St.p rfl rfl ?_
     refine St.gSplit (dj := 29) _ rfl (fun hb4 => ?_) (fun hb4 => ?_)
     ·replace hj1 := bif_t hb4 hj1
      refine St.gOff (dj := 29) rfl rfl rfl rfl ?_
      refine St.gOff (dj := 29) rfl rfl rfl rfl ?_
      refine St.gOff (dj := 29) rfl rfl rfl rfl ?_
      refine St.gOff (dj := 29) rfl rfl rfl rfl ?_
      refine St.p rfl rfl ?_
      refine St.p rfl rfl ?_
      refine St.gOff (dj := 35) rfl rfl rfl rfl ?_
      refine St.gOff (dj := 35) rfl rfl rfl rfl ?_
      refine St.gOff (dj := 35) rfl rfl rfl rfl ?_
      refine St.gOff (dj := 35) rfl rfl rfl rfl ?_
      refine St.p rfl rfl ?_
      refine St.done ?_
      injection hj1 with hj1
      subst hj1
      refine St.thenN ?_
      exact St.hereE () ⟨rfl, rfl, rfl, rfl, trivial⟩ (fun _ w => ((.d (.k (.k (.k .z)))) : Keep _ _).sat w)
     ·replace hj1 := bif_f hb4 hj1
      refine St.gOn (dj := 29) rfl rfl ?_
      refine St.p rfl rfl ?_
      refine St.gOn (dj := 29) rfl rfl ?_
      obtain ⟨x2, hx2, hj1⟩ := bnd_e hj1
      refine St.ixL hx2 rfl rfl rfl (.tail _ (.tail _ (.tail _ (.head _)))) rfl rfl rfl rfl rfl fun b2 ob2 => ?_
      refine St.gOn (dj := 29) rfl rfl ?_
      refine St.load ob2 0 rfl rfl (.head _) rfl rfl ?_
      refine St.gOn (dj := 29) rfl rfl ?_
      iterate 3 refine St.p rfl rfl ?_
      refine St.gSplit (dj := 35) _ rfl (fun hb5 => ?_) (fun hb5 => ?_)
      ·replace hj1 := bif_t hb5 hj1
       refine St.gOff (dj := 35) rfl rfl rfl rfl ?_
       refine St.gOff (dj := 35) rfl rfl rfl rfl ?_
       refine St.gOff (dj := 35) rfl rfl rfl rfl ?_
       refine St.gOff (dj := 35) rfl rfl rfl rfl ?_
       refine St.p rfl rfl ?_
       refine St.done ?_
       injection hj1 with hj1
       subst hj1
       refine St.thenN ?_
       exact St.hereE () ⟨rfl, rfl, rfl, rfl, trivial⟩ (fun _ w => ((.d (.d (.k (.k (.k .z))))) : Keep _ _).sat w)
      ·replace hj1 := bif_f hb5 hj1
       refine St.gOn (dj := 35) rfl rfl ?_
       refine St.p rfl rfl ?_
       refine St.gOn (dj := 35) rfl rfl ?_
       obtain ⟨x3, hx3, hj1⟩ := bnd_e hj1
       refine St.ixL hx3 rfl rfl rfl (.tail _ (.tail _ (.tail _ (.tail _ (.head _))))) rfl rfl rfl rfl rfl fun b3 ob3 => ?_
       refine St.gOn (dj := 35) rfl rfl ?_
       refine St.load ob3 0 rfl rfl (.head _) rfl rfl ?_
       refine St.gOn (dj := 35) rfl rfl ?_
       refine St.p rfl rfl ?_
       refine St.p rfl rfl ?_
       refine St.done ?_
       injection hj1 with hj1
       subst hj1
       refine St.thenN ?_
       exact St.hereE () ⟨rfl, rfl, rfl, rfl, trivial⟩ (fun _ w => ((.d (.d (.d (.k (.k (.k .z)))))) : Keep _ _).sat w)
    ·rintro e1
     refine St.cond _ rfl (fun hb6 => ?_) (fun hb6 => ?_)
     ·replace h := bif_t hb6 h
      refine St.seq ?_
      refine St.region ?_
      refine St.loadB 0 rfl rfl (.head _) rfl rfl ?_
      refine St.store 0 rfl rfl rfl rfl rfl rfl (.s .z) rfl ?_
      refine St.p rfl rfl ?_
      refine St.done ?_
      refine St.thenN ?_
      refine St.prune (Γ' := [(2, _), (3, _)]) ⟨rfl, rfl, trivial⟩ (.k (.d (.d .z))) ?_
      refine St.ret ?_
      repeat (first | refine St.thenR ?_ | refine St.blkR ?_)
      refine St.asrt (fun _ w => w.nilSl (cod e_Field)) ?_
      refine St.asrt (fun _ w => w.nilSl (cod e_Field)) ?_
      refine St.asrt (fun _ w => w.nilSl (cod e_Field)) ?_
      refine St.asrt (fun _ w => w.nilSl (cod eu8)) ?_
      injection h with h
      subst h
      exact St.finR Tryd.results28 (.cell rfl (.tail _ (.tail _ (.tail _ (.tail _ (.head _))))) rfl (.tmp rfl .nil)) rfl [.ro (SlL e_Field none 0 ([] : List T_Field)), .ro (SlL e_Field none 0 ([] : List T_Field)), .ro (SlL e_Field none 0 ([] : List T_Field)), .ro (SlL eu8 none 0 ([] : List Int))] ⟨none, 0, none, 0, none, 0, none, 0, rfl, rfl⟩ (fun _ w => ((.k (.k (.k (.k (.d (.d (.d (.d (.d .z))))))))) : Keep _ _).sat (Sat.dup (G := [.ro (SlL e_Field none 0 ([] : List T_Field)), .ro (SlL e_Field none 0 ([] : List T_Field)), .ro (SlL e_Field none 0 ([] : List T_Field)), .ro (SlL eu8 none 0 ([] : List Int))]) rfl ⟨(.tail _ (.head _)), (.tail _ (.head _)), (.tail _ (.head _)), (.head _), trivial⟩ w))
     ·replace h := bif_f hb6 h
      refine St.skip ?_
      refine St.thenN ?_
      refine St.prune (Γ' := [(0, _), (2, _), (4, _)]) ⟨rfl, rfl, rfl, trivial⟩ (.k (.k (.k .z))) ?_
      refine St.seq ?_
      refine St.region ?_
      refine St.alloc rfl rfl fun g3 => ?_
      refine St.done ?_
      refine St.thenN ?_
      refine St.seq ?_
      refine St.seq ?_
      refine St.region ?_
      refine St.p rfl rfl ?_
      refine St.done ?_
      refine St.thenN ?_
      refine St.block ?_
      refine St.rounds 9 ?_
      refine St.round ?_
      refine St.seq ?_
      refine St.seq ?_
      refine St.region ?_
      refine St.p rfl rfl ?_
      refine St.p rfl rfl ?_
      refine St.done ?_
      refine St.thenN ?_
      refine St.prune (Γ' := [(0, _), (2, _), (4, _), (5, _), (6, _), (43, _)]) ⟨rfl, rfl, rfl, rfl, rfl, rfl, trivial⟩ (.k (.k (.k (.k .z)))) ?_
      refine St.condT rfl ?_
      refine St.skip ?_
      refine St.thenN ?_
      refine St.prune (Γ' := [(0, _), (2, _), (4, _), (5, _), (6, _)]) ⟨rfl, rfl, rfl, rfl, rfl, trivial⟩ (.k (.k (.k (.k .z)))) ?_
      refine St.seq ?_
      refine St.block ?_
      refine St.seq ?_
      refine St.region ?_
      iterate 5 refine St.p rfl rfl ?_
      obtain ⟨x4, hx4, h⟩ := bnd_e h
      refine St.ixL hx4 rfl rfl rfl (.tail _ (.tail _ (.tail _ (.head _)))) rfl rfl rfl rfl rfl fun b4 ob4 => ?_
      refine St.load ob4 0 rfl rfl (.head _) rfl rfl ?_
      refine St.p rfl rfl ?_
      obtain ⟨r2, hr2, h⟩ := bnd_e h
      refine St.call (c_ref17_read hr2) ent42 rfl rfl rfl (fun _ w => Sat.dup (G := [.ro (SlL eu8 A1 c1 b_p0)]) rfl ⟨(.tail _ (.tail _ (.tail _ (.tail _ (.head _))))), trivial⟩ w) ?_
      rintro _ _ ⟨A3, c3, rfl, rfl⟩
      refine St.asrt (F' := .ro (SlL e_Field A3 c3 r2.1.Fields) :: .ro (Cells b4 ob4 [.int .u8 x4]) :: .res (Box g3 69 [.bool false, .int .u8 0, .int .u32 0, .slice none 0 0, .bool false, .int .u8 0, .int .u32 0, .slice none 0 0, .bool false, .int .u8 0, .int .u32 0, .slice none 0 0]) :: .res (Box g2 28 [.bool false, .int .u8 0, .int .u32 0, .slice none 0 0, .bool false, .int .u8 0, .int .u32 0, .slice none 0 0, .bool false, .int .u8 0, .int .u32 0, .slice none 0 0, .slice none 0 0]) :: .res (Box g1 28 [.bool false, .int .u8 0, .int .u32 0, .slice none 0 0, .bool false, .int .u8 0, .int .u32 0, .slice none 0 0, .bool false, .int .u8 0, .int .u32 0, .slice none 0 0, .slice none 0 0]) :: .ro (SlL eu8 A1 c1 b_p0) :: R) (fun _ w => w) ?_
      iterate 3 refine St.p rfl rfl ?_
      refine St.alloc rfl rfl fun g4 => ?_
      refine St.store 0 rfl rfl rfl rfl rfl rfl .z rfl ?_
      refine St.p rfl rfl ?_
      refine St.done ?_
      refine St.thenN ?_
      refine St.prune (Γ' := [(0, _), (2, _), (4, _), (5, _), (6, _), (7, _), (8, _)]) ⟨rfl, rfl, rfl, rfl, rfl, rfl, rfl, trivial⟩ (.k (.k (.d (.k (.k (.k (.k .z))))))) ?_
      refine St.seq ?_
      refine St.seq ?_
      refine St.region ?_
      refine St.p rfl rfl ?_
      refine St.p rfl rfl ?_
      refine St.done ?_
      refine St.thenN ?_
      refine St.prune (Γ' := [(0, _), (2, _), (4, _), (5, _), (6, _), (7, _), (8, _), (59, _)]) ⟨rfl, rfl, rfl, rfl, rfl, rfl, rfl, rfl, trivial⟩ (.k (.k (.k (.k (.k (.k .z)))))) ?_
      refine St.cond _ rfl (fun hb7 => ?_) (fun hb7 => ?_)
      ·replace h := bif_t hb7 h
       refine St.seq ?_
       refine St.region ?_
       refine St.loadB 0 rfl rfl (.tail _ (.tail _ (.tail _ (.head _)))) rfl rfl ?_
       refine St.p rfl rfl ?_
       refine St.store 0 rfl rfl rfl rfl rfl rfl (.s (.s (.s (.s .z)))) rfl ?_
       refine St.p rfl rfl ?_
       refine St.done ?_
       refine St.thenN ?_
       refine St.prune (Γ' := [(2, _), (3, _)]) ⟨rfl, rfl, trivial⟩ (.k (.d (.d (.d (.d (.d .z)))))) ?_
       refine St.ret ?_
       repeat (first | refine St.thenR ?_ | refine St.blkR ?_)
       refine St.asrt (fun _ w => w.nilSl (cod e_Field)) ?_
       refine St.asrt (fun _ w => w.nilSl (cod e_Field)) ?_
       refine St.asrt (fun _ w => w.nilSl (cod e_Field)) ?_
       refine St.asrt (fun _ w => w.nilSl (cod eu8)) ?_
       injection h with h
       subst h
       exact St.finR Tryd.results28 (.cell rfl (.tail _ (.tail _ (.tail _ (.tail _ (.head _))))) rfl (.tmp rfl .nil)) rfl [.ro (SlL e_Field none 0 ([] : List T_Field)), .ro (SlL e_Field none 0 ([] : List T_Field)), .ro (SlL e_Field none 0 ([] : List T_Field)), .ro (SlL eu8 none 0 ([] : List Int))] ⟨none, 0, none, 0, none, 0, none, 0, rfl, rfl⟩ (fun _ w => ((.k (.k (.k (.k (.d (.d (.d (.d (.d .z))))))))) : Keep _ _).sat (Sat.dup (G := [.ro (SlL e_Field none 0 ([] : List T_Field)), .ro (SlL e_Field none 0 ([] : List T_Field)), .ro (SlL e_Field none 0 ([] : List T_Field)), .ro (SlL eu8 none 0 ([] : List Int))]) rfl ⟨(.tail _ (.head _)), (.tail _ (.head _)), (.tail _ (.head _)), (.head _), trivial⟩ w))
      ·replace h := bif_f hb7 h
       refine St.skip ?_
       refine St.thenN ?_
       refine St.prune (Γ' := [(0, _), (2, _), (4, _), (5, _), (6, _), (7, _)]) ⟨rfl, rfl, rfl, rfl, rfl, rfl, trivial⟩ (.k (.k (.k (.k (.k (.k .z)))))) ?_
       refine St.region ?_
       refine St.p rfl rfl ?_
       refine St.loadB 0 rfl rfl (.head _) rfl rfl ?_
       refine St.p rfl rfl ?_
       refine St.store 0 rfl rfl rfl rfl rfl rfl (.s (.s .z)) rfl ?_
       refine St.done ?_
       refine St.blkN ?_
       refine St.thenN ?_
       refine St.prune (Γ' := [(0, _), (2, _), (4, _), (5, _), (6, _)]) ⟨rfl, rfl, rfl, rfl, rfl, trivial⟩ (.k (.d (.k (.k (.k (.k .z)))))) ?_
       refine St.region ?_
       iterate 3 refine St.p rfl rfl ?_
       refine St.done ?_
       refine St.thenN ?_
       refine St.round ?_
       refine St.prune (Γ' := [(0, _), (2, _), (4, _), (5, _), (6, _)]) ⟨rfl, rfl, rfl, rfl, rfl, trivial⟩ (.k (.k (.k (.k (.k .z))))) ?_
       refine St.seq ?_
       refine St.seq ?_
       refine St.region ?_
       refine St.p rfl rfl ?_
       refine St.p rfl rfl ?_
       refine St.done ?_
       refine St.thenN ?_
       refine St.prune (Γ' := [(0, _), (2, _), (4, _), (5, _), (6, _), (43, _)]) ⟨rfl, rfl, rfl, rfl, rfl, rfl, trivial⟩ (.k (.k (.k (.k (.k .z))))) ?_
       refine St.condT rfl ?_
       refine St.skip ?_
       refine St.thenN ?_
       refine St.prune (Γ' := [(0, _), (2, _), (4, _), (5, _), (6, _)]) ⟨rfl, rfl, rfl, rfl, rfl, trivial⟩ (.k (.k (.k (.k (.k .z))))) ?_
       refine St.seq ?_
       refine St.block ?_
       refine St.seq ?_
       refine St.region ?_
       iterate 5 refine St.p rfl rfl ?_
       obtain ⟨x5, hx5, h⟩ := bnd_e h
       refine St.ixL hx5 rfl rfl rfl (.tail _ (.tail _ (.tail _ (.tail _ (.head _))))) rfl rfl rfl rfl rfl fun b5 ob5 => ?_
       refine St.load ob5 0 rfl rfl (.head _) rfl rfl ?_
       refine St.p rfl rfl ?_
       obtain ⟨r3, hr3, h⟩ := bnd_e h
       refine St.call (c_ref17_read hr3) ent42 rfl rfl rfl (fun _ w => Sat.dup (G := [.ro (SlL eu8 A1 c1 b_p0)]) rfl ⟨(.tail _ (.tail _ (.tail _ (.tail _ (.tail _ (.head _)))))), trivial⟩ w) ?_
       rintro _ _ ⟨A4, c4, rfl, rfl⟩
       refine St.asrt (F' := .ro (SlL e_Field A4 c4 r3.1.Fields) :: .ro (Cells b5 ob5 [.int .u8 x5]) :: .res (Box g3 69 [.bool r2.1.Present, .int .u8 r2.1.Code, .int .u32 r2.1.Minutes, .slice A3 r2.1.Fields.length c3, .bool false, .int .u8 0, .int .u32 0, .slice none 0 0, .bool false, .int .u8 0, .int .u32 0, .slice none 0 0]) :: .ro (SlL e_Field A3 c3 r2.1.Fields) :: .res (Box g2 28 [.bool false, .int .u8 0, .int .u32 0, .slice none 0 0, .bool false, .int .u8 0, .int .u32 0, .slice none 0 0, .bool false, .int .u8 0, .int .u32 0, .slice none 0 0, .slice none 0 0]) :: .res (Box g1 28 [.bool false, .int .u8 0, .int .u32 0, .slice none 0 0, .bool false, .int .u8 0, .int .u32 0, .slice none 0 0, .bool false, .int .u8 0, .int .u32 0, .slice none 0 0, .slice none 0 0]) :: .ro (SlL eu8 A1 c1 b_p0) :: R) (fun _ w => w) ?_
       iterate 3 refine St.p rfl rfl ?_
       refine St.alloc rfl rfl fun g5 => ?_
       refine St.store 0 rfl rfl rfl rfl rfl rfl .z rfl ?_
       refine St.p rfl rfl ?_
       refine St.done ?_
       refine St.thenN ?_
       refine St.prune (Γ' := [(0, _), (2, _), (4, _), (5, _), (6, _), (7, _), (8, _)]) ⟨rfl, rfl, rfl, rfl, rfl, rfl, rfl, trivial⟩ (.k (.k (.d (.k (.k (.k (.k (.k .z)))))))) ?_
       refine St.seq ?_
       refine St.seq ?_
       refine St.region ?_
       refine St.p rfl rfl ?_
       refine St.p rfl rfl ?_
       refine St.done ?_
       refine St.thenN ?_
       refine St.prune (Γ' := [(0, _), (2, _), (4, _), (5, _), (6, _), (7, _), (8, _), (59, _)]) ⟨rfl, rfl, rfl, rfl, rfl, rfl, rfl, rfl, trivial⟩ (.k (.k (.k (.k (.k (.k (.k .z))))))) ?_
       refine St.cond _ rfl (fun hb8 => ?_) (fun hb8 => ?_)
       ·replace h := bif_t hb8 h
        refine St.seq ?_
        refine St.region ?_
        refine St.loadB 0 rfl rfl (.tail _ (.tail _ (.tail _ (.tail _ (.head _))))) rfl rfl ?_
        refine St.p rfl rfl ?_
        refine St.store 0 rfl rfl rfl rfl rfl rfl (.s (.s (.s (.s (.s .z))))) rfl ?_
        refine St.p rfl rfl ?_
        refine St.done ?_
        refine St.thenN ?_
        refine St.prune (Γ' := [(2, _), (3, _)]) ⟨rfl, rfl, trivial⟩ (.k (.d (.d (.d (.d (.d (.d .z))))))) ?_
        refine St.ret ?_
        repeat (first | refine St.thenR ?_ | refine St.blkR ?_)
        refine St.asrt (fun _ w => w.nilSl (cod e_Field)) ?_
        refine St.asrt (fun _ w => w.nilSl (cod e_Field)) ?_
        refine St.asrt (fun _ w => w.nilSl (cod e_Field)) ?_
        refine St.asrt (fun _ w => w.nilSl (cod eu8)) ?_
        injection h with h
        subst h
        exact St.finR Tryd.results28 (.cell rfl (.tail _ (.tail _ (.tail _ (.tail _ (.head _))))) rfl (.tmp rfl .nil)) rfl [.ro (SlL e_Field none 0 ([] : List T_Field)), .ro (SlL e_Field none 0 ([] : List T_Field)), .ro (SlL e_Field none 0 ([] : List T_Field)), .ro (SlL eu8 none 0 ([] : List Int))] ⟨none, 0, none, 0, none, 0, none, 0, rfl, rfl⟩ (fun _ w => ((.k (.k (.k (.k (.d (.d (.d (.d (.d .z))))))))) : Keep _ _).sat (Sat.dup (G := [.ro (SlL e_Field none 0 ([] : List T_Field)), .ro (SlL e_Field none 0 ([] : List T_Field)), .ro (SlL e_Field none 0 ([] : List T_Field)), .ro (SlL eu8 none 0 ([] : List Int))]) rfl ⟨(.tail _ (.head _)), (.tail _ (.head _)), (.tail _ (.head _)), (.head _), trivial⟩ w))
       ·replace h := bif_f hb8 h
        refine St.skip ?_
        refine St.thenN ?_
        refine St.prune (Γ' := [(0, _), (2, _), (4, _), (5, _), (6, _), (7, _)]) ⟨rfl, rfl, rfl, rfl, rfl, rfl, trivial⟩ (.k (.k (.k (.k (.k (.k (.k .z))))))) ?_
        refine St.region ?_
        refine St.p rfl rfl ?_
        refine St.loadB 0 rfl rfl (.head _) rfl rfl ?_
        refine St.p rfl rfl ?_
        refine St.store 4 rfl rfl rfl rfl rfl rfl (.s (.s .z)) rfl ?_
        refine St.done ?_
        refine St.blkN ?_
        refine St.thenN ?_
        refine St.prune (Γ' := [(0, _), (2, _), (4, _), (5, _), (6, _)]) ⟨rfl, rfl, rfl, rfl, rfl, trivial⟩ (.k (.d (.k (.k (.k (.k (.k .z))))))) ?_
        refine St.region ?_
        iterate 3 refine St.p rfl rfl ?_
        refine St.done ?_
        refine St.thenN ?_
        refine St.round ?_
        refine St.prune (Γ' := [(0, _), (2, _), (4, _), (5, _), (6, _)]) ⟨rfl, rfl, rfl, rfl, rfl, trivial⟩ (.k (.k (.k (.k (.k (.k .z)))))) ?_
        refine St.seq ?_
        refine St.seq ?_
        refine St.region ?_
        refine St.p rfl rfl ?_
        refine St.p rfl rfl ?_
        refine St.done ?_
        refine St.thenN ?_
        refine St.prune (Γ' := [(0, _), (2, _), (4, _), (5, _), (6, _), (43, _)]) ⟨rfl, rfl, rfl, rfl, rfl, rfl, trivial⟩ (.k (.k (.k (.k (.k (.k .z)))))) ?_
        refine St.condT rfl ?_
        refine St.skip ?_
        refine St.thenN ?_
        refine St.prune (Γ' := [(0, _), (2, _), (4, _), (5, _), (6, _)]) ⟨rfl, rfl, rfl, rfl, rfl, trivial⟩ (.k (.k (.k (.k (.k (.k .z)))))) ?_
        refine St.seq ?_
        refine St.block ?_
        refine St.seq ?_
        refine St.region ?_
        iterate 5 refine St.p rfl rfl ?_
        obtain ⟨x6, hx6, h⟩ := bnd_e h
        refine St.ixL hx6 rfl rfl rfl (.tail _ (.tail _ (.tail _ (.tail _ (.tail _ (.head _)))))) rfl rfl rfl rfl rfl fun b6 ob6 => ?_
        refine St.load ob6 0 rfl rfl (.head _) rfl rfl ?_
        refine St.p rfl rfl ?_
        obtain ⟨r4, hr4, h⟩ := bnd_e h
        refine St.call (c_ref17_read hr4) ent42 rfl rfl rfl (fun _ w => Sat.dup (G := [.ro (SlL eu8 A1 c1 b_p0)]) rfl ⟨(.tail _ (.tail _ (.tail _ (.tail _ (.tail _ (.tail _ (.head _))))))), trivial⟩ w) ?_
        rintro _ _ ⟨A5, c5, rfl, rfl⟩
        refine St.asrt (F' := .ro (SlL e_Field A5 c5 r4.1.Fields) :: .ro (Cells b6 ob6 [.int .u8 x6]) :: .res (Box g3 69 [.bool r2.1.Present, .int .u8 r2.1.Code, .int .u32 r2.1.Minutes, .slice A3 r2.1.Fields.length c3, .bool r3.1.Present, .int .u8 r3.1.Code, .int .u32 r3.1.Minutes, .slice A4 r3.1.Fields.length c4, .bool false, .int .u8 0, .int .u32 0, .slice none 0 0]) :: .ro (SlL e_Field A4 c4 r3.1.Fields) :: .ro (SlL e_Field A3 c3 r2.1.Fields) :: .res (Box g2 28 [.bool false, .int .u8 0, .int .u32 0, .slice none 0 0, .bool false, .int .u8 0, .int .u32 0, .slice none 0 0, .bool false, .int .u8 0, .int .u32 0, .slice none 0 0, .slice none 0 0]) :: .res (Box g1 28 [.bool false, .int .u8 0, .int .u32 0, .slice none 0 0, .bool false, .int .u8 0, .int .u32 0, .slice none 0 0, .bool false, .int .u8 0, .int .u32 0, .slice none 0 0, .slice none 0 0]) :: .ro (SlL eu8 A1 c1 b_p0) :: R) (fun _ w => w) ?_
        iterate 3 refine St.p rfl rfl ?_
        refine St.alloc rfl rfl fun g6 => ?_
        refine St.store 0 rfl rfl rfl rfl rfl rfl .z rfl ?_
        refine St.p rfl rfl ?_
        refine St.done ?_
        refine St.thenN ?_
        refine St.prune (Γ' := [(0, _), (2, _), (4, _), (5, _), (6, _), (7, _), (8, _)]) ⟨rfl, rfl, rfl, rfl, rfl, rfl, rfl, trivial⟩ (.k (.k (.d (.k (.k (.k (.k (.k (.k .z))))))))) ?_
        refine St.seq ?_
        refine St.seq ?_
        refine St.region ?_
        refine St.p rfl rfl ?_
        refine St.p rfl rfl ?_
        refine St.done ?_
        refine St.thenN ?_
        refine St.prune (Γ' := [(0, _), (2, _), (4, _), (5, _), (6, _), (7, _), (8, _), (59, _)]) ⟨rfl, rfl, rfl, rfl, rfl, rfl, rfl, rfl, trivial⟩ (.k (.k (.k (.k (.k (.k (.k (.k .z)))))))) ?_
        refine St.cond _ rfl (fun hb9 => ?_) (fun hb9 => ?_)
        ·replace h := bif_t hb9 h
         refine St.seq ?_
         refine St.region ?_
         refine St.loadB 0 rfl rfl (.tail _ (.tail _ (.tail _ (.tail _ (.tail _ (.head _)))))) rfl rfl ?_
         refine St.p rfl rfl ?_
         refine St.store 0 rfl rfl rfl rfl rfl rfl (.s (.s (.s (.s (.s (.s .z)))))) rfl ?_
         refine St.p rfl rfl ?_
         refine St.done ?_
         refine St.thenN ?_
         refine St.prune (Γ' := [(2, _), (3, _)]) ⟨rfl, rfl, trivial⟩ (.k (.d (.d (.d (.d (.d (.d (.d .z)))))))) ?_
         refine St.ret ?_
         repeat (first | refine St.thenR ?_ | refine St.blkR ?_)
         refine St.asrt (fun _ w => w.nilSl (cod e_Field)) ?_
         refine St.asrt (fun _ w => w.nilSl (cod e_Field)) ?_
         refine St.asrt (fun _ w => w.nilSl (cod e_Field)) ?_
         refine St.asrt (fun _ w => w.nilSl (cod eu8)) ?_
         injection h with h
         subst h
         exact St.finR Tryd.results28 (.cell rfl (.tail _ (.tail _ (.tail _ (.tail _ (.head _))))) rfl (.tmp rfl .nil)) rfl [.ro (SlL e_Field none 0 ([] : List T_Field)), .ro (SlL e_Field none 0 ([] : List T_Field)), .ro (SlL e_Field none 0 ([] : List T_Field)), .ro (SlL eu8 none 0 ([] : List Int))] ⟨none, 0, none, 0, none, 0, none, 0, rfl, rfl⟩ (fun _ w => ((.k (.k (.k (.k (.d (.d (.d (.d (.d .z))))))))) : Keep _ _).sat (Sat.dup (G := [.ro (SlL e_Field none 0 ([] : List T_Field)), .ro (SlL e_Field none 0 ([] : List T_Field)), .ro (SlL e_Field none 0 ([] : List T_Field)), .ro (SlL eu8 none 0 ([] : List Int))]) rfl ⟨(.tail _ (.head _)), (.tail _ (.head _)), (.tail _ (.head _)), (.head _), trivial⟩ w))
        ·replace h := bif_f hb9 h
         refine St.skip ?_
         refine St.thenN ?_
         refine St.prune (Γ' := [(0, _), (2, _), (4, _), (5, _), (6, _), (7, _)]) ⟨rfl, rfl, rfl, rfl, rfl, rfl, trivial⟩ (.k (.k (.k (.k (.k (.k (.k (.k .z)))))))) ?_
         refine St.region ?_
         refine St.p rfl rfl ?_
         refine St.loadB 0 rfl rfl (.head _) rfl rfl ?_
         refine St.p rfl rfl ?_
         refine St.store 8 rfl rfl rfl rfl rfl rfl (.s (.s .z)) rfl ?_
         refine St.done ?_
         refine St.blkN ?_
         refine St.thenN ?_
         refine St.prune (Γ' := [(0, _), (2, _), (4, _), (5, _), (6, _)]) ⟨rfl, rfl, rfl, rfl, rfl, trivial⟩ (.k (.d (.k (.k (.k (.k (.k (.k .z)))))))) ?_
         refine St.region ?_
         iterate 3 refine St.p rfl rfl ?_
         refine St.done ?_
         refine St.thenN ?_
         refine St.round ?_
         refine St.prune (Γ' := [(0, _), (2, _), (4, _), (5, _), (6, _)]) ⟨rfl, rfl, rfl, rfl, rfl, trivial⟩ (.k (.k (.k (.k (.k (.k (.k .z))))))) ?_
         refine St.seq ?_
         refine St.seq ?_
         refine St.region ?_
         refine St.p rfl rfl ?_
         refine St.p rfl rfl ?_
         refine St.done ?_
         refine St.thenN ?_
         refine St.prune (Γ' := [(0, _), (2, _), (4, _), (5, _), (6, _), (43, _)]) ⟨rfl, rfl, rfl, rfl, rfl, rfl, trivial⟩ (.k (.k (.k (.k (.k (.k (.k .z))))))) ?_
         refine St.condF rfl ?_
         refine St.exit ?_
         repeat (first | refine St.thenX ?_ | refine St.blkMiss rfl ?_)
         refine St.blkHit ?_
         refine St.thenN ?_
         refine St.prune (Γ' := [(0, _), (2, _), (4, _), (5, _)]) ⟨rfl, rfl, rfl, rfl, trivial⟩ (.k (.k (.k (.k (.k (.k (.k .z))))))) ?_
         refine St.seq ?_
         refine St.region ?_
         refine St.p rfl rfl ?_
         refine St.loadB 0 rfl rfl (.head _) rfl rfl ?_
         refine St.p rfl rfl ?_
         refine St.loadB 4 rfl rfl (.head _) rfl rfl ?_
         refine St.p rfl rfl ?_
         refine St.loadB 8 rfl rfl (.head _) rfl rfl ?_
         refine St.p rfl rfl ?_
         refine St.alloc rfl rfl fun g7 => ?_
         refine St.store 0 rfl rfl rfl rfl rfl rfl .z rfl ?_
         refine St.done ?_
         refine St.thenN ?_
         refine St.prune (Γ' := [(0, _), (2, _), (4, _), (9, _)]) ⟨rfl, rfl, rfl, rfl, trivial⟩ (.k (.d (.k (.k (.k (.k (.k (.k .z)))))))) ?_
         refine St.seq ?_
         obtain ⟨o2, hj2, h⟩ := bnd_e h
         refine St.cutI (fun (o3 : List Int) (e2 : Option Addr × Nat) => [(2, .pointer (some ⟨g1, 0, none⟩)), (4, .pointer (some ⟨g2, 0, none⟩)), (9, .pointer (some ⟨g7, 0, none⟩))]) (fun o3 e2 => .res (OwnL eu8 5 e2.1 e2.2 o3) :: .res (Box g7 28 [.bool r2.1.Present, .int .u8 r2.1.Code, .int .u32 r2.1.Minutes, .slice A3 r2.1.Fields.length c3, .bool r3.1.Present, .int .u8 r3.1.Code, .int .u32 r3.1.Minutes, .slice A4 r3.1.Fields.length c4, .bool r4.1.Present, .int .u8 r4.1.Code, .int .u32 r4.1.Minutes, .slice A5 r4.1.Fields.length c5, .slice e2.1 o3.length e2.2]) :: .ro (SlL e_Field A5 c5 r4.1.Fields) :: .ro (SlL e_Field A4 c4 r3.1.Fields) :: .ro (SlL e_Field A3 c3 r2.1.Fields) :: .res (Box g2 28 [.bool false, .int .u8 0, .int .u32 0, .slice none 0 0, .bool false, .int .u8 0, .int .u32 0, .slice none 0 0, .bool false, .int .u8 0, .int .u32 0, .slice none 0 0, .slice none 0 0]) :: .res (Box g1 28 [.bool false, .int .u8 0, .int .u32 0, .slice none 0 0, .bool false, .int .u8 0, .int .u32 0, .slice none 0 0, .bool false, .int .u8 0, .int .u32 0, .slice none 0 0, .slice none 0 0]) :: R) (fun o3 => o2 = .inr o3) ?_ ?_
         ·refine St.seq ?_
          refine St.region ?_
          refine St.p rfl rfl ?_
          obtain ⟨x7, hx7, hj2⟩ := bnd_e hj2
          refine St.ixL hx7 rfl rfl rfl (.tail _ (.tail _ (.tail _ (.tail _ (.tail _ (.tail _ (.head _))))))) rfl rfl rfl rfl rfl fun b7 ob7 => ?_
          refine St.load ob7 0 rfl rfl (.head _) rfl rfl ?_
          refine St.p rfl rfl ?_
          refine St.done ?_
          refine St.thenN ?_
          refine St.prune (Γ' := [(0, _), (2, _), (4, _), (9, _), (75, _)]) ⟨rfl, rfl, rfl, rfl, rfl, trivial⟩ (.d (.k (.k (.k (.k (.k (.k (.k .z)))))))) ?_
          refine St.cond _ rfl (fun hb10 => ?_) (fun hb10 => ?_)
          ·replace hj2 := bif_t hb10 hj2
           refine St.seq ?_
           refine St.region ?_
           refine St.p rfl rfl ?_
           refine St.ixL hx7 rfl rfl rfl (.tail _ (.tail _ (.tail _ (.tail _ (.tail _ (.tail _ (.head _))))))) rfl rfl rfl rfl rfl fun b8 ob8 => ?_
           refine St.load ob8 0 rfl rfl (.head _) rfl rfl ?_
           iterate 3 refine St.p rfl rfl ?_
           refine St.done ?_
           refine St.thenN ?_
           refine St.prune (Γ' := [(0, _), (2, _), (4, _), (9, _), (10, _)]) ⟨rfl, rfl, rfl, rfl, rfl, trivial⟩ (.d (.k (.k (.k (.k (.k (.k (.k .z)))))))) ?_
           refine St.seq ?_
           refine St.seq ?_
           refine St.region ?_
           iterate 4 refine St.p rfl rfl ?_
           refine St.done ?_
           refine St.thenN ?_
           refine St.prune (Γ' := [(0, _), (2, _), (4, _), (9, _), (10, _), (84, _)]) ⟨rfl, rfl, rfl, rfl, rfl, rfl, trivial⟩ (.k (.k (.k (.k (.k (.k (.k .z))))))) ?_
           refine St.cond _ rfl (fun hb11 => ?_) (fun hb11 => ?_)
           ·replace hj2 := bif_t hb11 hj2
            refine St.seq ?_
            refine St.region ?_
            refine St.loadB 0 rfl rfl (.tail _ (.tail _ (.tail _ (.tail _ (.head _))))) rfl rfl ?_
            refine St.store 0 rfl rfl rfl rfl rfl rfl (.s (.s (.s (.s (.s .z))))) rfl ?_
            refine St.p rfl rfl ?_
            refine St.done ?_
            refine St.thenN ?_
            refine St.prune (Γ' := [(2, _), (3, _)]) ⟨rfl, rfl, trivial⟩ (.k (.d (.d (.d (.d (.d (.d .z))))))) ?_
            refine St.ret ?_
            repeat (first | refine St.thenR ?_ | refine St.blkR ?_)
            refine St.asrt (fun _ w => w.nilSl (cod e_Field)) ?_
            refine St.asrt (fun _ w => w.nilSl (cod e_Field)) ?_
            refine St.asrt (fun _ w => w.nilSl (cod e_Field)) ?_
            refine St.asrt (fun _ w => w.nilSl (cod eu8)) ?_
            injection hj2 with hj2
            subst hj2
            have h : some _ = some _ := h
            injection h with h
            subst h
            exact St.finR Tryd.results28 (.cell rfl (.tail _ (.tail _ (.tail _ (.tail _ (.head _))))) rfl (.tmp rfl .nil)) rfl [.ro (SlL e_Field none 0 ([] : List T_Field)), .ro (SlL e_Field none 0 ([] : List T_Field)), .ro (SlL e_Field none 0 ([] : List T_Field)), .ro (SlL eu8 none 0 ([] : List Int))] ⟨none, 0, none, 0, none, 0, none, 0, rfl, rfl⟩ (fun _ w => ((.k (.k (.k (.k (.d (.d (.d (.d (.d .z))))))))) : Keep _ _).sat (Sat.dup (G := [.ro (SlL e_Field none 0 ([] : List T_Field)), .ro (SlL e_Field none 0 ([] : List T_Field)), .ro (SlL e_Field none 0 ([] : List T_Field)), .ro (SlL eu8 none 0 ([] : List Int))]) rfl ⟨(.tail _ (.head _)), (.tail _ (.head _)), (.tail _ (.head _)), (.head _), trivial⟩ w))
           ·replace hj2 := bif_f hb11 hj2
            refine St.skip ?_
            refine St.thenN ?_
            refine St.prune (Γ' := [(0, _), (2, _), (4, _), (9, _), (10, _)]) ⟨rfl, rfl, rfl, rfl, rfl, trivial⟩ (.k (.k (.k (.k (.k (.k (.k .z))))))) ?_
            refine St.region ?_
            refine St.p rfl rfl ?_
            refine St.p rfl rfl ?_
            obtain ⟨l2, hl2, hj2⟩ := bnd_e hj2
            refine St.sub (E := (cod eu8)) rfl rfl (.tail _ (.tail _ (.tail _ (.tail _ (.tail _ (.tail _ (.head _))))))) rfl rfl rfl rfl rfl rfl rfl hl2 fun A7 c7 => ?_
            obtain ⟨r5, hr5, hj2⟩ := bnd_e hj2
            refine St.call (c_ref01_Copy hr5) ent43 rfl rfl rfl (fun _ w => Sat.dup (G := [.ro (SlL eu8 A7 c7 l2)]) rfl ⟨(.head _), trivial⟩ w) ?_
            rintro _ _ ⟨A8, c8, rfl, rfl⟩
            refine St.asrt (F' := .res (OwnL eu8 5 A8 c8 r5) :: .ro (SlL eu8 A7 c7 l2) :: .res (Box g7 28 [.bool r2.1.Present, .int .u8 r2.1.Code, .int .u32 r2.1.Minutes, .slice A3 r2.1.Fields.length c3, .bool r3.1.Present, .int .u8 r3.1.Code, .int .u32 r3.1.Minutes, .slice A4 r3.1.Fields.length c4, .bool r4.1.Present, .int .u8 r4.1.Code, .int .u32 r4.1.Minutes, .slice A5 r4.1.Fields.length c5, .slice none 0 0]) :: .ro (SlL e_Field A5 c5 r4.1.Fields) :: .ro (SlL e_Field A4 c4 r3.1.Fields) :: .ro (SlL e_Field A3 c3 r2.1.Fields) :: .res (Box g2 28 [.bool false, .int .u8 0, .int .u32 0, .slice none 0 0, .bool false, .int .u8 0, .int .u32 0, .slice none 0 0, .bool false, .int .u8 0, .int .u32 0, .slice none 0 0, .slice none 0 0]) :: .res (Box g1 28 [.bool false, .int .u8 0, .int .u32 0, .slice none 0 0, .bool false, .int .u8 0, .int .u32 0, .slice none 0 0, .bool false, .int .u8 0, .int .u32 0, .slice none 0 0, .slice none 0 0]) :: .ro (SlL eu8 A1 c1 b_p0) :: R) (fun _ w => w) ?_
            refine St.p rfl rfl ?_
            refine St.store 12 rfl rfl rfl rfl rfl rfl (.s (.s .z)) rfl ?_
            refine St.done ?_
            injection hj2 with hj2
            subst hj2
            refine St.thenN ?_
            exact St.hereI r5 (A8, c8) rfl ⟨rfl, rfl, rfl, trivial⟩ (fun _ w => ((.k (.k (.k (.k (.k (.k (.k (.d (.d .z))))))))) : Keep _ _).sat (((((((w.front (.s (.s (.s (.s (.s (.s (.s .z)))))))).front (.s (.s (.s (.s (.s (.s (.s .z)))))))).front (.s (.s (.s (.s (.s (.s (.s .z)))))))).front (.s (.s (.s (.s (.s (.s (.s .z)))))))).front (.s (.s (.s (.s (.s (.s (.s .z)))))))).front (.s (.s (.s (.s (.s .z)))))).front (.s (.s (.s (.s (.s (.s .z))))))))
          ·replace hj2 := bif_f hb10 hj2
           refine St.skip ?_
           refine St.asrt (fun _ w => w.nilL eu8 5) ?_
           injection hj2 with hj2
           subst hj2
           refine St.thenN ?_
           exact St.hereI ([]) (none, 0) rfl ⟨rfl, rfl, rfl, trivial⟩ (fun _ w => ((.k (.k (.k (.k (.k (.k (.k (.d .z)))))))) : Keep _ _).sat w)
         ·rintro o3 ⟨A6, c6⟩ ho
          subst ho
          have h : _ = some _ := h
          refine St.seq ?_
          refine St.seq ?_
          refine St.region ?_
          refine St.loadB 0 rfl rfl (.tail _ (.head _)) rfl rfl ?_
          refine St.asrt (fun _ w => (w.front .z).meltL) ?_
          obtain ⟨r6, hr6, h⟩ := bnd_e h
          refine St.callV (c_ref17_Valid hr6) ent17 rfl rfl rfl rfl ⟨(.tail _ (.tail _ (.tail _ (.tail _ (.head _))))), (.tail _ (.tail _ (.tail _ (.head _)))), (.tail _ (.tail _ (.head _))), (.head _), trivial⟩ ?_
          refine St.p rfl rfl ?_
          refine St.done ?_
          refine St.thenN ?_
          refine St.prune (Γ' := [(2, _), (4, _), (9, _), (93, _)]) ⟨rfl, rfl, rfl, rfl, trivial⟩ (.k (.k (.k (.k (.k (.k (.k .z))))))) ?_
          refine St.cond _ rfl (fun hb12 => ?_) (fun hb12 => ?_)
          ·replace h := bif_t hb12 h
           refine St.seq ?_
           refine St.region ?_
           refine St.loadB 0 rfl rfl (.tail _ (.tail _ (.tail _ (.tail _ (.tail _ (.head _)))))) rfl rfl ?_
           refine St.store 0 rfl rfl rfl rfl rfl rfl (.s (.s (.s (.s (.s (.s .z)))))) rfl ?_
           refine St.p rfl rfl ?_
           refine St.done ?_
           refine St.thenN ?_
           refine St.prune (Γ' := [(2, _), (3, _)]) ⟨rfl, rfl, trivial⟩ (.k (.d (.d (.d (.d (.d (.d .z))))))) ?_
           refine St.ret ?_
           repeat (first | refine St.thenR ?_ | refine St.blkR ?_)
           refine St.asrt (fun _ w => w.nilSl (cod e_Field)) ?_
           refine St.asrt (fun _ w => w.nilSl (cod e_Field)) ?_
           refine St.asrt (fun _ w => w.nilSl (cod e_Field)) ?_
           refine St.asrt (fun _ w => w.nilSl (cod eu8)) ?_
           injection h with h
           subst h
           exact St.finR Tryd.results28 (.cell rfl (.tail _ (.tail _ (.tail _ (.tail _ (.head _))))) rfl (.tmp rfl .nil)) rfl [.ro (SlL e_Field none 0 ([] : List T_Field)), .ro (SlL e_Field none 0 ([] : List T_Field)), .ro (SlL e_Field none 0 ([] : List T_Field)), .ro (SlL eu8 none 0 ([] : List Int))] ⟨none, 0, none, 0, none, 0, none, 0, rfl, rfl⟩ (fun _ w => ((.k (.k (.k (.k (.d (.d (.d (.d (.d .z))))))))) : Keep _ _).sat (Sat.dup (G := [.ro (SlL e_Field none 0 ([] : List T_Field)), .ro (SlL e_Field none 0 ([] : List T_Field)), .ro (SlL e_Field none 0 ([] : List T_Field)), .ro (SlL eu8 none 0 ([] : List Int))]) rfl ⟨(.tail _ (.head _)), (.tail _ (.head _)), (.tail _ (.head _)), (.head _), trivial⟩ w))
          ·replace h := bif_f hb12 h
           refine St.skip ?_
           refine St.thenN ?_
           refine St.prune (Γ' := [(2, _), (9, _)]) ⟨rfl, rfl, trivial⟩ (.k (.k (.k (.k (.k (.d (.k .z))))))) ?_
           refine St.seq ?_
           refine St.region ?_
           refine St.loadB 0 rfl rfl (.tail _ (.head _)) rfl rfl ?_
           refine St.store 0 rfl rfl rfl rfl rfl rfl (.s (.s (.s (.s (.s .z))))) rfl ?_
           refine St.p rfl rfl ?_
           refine St.done ?_
           refine St.thenN ?_
           refine St.prune (Γ' := [(2, _), (3, _)]) ⟨rfl, rfl, trivial⟩ (.k (.k (.d (.k (.k (.k .z)))))) ?_
           refine St.ret ?_
           repeat (first | refine St.thenR ?_ | refine St.blkR ?_)
           injection h with h
           subst h
           exact St.finR Tryd.results28 (.cell rfl (.head _) rfl (.tmp rfl .nil)) rfl [.ro (SlL e_Field A3 c3 r2.1.Fields), .ro (SlL e_Field A4 c4 r3.1.Fields), .ro (SlL e_Field A5 c5 r4.1.Fields), .ro (SlL eu8 A6 c6 o3)] ⟨A3, c3, A4, c4, A5, c5, A6, c6, rfl, rfl⟩ (fun _ w => ((.k (.k (.k (.k (.d (.d (.d (.d (.d .z))))))))) : Keep _ _).sat (Sat.dup (G := [.ro (SlL e_Field A3 c3 r2.1.Fields), .ro (SlL e_Field A4 c4 r3.1.Fields), .ro (SlL e_Field A5 c5 r4.1.Fields), .ro (SlL eu8 A6 c6 o3)]) rfl ⟨(.tail _ (.tail _ (.tail _ (.tail _ (.head _))))), (.tail _ (.tail _ (.tail _ (.head _)))), (.tail _ (.tail _ (.head _))), (.tail _ (.head _)), trivial⟩ w))

theorem ent78 : Ent Tryd.prog 78 := ⟨_, Tryd.func78, by kernel_rfl, by kernel_rfl⟩

noncomputable def m_ref02_Same (a_p0 : T_Field) (b_p1 : T_Field) : Option Bool :=
 bnd ((bif (a_p0.Kind == b_p1.Kind) then (some (a_p0.Value.toList == b_p1.Value.toList)) else (some false) : Option Bool)) fun o1 => some o1

theorem c_ref02_Same {a_p0 : T_Field} {b_p1 : T_Field} {r : Bool} (h : m_ref02_Same a_p0 b_p1 = some r) :
  Fun Tryd.prog 78 [.agg #[.int .i64 a_p0.Kind, .string a_p0.Value], .agg #[.int .i64 b_p1.Kind, .string b_p1.Value]] [] (Val (.bool r)) := by
 unfold m_ref02_Same at h
 refine Fun.intro Tryd.func78 rfl rfl rfl fun w R => ?_
 refine St.seq ?_
 refine St.region ?_
 refine St.box rfl rfl fun g1 => ?_
 refine St.box rfl rfl fun g2 => ?_
 refine St.p rfl rfl ?_
 refine St.done ?_
 refine St.thenN ?_
 refine St.prune (Γ' := [(2, _), (3, _)]) ⟨rfl, rfl, trivial⟩ (.k (.k .z)) ?_
 refine St.seq ?_
 obtain ⟨o1, hj1, h⟩ := bnd_e h
 refine St.cutE (fun (e1 : Unit) => [(4, .bool o1)]) (fun e1 => R) ?_ ?_
 ·refine St.region ?_
  refine St.p rfl rfl ?_
  refine St.loadB 0 rfl rfl (.tail _ (.head _)) rfl rfl ?_
  refine St.p rfl rfl ?_
  refine St.loadB 0 rfl rfl (.head _) rfl rfl ?_
  refine St.p rfl rfl ?_
  refine St.p rfl rfl ?_
  refine St.gSplit (dj := 10) _ rfl (fun hb1 => ?_) (fun hb1 => ?_)
  ·replace hj1 := bif_t hb1 hj1
   refine St.gOn (dj := 10) rfl rfl ?_
   refine St.p rfl rfl ?_
   refine St.gOn (dj := 10) rfl rfl ?_
   refine St.loadB 1 rfl rfl (.tail _ (.head _)) rfl rfl ?_
   refine St.gOn (dj := 10) rfl rfl ?_
   refine St.p rfl rfl ?_
   refine St.gOn (dj := 10) rfl rfl ?_
   refine St.loadB 1 rfl rfl (.head _) rfl rfl ?_
   refine St.gOn (dj := 10) rfl rfl ?_
   iterate 3 refine St.p rfl rfl ?_
   refine St.done ?_
   injection hj1 with hj1
   subst hj1
   refine St.thenN ?_
   exact St.hereE () ⟨rfl, trivial⟩ (fun _ w => ((.d (.d .z)) : Keep _ _).sat w)
  ·replace hj1 := bif_f hb1 hj1
   refine St.gOff (dj := 10) rfl rfl rfl rfl ?_
   refine St.gOff (dj := 10) rfl rfl rfl rfl ?_
   refine St.gOff (dj := 10) rfl rfl rfl rfl ?_
   refine St.gOff (dj := 10) rfl rfl rfl rfl ?_
   refine St.gOff (dj := 10) rfl rfl rfl rfl ?_
   refine St.p rfl rfl ?_
   refine St.p rfl rfl ?_
   refine St.done ?_
   injection hj1 with hj1
   subst hj1
   refine St.thenN ?_
   exact St.hereE () ⟨rfl, trivial⟩ (fun _ w => ((.d (.d .z)) : Keep _ _).sat w)
 ·rintro e1
  refine St.ret ?_
  repeat (first | refine St.thenR ?_ | refine St.blkR ?_)
  injection h with h
  subst h
  exact St.finR Tryd.results78 (.tmp rfl .nil) rfl [] ⟨rfl, rfl⟩ (fun _ w => (.z : Keep _ _).sat w)

theorem ent65 : Ent Tryd.prog 65 := ⟨_, Tryd.func65, by kernel_rfl, by kernel_rfl⟩

noncomputable def m_ref02_SameList (a_p0 : (List T_Field)) (b_p1 : (List T_Field)) : Option Bool :=
 bif ((a_p0.length : Int) != (b_p1.length : Int)) then (some false) else (bnd (loopM (τ := Bool ⊕ Unit) (fun (s1 : Int) => bif decide (s1 < (a_p0.length : Int)) then (bnd (elt a_p0 s1) fun x1 => bnd (elt b_p1 s1) fun x2 => bnd (m_ref02_Same x1 x2) fun r1 => bif !r1 then (some (.done (.inl false))) else (some (.next (IntKind.wrap .i64 (s1 + 1))))) else (some (.done (.inr ())))) 0) fun o1 => retOr o1 fun o2 => some true)

theorem c_ref02_SameList {a_p0 : (List T_Field)} {b_p1 : (List T_Field)} {A1 : Option Addr} {c1 : Nat} {A2 : Option Addr} {c2 : Nat} {r : Bool} (h : m_ref02_SameList a_p0 b_p1 = some r) :
  Fun Tryd.prog 65 [.slice A1 a_p0.length c1, .slice A2 b_p1.length c2] [.ro (SlL e_Field A1 c1 a_p0), .ro (SlL e_Field A2 c2 b_p1)] (Val (.bool r)) := by
 unfold m_ref02_SameList at h
 refine Fun.intro Tryd.func65 rfl rfl rfl fun w R => ?_
 refine St.seq ?_
 refine St.region ?_
 refine St.p rfl rfl ?_
 refine St.done ?_
 refine St.thenN ?_
 refine St.prune (Γ' := [(0, _), (1, _)]) ⟨rfl, rfl, trivial⟩ (.k (.k .z)) ?_
 refine St.seq ?_
 refine St.seq ?_
 refine St.region ?_
 iterate 5 refine St.p rfl rfl ?_
 refine St.done ?_
 refine St.thenN ?_
 refine St.prune (Γ' := [(0, _), (1, _), (10, _)]) ⟨rfl, rfl, rfl, trivial⟩ (.k (.k .z)) ?_
 refine St.cond _ rfl (fun hb1 => ?_) (fun hb1 => ?_)
 ·replace h := bif_t hb1 h
  refine St.seq ?_
  refine St.region ?_
  refine St.p rfl rfl ?_
  refine St.done ?_
  refine St.thenN ?_
  refine St.prune (Γ' := [(4, _)]) ⟨rfl, trivial⟩ (.d (.d .z)) ?_
  refine St.ret ?_
  repeat (first | refine St.thenR ?_ | refine St.blkR ?_)
  injection h with h
  subst h
  exact St.finR Tryd.results65 (.tmp rfl .nil) rfl [] ⟨rfl, rfl⟩ (fun _ w => (.z : Keep _ _).sat w)
 ·replace h := bif_f hb1 h
  refine St.skip ?_
  refine St.thenN ?_
  refine St.prune (Γ' := [(0, _), (1, _)]) ⟨rfl, rfl, trivial⟩ (.k (.k .z)) ?_
  refine St.seq ?_
  refine St.seq ?_
  refine St.region ?_
  refine St.p rfl rfl ?_
  refine St.done ?_
  refine St.thenN ?_
  obtain ⟨o1, hl1, h⟩ := bnd_e h
  refine St.cutI (fun (o2 : Unit) (e2 : Unit) => []) (fun o2 e2 => R) (fun o2 => o1 = .inr o2) ?_ ?_
  ·refine St.block ?_
   refine St.loop hl1 (fun (s1 : Int) (e1 : Unit) => [(0, .slice A1 a_p0.length c1), (1, .slice A2 b_p1.length c2), (5, .int .i64 s1)]) (fun s1 e1 => .ro (SlL e_Field A1 c1 a_p0) :: .ro (SlL e_Field A2 c2 b_p1) :: R) (fun _ _ => True) () trivial ⟨rfl, rfl, rfl, trivial⟩ (fun _ w => ((.k (.k .z)) : Keep _ _).sat w) ?_
   rintro s1 e1 - hit1
   obtain ⟨st1, hm1, hd1⟩ := iter_e hit1
   have h1 := hm1
   refine St.seq ?_
   refine St.seq ?_
   refine St.region ?_
   iterate 4 refine St.p rfl rfl ?_
   refine St.done ?_
   refine St.thenN ?_
   refine St.prune (Γ' := [(0, _), (1, _), (5, _), (14, _)]) ⟨rfl, rfl, rfl, rfl, trivial⟩ (.k (.k .z)) ?_
   refine St.cond _ rfl (fun hb2 => ?_) (fun hb2 => ?_)
   ·replace h1 := bif_t hb2 h1
    refine St.skip ?_
    refine St.thenN ?_
    refine St.prune (Γ' := [(0, _), (1, _), (5, _)]) ⟨rfl, rfl, rfl, trivial⟩ (.k (.k .z)) ?_
    refine St.seq ?_
    refine St.block ?_
    refine St.seq ?_
    refine St.regionF mixed (by kernel_rfl) ?_
    refine St.p rfl rfl ?_
    refine St.p rfl rfl ?_
    obtain ⟨x1, hx1, h1⟩ := bnd_e h1
    refine St.ixL hx1 rfl rfl rfl (.head _) rfl rfl rfl rfl rfl fun b1 ob1 => ?_
    refine St.load ob1 0 rfl rfl (.head _) rfl rfl ?_
    refine St.p rfl rfl ?_
    refine St.p rfl rfl ?_
    obtain ⟨x2, hx2, h1⟩ := bnd_e h1
    refine St.ixL hx2 rfl rfl rfl (.tail _ (.tail _ (.head _))) rfl rfl rfl rfl rfl fun b2 ob2 => ?_
    refine St.load ob2 0 rfl rfl (.head _) rfl rfl ?_
    obtain ⟨r1, hr1, h1⟩ := bnd_e h1
    refine St.callV (c_ref02_Same hr1) ent78 rfl rfl rfl rfl trivial ?_
    refine St.p rfl rfl ?_
    refine St.doneQ ?_
    refine St.thenN ?_
    refine St.prune (Γ' := [(0, _), (1, _), (5, _), (26, _)]) ⟨rfl, rfl, rfl, rfl, trivial⟩ (.d (.d (.k (.k .z)))) ?_
    refine St.cond _ rfl (fun hb3 => ?_) (fun hb3 => ?_)
    ·replace h1 := bif_t hb3 h1
     refine St.seq ?_
     refine St.region ?_
     refine St.p rfl rfl ?_
     refine St.done ?_
     refine St.thenN ?_
     refine St.prune (Γ' := [(4, _)]) ⟨rfl, trivial⟩ (.d (.d .z)) ?_
     refine St.ret ?_
     repeat (first | refine St.thenR ?_ | refine St.blkR ?_)
     injection h1 with h1
     subst h1
     have ho := hd1 _ rfl
     subst ho
     have h : some _ = some _ := h
     injection h with h
     subst h
     exact St.finR Tryd.results65 (.tmp rfl .nil) rfl [] ⟨rfl, rfl⟩ (fun _ w => (.z : Keep _ _).sat w)
    ·replace h1 := bif_f hb3 h1
     refine St.skip ?_
     refine St.blkN ?_
     refine St.thenN ?_
     refine St.prune (Γ' := [(0, _), (1, _), (5, _)]) ⟨rfl, rfl, rfl, trivial⟩ (.k (.k .z)) ?_
     refine St.region ?_
     iterate 3 refine St.p rfl rfl ?_
     refine St.done ?_
     injection h1 with h1
     subst h1
     refine St.thenN ?_
     exact St.again _ () hm1 trivial ⟨rfl, rfl, rfl, trivial⟩ (fun _ w => ((.k (.k .z)) : Keep _ _).sat w)
   ·replace h1 := bif_f hb2 h1
    refine St.exit ?_
    repeat (first | refine St.thenX ?_ | refine St.blkMiss rfl ?_)
    refine St.blkHit ?_
    injection h1 with h1
    subst h1
    have ho := hd1 _ rfl
    subst ho
    refine St.thenN ?_
    exact St.hereI () () rfl trivial (fun _ w => ((.d (.d .z)) : Keep _ _).sat w)
  ·rintro o2 e2 ho
   subst ho
   have h : _ = some _ := h
   refine St.seq ?_
   refine St.region ?_
   refine St.p rfl rfl ?_
   refine St.done ?_
   refine St.thenN ?_
   refine St.ret ?_
   repeat (first | refine St.thenR ?_ | refine St.blkR ?_)
   injection h with h
   subst h
   exact St.finR Tryd.results65 (.tmp rfl .nil) rfl [] ⟨rfl, rfl⟩ (fun _ w => (.z : Keep _ _).sat w)

theorem ent44 : Ent Tryd.prog 44 := ⟨_, Tryd.func44, by kernel_rfl, by kernel_rfl⟩

noncomputable def m_ref17_sameArea (a_p0 : T_Area) (b_p1 : T_Area) : Option Bool :=
 bnd ((bif (a_p0.Present == b_p1.Present) then (bif (a_p0.Code == b_p1.Code) then (bif (a_p0.Minutes == b_p1.Minutes) then (bnd (m_ref02_SameList a_p0.Fields b_p1.Fields) fun r1 => some r1) else (some false)) else (some false)) else (some false) : Option Bool)) fun o1 => some o1

theorem c_ref17_sameArea {a_p0 : T_Area} {b_p1 : T_Area} {A1 : Option Addr} {c1 : Nat} {A2 : Option Addr} {c2 : Nat} {r : Bool} (h : m_ref17_sameArea a_p0 b_p1 = some r) :
  Fun Tryd.prog 44 [.agg (bx_T_Area a_p0 A1 c1).toArray, .agg (bx_T_Area b_p1 A2 c2).toArray] [.ro (SlL e_Field A1 c1 a_p0.Fields), .ro (SlL e_Field A2 c2 b_p1.Fields)] (Val (.bool r)) := by
 unfold m_ref17_sameArea at h
 refine Fun.intro Tryd.func44 rfl rfl rfl fun w R => ?_
 refine St.seq ?_
 refine St.region ?_
 refine St.box rfl rfl fun g1 => ?_
 refine St.box rfl rfl fun g2 => ?_
 refine St.p rfl rfl ?_
 refine St.done ?_
 refine St.thenN ?_
 refine St.prune (Γ' := [(2, _), (3, _)]) ⟨rfl, rfl, trivial⟩ (.k (.k (.k (.k .z)))) ?_
 refine St.seq ?_
 obtain ⟨o1, hj1, h⟩ := bnd_e h
 refine St.cutE (fun (e1 : Unit) => [(4, .bool o1)]) (fun e1 => R) ?_ ?_
 ·refine St.region ?_
  refine St.p rfl rfl ?_
  refine St.loadB 0 rfl rfl (.tail _ (.head _)) rfl rfl ?_
  refine St.p rfl rfl ?_
  refine St.loadB 0 rfl rfl (.head _) rfl rfl ?_
  refine St.p rfl rfl ?_
  refine St.p rfl rfl ?_
  refine St.gSplit (dj := 10) _ rfl (fun hb1 => ?_) (fun hb1 => ?_)
  ·replace hj1 := bif_t hb1 hj1
   refine St.gOn (dj := 10) rfl rfl ?_
   refine St.p rfl rfl ?_
   refine St.gOn (dj := 10) rfl rfl ?_
   refine St.loadB 1 rfl rfl (.tail _ (.head _)) rfl rfl ?_
   refine St.gOn (dj := 10) rfl rfl ?_
   refine St.p rfl rfl ?_
   refine St.gOn (dj := 10) rfl rfl ?_
   refine St.loadB 1 rfl rfl (.head _) rfl rfl ?_
   refine St.gOn (dj := 10) rfl rfl ?_
   iterate 3 refine St.p rfl rfl ?_
   refine St.gSplit (dj := 17) _ rfl (fun hb2 => ?_) (fun hb2 => ?_)
   ·replace hj1 := bif_t hb2 hj1
    refine St.gOn (dj := 17) rfl rfl ?_
    refine St.p rfl rfl ?_
    refine St.gOn (dj := 17) rfl rfl ?_
    refine St.loadB 2 rfl rfl (.tail _ (.head _)) rfl rfl ?_
    refine St.gOn (dj := 17) rfl rfl ?_
    refine St.p rfl rfl ?_
    refine St.gOn (dj := 17) rfl rfl ?_
    refine St.loadB 2 rfl rfl (.head _) rfl rfl ?_
    refine St.gOn (dj := 17) rfl rfl ?_
    iterate 3 refine St.p rfl rfl ?_
    refine St.gSplit (dj := 24) _ rfl (fun hb3 => ?_) (fun hb3 => ?_)
    ·replace hj1 := bif_t hb3 hj1
     refine St.gOn (dj := 24) rfl rfl ?_
     refine St.p rfl rfl ?_
     refine St.gOn (dj := 24) rfl rfl ?_
     refine St.loadB 3 rfl rfl (.tail _ (.head _)) rfl rfl ?_
     refine St.gOn (dj := 24) rfl rfl ?_
     refine St.p rfl rfl ?_
     refine St.gOn (dj := 24) rfl rfl ?_
     refine St.loadB 3 rfl rfl (.head _) rfl rfl ?_
     refine St.gOn (dj := 24) rfl rfl ?_
     obtain ⟨r1, hr1, hj1⟩ := bnd_e hj1
     refine St.callV (c_ref02_SameList hr1) ent65 rfl rfl rfl rfl ⟨(.tail _ (.tail _ (.head _))), (.tail _ (.tail _ (.tail _ (.head _)))), trivial⟩ ?_
     refine St.p rfl rfl ?_
     refine St.p rfl rfl ?_
     refine St.done ?_
     injection hj1 with hj1
     subst hj1
     refine St.thenN ?_
     exact St.hereE () ⟨rfl, trivial⟩ (fun _ w => ((.d (.d (.d (.d .z)))) : Keep _ _).sat w)
    ·replace hj1 := bif_f hb3 hj1
     refine St.gOff (dj := 24) rfl rfl rfl rfl ?_
     refine St.gOff (dj := 24) rfl rfl rfl rfl ?_
     refine St.gOff (dj := 24) rfl rfl rfl rfl ?_
     refine St.gOff (dj := 24) rfl rfl rfl rfl ?_
     refine St.gOff (dj := 24) rfl rfl rfl rfl ?_
     refine St.p rfl rfl ?_
     refine St.p rfl rfl ?_
     refine St.done ?_
     injection hj1 with hj1
     subst hj1
     refine St.thenN ?_
     exact St.hereE () ⟨rfl, trivial⟩ (fun _ w => ((.d (.d (.d (.d .z)))) : Keep _ _).sat w)
   ·replace hj1 := bif_f hb2 hj1
    refine St.gOff (dj := 17) rfl rfl rfl rfl ?_
    refine St.gOff (dj := 17) rfl rfl rfl rfl ?_
    refine St.gOff (dj := 17) rfl rfl rfl rfl ?_
    refine St.gOff (dj := 17) rfl rfl rfl rfl ?_
    refine St.gOff (dj := 17) rfl rfl rfl rfl ?_
    refine St.p rfl rfl ?_
    refine St.p rfl rfl ?_
    refine St.gOff (dj := 24) rfl rfl rfl rfl ?_
    refine St.gOff (dj := 24) rfl rfl rfl rfl ?_
    refine St.gOff (dj := 24) rfl rfl rfl rfl ?_
    refine St.gOff (dj := 24) rfl rfl rfl rfl ?_
    refine St.gOff (dj := 24) rfl rfl rfl rfl ?_
    refine St.p rfl rfl ?_
    refine St.p rfl rfl ?_
    refine St.done ?_
    injection hj1 with hj1
    subst hj1
    refine St.thenN ?_
    exact St.hereE () ⟨rfl, trivial⟩ (fun _ w => ((.d (.d (.d (.d .z)))) : Keep _ _).sat w)
  ·replace hj1 := bif_f hb1 hj1
   refine St.gOff (dj := 10) rfl rfl rfl rfl ?_
   refine St.gOff (dj := 10) rfl rfl rfl rfl ?_
   refine St.gOff (dj := 10) rfl rfl rfl rfl ?_
   refine St.gOff (dj := 10) rfl rfl rfl rfl ?_
   refine St.gOff (dj := 10) rfl rfl rfl rfl ?_
   refine St.p rfl rfl ?_
   refine St.p rfl rfl ?_
   refine St.gOff (dj := 17) rfl rfl rfl rfl ?_
   refine St.gOff (dj := 17) rfl rfl rfl rfl ?_
   refine St.gOff (dj := 17) rfl rfl rfl rfl ?_
   refine St.gOff (dj := 17) rfl rfl rfl rfl ?_
   refine St.gOff (dj := 17) rfl rfl rfl rfl ?_
   refine St.p rfl rfl ?_
   refine St.p rfl rfl ?_
   refine St.gOff (dj := 24) rfl rfl rfl rfl ?_
   refine St.gOff (dj := 24) rfl rfl rfl rfl ?_
   refine St.gOff (dj := 24) rfl rfl rfl rfl ?_
   refine St.gOff (dj := 24) rfl rfl rfl rfl ?_
   refine St.gOff (dj := 24) rfl rfl rfl rfl ?_
   refine St.p rfl rfl ?_
   refine St.p rfl rfl ?_
   refine St.done ?_
   injection hj1 with hj1
   subst hj1
   refine St.thenN ?_
   exact St.hereE () ⟨rfl, trivial⟩ (fun _ w => ((.d (.d (.d (.d .z)))) : Keep _ _).sat w)
 ·rintro e1
  refine St.ret ?_
  repeat (first | refine St.thenR ?_ | refine St.blkR ?_)
  injection h with h
  subst h
  exact St.finR Tryd.results44 (.tmp rfl .nil) rfl [] ⟨rfl, rfl⟩ (fun _ w => (.z : Keep _ _).sat w)

theorem ent29 : Ent Tryd.prog 29 := ⟨_, Tryd.func29, by kernel_rfl, by kernel_rfl⟩

noncomputable def m_ref17_Same (a_p0 : T_Info) (b_p1 : T_Info) : Option Bool :=
 bnd ((bnd (m_ref17_sameArea a_p0.Chassis b_p1.Chassis) fun r1 => bif r1 then (bnd (m_ref17_sameArea a_p0.Board b_p1.Board) fun r2 => bif r2 then (bnd (m_ref17_sameArea a_p0.Product b_p1.Product) fun r3 => bif r3 then (bnd (m_ref01_Same a_p0.Multi b_p1.Multi) fun r4 => some r4) else (some false)) else (some false)) else (some false) : Option Bool)) fun o1 => some o1

theorem c_ref17_Same {a_p0 : T_Info} {b_p1 : T_Info} {A1 : Option Addr} {c1 : Nat} {A2 : Option Addr} {c2 : Nat} {A3 : Option Addr} {c3 : Nat} {A4 : Option Addr} {c4 : Nat} {A5 : Option Addr} {c5 : Nat} {A6 : Option Addr} {c6 : Nat} {A7 : Option Addr} {c7 : Nat} {A8 : Option Addr} {c8 : Nat} {r : Bool} (h : m_ref17_Same a_p0 b_p1 = some r) :
  Fun Tryd.prog 29 [.agg (bx_T_Info a_p0 A1 c1 A2 c2 A3 c3 A4 c4).toArray, .agg (bx_T_Info b_p1 A5 c5 A6 c6 A7 c7 A8 c8).toArray] [.ro (SlL e_Field A1 c1 a_p0.Chassis.Fields), .ro (SlL e_Field A2 c2 a_p0.Board.Fields), .ro (SlL e_Field A3 c3 a_p0.Product.Fields), .ro (SlL eu8 A4 c4 a_p0.Multi), .ro (SlL e_Field A5 c5 b_p1.Chassis.Fields), .ro (SlL e_Field A6 c6 b_p1.Board.Fields), .ro (SlL e_Field A7 c7 b_p1.Product.Fields), .ro (SlL eu8 A8 c8 b_p1.Multi)] (Val (.bool r)) := by
 unfold m_ref17_Same at h
 refine Fun.intro Tryd.func29 rfl rfl rfl fun w R => ?_
 refine St.seq ?_
 refine St.region ?_
 refine St.box rfl rfl fun g1 => ?_
 refine St.box rfl rfl fun g2 => ?_
 refine St.p rfl rfl ?_
 refine St.done ?_
 refine St.thenN ?_
 refine St.prune (Γ' := [(2, _), (3, _)]) ⟨rfl, rfl, trivial⟩ (.k (.k (.k (.k (.k (.k (.k (.k (.k (.k .z)))))))))) ?_
 refine St.seq ?_
 obtain ⟨o1, hj1, h⟩ := bnd_e h
 refine St.cutE (fun (e1 : Unit) => [(4, .bool o1)]) (fun e1 => R) ?_ ?_
 ·refine St.region ?_
  refine St.p rfl rfl ?_
  refine St.loadB 0 rfl rfl (.tail _ (.head _)) rfl rfl ?_
  refine St.p rfl rfl ?_
  refine St.loadB 0 rfl rfl (.head _) rfl rfl ?_
  obtain ⟨r1, hr1, hj1⟩ := bnd_e hj1
  refine St.callV (c_ref17_sameArea hr1) ent44 rfl rfl rfl rfl ⟨(.tail _ (.tail _ (.head _))), (.tail _ (.tail _ (.tail _ (.tail _ (.tail _ (.tail _ (.head _))))))), trivial⟩ ?_
  refine St.p rfl rfl ?_
  refine St.gSplit (dj := 10) _ rfl (fun hb1 => ?_) (fun hb1 => ?_)
  ·replace hj1 := bif_t hb1 hj1
   refine St.gOn (dj := 10) rfl rfl ?_
   refine St.p rfl rfl ?_
   refine St.gOn (dj := 10) rfl rfl ?_
   refine St.loadB 4 rfl rfl (.tail _ (.head _)) rfl rfl ?_
   refine St.gOn (dj := 10) rfl rfl ?_
   refine St.p rfl rfl ?_
   refine St.gOn (dj := 10) rfl rfl ?_
   refine St.loadB 4 rfl rfl (.head _) rfl rfl ?_
   refine St.gOn (dj := 10) rfl rfl ?_
   obtain ⟨r2, hr2, hj1⟩ := bnd_e hj1
   refine St.callV (c_ref17_sameArea hr2) ent44 rfl rfl rfl rfl ⟨(.tail _ (.tail _ (.tail _ (.head _)))), (.tail _ (.tail _ (.tail _ (.tail _ (.tail _ (.tail _ (.tail _ (.head _)))))))), trivial⟩ ?_
   refine St.p rfl rfl ?_
   refine St.p rfl rfl ?_
   refine St.gSplit (dj := 17) _ rfl (fun hb2 => ?_) (fun hb2 => ?_)
   ·replace hj1 := bif_t hb2 hj1
    refine St.gOn (dj := 17) rfl rfl ?_
    refine St.p rfl rfl ?_
    refine St.gOn (dj := 17) rfl rfl ?_
    refine St.loadB 8 rfl rfl (.tail _ (.head _)) rfl rfl ?_
    refine St.gOn (dj := 17) rfl rfl ?_
    refine St.p rfl rfl ?_
    refine St.gOn (dj := 17) rfl rfl ?_
    refine St.loadB 8 rfl rfl (.head _) rfl rfl ?_
    refine St.gOn (dj := 17) rfl rfl ?_
    obtain ⟨r3, hr3, hj1⟩ := bnd_e hj1
    refine St.callV (c_ref17_sameArea hr3) ent44 rfl rfl rfl rfl ⟨(.tail _ (.tail _ (.tail _ (.tail _ (.head _))))), (.tail _ (.tail _ (.tail _ (.tail _ (.tail _ (.tail _ (.tail _ (.tail _ (.head _))))))))), trivial⟩ ?_
    refine St.p rfl rfl ?_
    refine St.p rfl rfl ?_
    refine St.gSplit (dj := 24) _ rfl (fun hb3 => ?_) (fun hb3 => ?_)
    ·replace hj1 := bif_t hb3 hj1
     refine St.gOn (dj := 24) rfl rfl ?_
     refine St.p rfl rfl ?_
     refine St.gOn (dj := 24) rfl rfl ?_
     refine St.loadB 12 rfl rfl (.tail _ (.head _)) rfl rfl ?_
     refine St.gOn (dj := 24) rfl rfl ?_
     refine St.p rfl rfl ?_
     refine St.gOn (dj := 24) rfl rfl ?_
     refine St.loadB 12 rfl rfl (.head _) rfl rfl ?_
     refine St.gOn (dj := 24) rfl rfl ?_
     obtain ⟨r4, hr4, hj1⟩ := bnd_e hj1
     refine St.callV (c_ref01_Same hr4) ent18 rfl rfl rfl rfl ⟨(.tail _ (.tail _ (.tail _ (.tail _ (.tail _ (.head _)))))), (.tail _ (.tail _ (.tail _ (.tail _ (.tail _ (.tail _ (.tail _ (.tail _ (.tail _ (.head _)))))))))), trivial⟩ ?_
     refine St.p rfl rfl ?_
     refine St.p rfl rfl ?_
     refine St.done ?_
     injection hj1 with hj1
     subst hj1
     refine St.thenN ?_
     exact St.hereE () ⟨rfl, trivial⟩ (fun _ w => ((.d (.d (.d (.d (.d (.d (.d (.d (.d (.d .z)))))))))) : Keep _ _).sat w)
    ·replace hj1 := bif_f hb3 hj1
     refine St.gOff (dj := 24) rfl rfl rfl rfl ?_
     refine St.gOff (dj := 24) rfl rfl rfl rfl ?_
     refine St.gOff (dj := 24) rfl rfl rfl rfl ?_
     refine St.gOff (dj := 24) rfl rfl rfl rfl ?_
     refine St.gOff (dj := 24) rfl rfl rfl rfl ?_
     refine St.p rfl rfl ?_
     refine St.p rfl rfl ?_
     refine St.done ?_
     injection hj1 with hj1
     subst hj1
     refine St.thenN ?_
     exact St.hereE () ⟨rfl, trivial⟩ (fun _ w => ((.d (.d (.d (.d (.d (.d (.d (.d (.d (.d .z)))))))))) : Keep _ _).sat w)
   ·replace hj1 := bif_f hb2 hj1
    refine St.gOff (dj := 17) rfl rfl rfl rfl ?_
    refine St.gOff (dj := 17) rfl rfl rfl rfl ?_
    refine St.gOff (dj := 17) rfl rfl rfl rfl ?_
    refine St.gOff (dj := 17) rfl rfl rfl rfl ?_
    refine St.gOff (dj := 17) rfl rfl rfl rfl ?_
    refine St.p rfl rfl ?_
    refine St.p rfl rfl ?_
    refine St.gOff (dj := 24) rfl rfl rfl rfl ?_
    refine St.gOff (dj := 24) rfl rfl rfl rfl ?_
    refine St.gOff (dj := 24) rfl rfl rfl rfl ?_
    refine St.gOff (dj := 24) rfl rfl rfl rfl ?_
    refine St.gOff (dj := 24) rfl rfl rfl rfl ?_
    refine St.p rfl rfl ?_
    refine St.p rfl rfl ?_
    refine St.done ?_
    injection hj1 with hj1
    subst hj1
    refine St.thenN ?_
    exact St.hereE () ⟨rfl, trivial⟩ (fun _ w => ((.d (.d (.d (.d (.d (.d (.d (.d (.d (.d .z)))))))))) : Keep _ _).sat w)
  ·replace hj1 := bif_f hb1 hj1
   refine St.gOff (dj := 10) rfl rfl rfl rfl ?_
   refine St.gOff (dj := 10) rfl rfl rfl rfl ?_
   refine St.gOff (dj := 10) rfl rfl rfl rfl ?_
   refine St.gOff (dj := 10) rfl rfl rfl rfl ?_
   refine St.gOff (dj := 10) rfl rfl rfl rfl ?_
   refine St.p rfl rfl ?_
   refine St.p rfl rfl ?_
   refine St.gOff (dj := 17) rfl rfl rfl rfl ?_
   refine St.gOff (dj := 17) rfl rfl rfl rfl ?_
   refine St.gOff (dj := 17) rfl rfl rfl rfl ?_
   refine St.gOff (dj := 17) rfl rfl rfl rfl ?_
   refine St.gOff (dj := 17) rfl rfl rfl rfl ?_
   refine St.p rfl rfl ?_
   refine St.p rfl rfl ?_
   refine St.gOff (dj := 24) rfl rfl rfl rfl ?_
   refine St.gOff (dj := 24) rfl rfl rfl rfl ?_
   refine St.gOff (dj := 24) rfl rfl rfl rfl ?_
   refine St.gOff (dj := 24) rfl rfl rfl rfl ?_
   refine St.gOff (dj := 24) rfl rfl rfl rfl ?_
   refine St.p rfl rfl ?_
   refine St.p rfl rfl ?_
   refine St.done ?_
   injection hj1 with hj1
   subst hj1
   refine St.thenN ?_
   exact St.hereE () ⟨rfl, trivial⟩ (fun _ w => ((.d (.d (.d (.d (.d (.d (.d (.d (.d (.d .z)))))))))) : Keep _ _).sat w)
 ·rintro e1
  refine St.ret ?_
  repeat (first | refine St.thenR ?_ | refine St.blkR ?_)
  injection h with h
  subst h
  exact St.finR Tryd.results29 (.tmp rfl .nil) rfl [] ⟨rfl, rfl⟩ (fun _ w => (.z : Keep _ _).sat w)

theorem ent5 : Ent Tryd.prog 5 := ⟨_, Tryd.func5, by kernel_rfl, by kernel_rfl⟩

noncomputable def m_law17_UnitinfoDecodes (b_p0 : (List Int)) (l_p1 : (List Int)) : Option Bool :=
 bnd ((bif decide ((b_p0.length : Int) > 2100) then (some true) else (bnd (m_made_Light l_p1) fun r1 => some (!r1)) : Option Bool)) fun o1 => bif o1 then (bnd (m_law17_awake) fun r2 => some r2) else (bnd (m_made_Roll l_p1) fun r3 => bnd (m_made_Dice_Info r3) fun r4 => bnd (m_ref17_Encode r4.2) fun r5 => bnd (app 1 ([]) r5.1) fun l1 => bnd (m_made_Dice_Next r4.1 (l1.length : Int)) fun r6 => bnd ((bnd (m_made_Dice_Bool r6.1 2) fun r7 => bif r7.2 then (bnd (m_made_Dice_Next r7.1 8) fun r8 => some (r8.2, r8.1.L, r8.1.At)) else (some (r6.2, r7.1.L, r7.1.At)) : Option (Int × List Int × Int))) fun o2 => bnd (m_made_Dice_Byte (⟨o2.2.1, o2.2.2⟩ : T_Dice)) fun r9 => bnd (elt l1 o2.1) fun x1 => bnd (setE l1 o2.1 r9.2) fun l2 => bnd ((bnd (m_made_Dice_Bool r9.1 3) fun r10 => bif r10.2 then (bnd (m_made_Dice_Next r10.1 5) fun r11 => bnd (elt l2 o2.1) fun x2 => bnd (setE l2 o2.1 (IntKind.wrap .u8 r11.2)) fun l3 => some (l3, r11.1.L, r11.1.At)) else (some (l2, r10.1.L, r10.1.At)) : Option (List Int × List Int × Int))) fun o3 => bnd (app 1 ([]) o3.1) fun l4 => bnd (m_made_Dice_Next (⟨o3.2.1, o3.2.2⟩ : T_Dice) 3) fun r12 => bnd (m_law17_seal l4 (IntKind.wrap .i64 (8 * (IntKind.wrap .i64 (1 + r12.2))))) fun r13 => bnd (chkLen l4.length r13) fun l5 => bnd (m_law17_seal r13 8) fun r14 => bnd (chkLen r13.length r14) fun l6 => bnd (m_made_Dice_Next r12.1 (IntKind.wrap .i64 ((r14.length : Int) + 1))) fun r15 => bnd (sub r14 0 r15.2) fun l7 => bnd (m_made_Dice_Next r15.1 3) fun r16 => bnd (mkS 1 0 (IntKind.wrap .i64 (2047 + r16.2)) (IntKind.wrap .i64 (2047 + r16.2))) fun l8 => bnd (loopM (τ := Bool ⊕ Unit) (fun (s1 : Int) => bif decide (s1 < ((6 : Nat) : Int)) then (bnd (elt ([b_p0, r5.1, o3.1, r14, l7, l8]) s1) fun x3 => bnd (m_unitinfo_Decode x3) fun r17 => bnd (m_ref17_Decode x3) fun r18 => bnd ((bif (r17.2 != r18.2) then (some true) else (bnd (m_ref17_Same r17.1 r18.1) fun r19 => some (!r19)) : Option Bool)) fun o6 => bif o6 then (some (.done (.inl false))) else (some (.next (IntKind.wrap .i64 (s1 + 1))))) else (some (.done (.inr ())))) 0) fun o4 => retOr o4 fun o5 => bnd (m_law17_awake) fun r20 => some r20)

set_option maxHeartbeats 4000000 in
theorem c_law17_UnitinfoDecodes {b_p0 : (List Int)} {l_p1 : (List Int)} {A1 : Option Addr} {c1 : Nat} {A2 : Option Addr} {c2 : Nat} {r : Bool} (h : m_law17_UnitinfoDecodes b_p0 l_p1 = some r) :
  Fun Tryd.prog 5 [.slice A1 b_p0.length c1, .slice A2 l_p1.length c2] [.ro (SlL eu8 A1 c1 b_p0), .ro (SlL ei64 A2 c2 l_p1), .ro (SlL ei64 (some ⟨0, 0, none⟩) 3 ([2, 5, 7] : List Int))] (Val (.bool r)) := by
 unfold m_law17_UnitinfoDecodes at h
 refine Fun.intro Tryd.func5 rfl rfl rfl fun w R => ?_
 refine St.seq ?_
 refine St.region ?_
 refine St.p rfl rfl ?_
 refine St.done ?_
 refine St.thenN ?_
 refine St.prune (Γ' := [(0, _), (1, _)]) ⟨rfl, rfl, trivial⟩ (.k (.k (.k .z))) ?_
 refine St.seq ?_
 refine St.seq ?_
 obtain ⟨o1, hj1, h⟩ := bnd_e h
 refine St.cutE (fun (e1 : Unit) => [(0, .slice A1 b_p0.length c1), (1, .slice A2 l_p1.length c2), (25, .bool o1)]) (fun e1 => .ro (SlL eu8 A1 c1 b_p0) :: .ro (SlL ei64 A2 c2 l_p1) :: .ro (SlL ei64 (some ⟨0, 0, none⟩) 3 ([2, 5, 7] : List Int)) :: R) ?_ ?_
 ·refine St.region ?_
  iterate 4 refine St.p rfl rfl ?_
  refine St.gSplit (dj := 21) _ rfl (fun hb1 => ?_) (fun hb1 => ?_)
  ·replace hj1 := bif_t hb1 hj1
   refine St.gOff (dj := 21) rfl rfl rfl rfl ?_
   refine St.gOff (dj := 21) rfl rfl rfl rfl ?_
   refine St.gOff (dj := 21) rfl rfl rfl rfl ?_
   refine St.p rfl rfl ?_
   refine St.done ?_
   injection hj1 with hj1
   subst hj1
   refine St.thenN ?_
   exact St.hereE () ⟨rfl, rfl, rfl, trivial⟩ (fun _ w => ((.k (.k (.k .z))) : Keep _ _).sat w)
  ·replace hj1 := bif_f hb1 hj1
   refine St.gOn (dj := 21) rfl rfl ?_
   refine St.p rfl rfl ?_
   refine St.gOn (dj := 21) rfl rfl ?_
   obtain ⟨r1, hr1, hj1⟩ := bnd_e hj1
   refine St.callV (c_made_Light hr1) ent9 rfl rfl rfl rfl ⟨(.tail _ (.head _)), trivial⟩ ?_
   refine St.gOn (dj := 21) rfl rfl ?_
   refine St.p rfl rfl ?_
   refine St.p rfl rfl ?_
   refine St.done ?_
   injection hj1 with hj1
   subst hj1
   refine St.thenN ?_
   exact St.hereE () ⟨rfl, rfl, rfl, trivial⟩ (fun _ w => ((.k (.k (.k .z))) : Keep _ _).sat w)
 ·rintro e1
  refine St.cond _ rfl (fun hb2 => ?_) (fun hb2 => ?_)
  ·replace h := bif_t hb2 h
   refine St.seq ?_
   refine St.region ?_
   obtain ⟨r2, hr2, h⟩ := bnd_e h
   refine St.callV (c_law17_awake hr2) ent10 rfl rfl rfl rfl ⟨(.tail _ (.tail _ (.head _))), trivial⟩ ?_
   refine St.p rfl rfl ?_
   refine St.done ?_
   refine St.thenN ?_
   refine St.prune (Γ' := [(4, _)]) ⟨rfl, trivial⟩ (.d (.d (.k .z))) ?_
   refine St.ret ?_
   repeat (first | refine St.thenR ?_ | refine St.blkR ?_)
   injection h with h
   subst h
   exact St.finR Tryd.results5 (.tmp rfl .nil) rfl [] ⟨rfl, rfl⟩ (fun _ w => ((.d .z) : Keep _ _).sat w)
  ·replace h := bif_f hb2 h
   refine St.skip ?_
   refine St.thenN ?_
   refine St.prune (Γ' := [(0, _), (1, _)]) ⟨rfl, rfl, trivial⟩ (.k (.k (.k .z))) ?_
   refine St.seq ?_
   refine St.region ?_
   refine St.p rfl rfl ?_
   obtain ⟨r3, hr3, h⟩ := bnd_e h
   refine St.call (c_made_Roll hr3) ent11 rfl rfl rfl (fun _ w => Sat.dup (G := [.ro (SlL ei64 A2 c2 l_p1)]) rfl ⟨(.tail _ (.head _)), trivial⟩ w) ?_
   rintro _ _ ⟨g1, A3, c3, rfl, rfl⟩
   refine St.asrt (F' := .ro (SlL ei64 A3 c3 r3.L) :: .res (Box g1 62 [.slice A3 r3.L.length c3, .int .i64 r3.At]) :: .ro (SlL eu8 A1 c1 b_p0) :: .ro (SlL ei64 A2 c2 l_p1) :: .ro (SlL ei64 (some ⟨0, 0, none⟩) 3 ([2, 5, 7] : List Int)) :: R) (fun _ w => w) ?_
   refine St.p rfl rfl ?_
   refine St.done ?_
   refine St.thenN ?_
   refine St.prune (Γ' := [(0, _), (5, _)]) ⟨rfl, rfl, trivial⟩ (.k (.k (.k (.d (.k .z))))) ?_
   refine St.seq ?_
   refine St.region ?_
   refine St.p rfl rfl ?_
   obtain ⟨r4, hr4, h⟩ := bnd_e h
   refine St.call (c_made_Dice_Info hr4) ent12 rfl rfl rfl (fun _ w => Sat.dup (G := [.ro (SlL ei64 A3 c3 r3.L)]) rfl ⟨(.tail _ (.head _)), trivial⟩ (w.front (.s .z))) ?_
   rintro _ _ ⟨A4, c4, A5, c5, A6, c6, A7, c7, A8, c8, rfl, rfl⟩
   refine St.asrt (F' := .ro (SlL ei64 A4 c4 r4.1.L) :: .ro (SlL e_Field A5 c5 r4.2.Chassis.Fields) :: .ro (SlL e_Field A6 c6 r4.2.Board.Fields) :: .ro (SlL e_Field A7 c7 r4.2.Product.Fields) :: .ro (SlL eu8 A8 c8 r4.2.Multi) :: .res (Box g1 62 [.slice A4 r4.1.L.length c4, .int .i64 r4.1.At]) :: .ro (SlL ei64 A3 c3 r3.L) :: .ro (SlL eu8 A1 c1 b_p0) :: .ro (SlL ei64 (some ⟨0, 0, none⟩) 3 ([2, 5, 7] : List Int)) :: R) (fun _ w => w) ?_
   obtain ⟨r5, hr5, h⟩ := bnd_e h
   refine St.call (c_ref17_Encode hr5) ent15 rfl rfl rfl (fun _ w => Sat.dup (G := [.ro (SlL e_Field A5 c5 r4.2.Chassis.Fields), .ro (SlL e_Field A6 c6 r4.2.Board.Fields), .ro (SlL e_Field A7 c7 r4.2.Product.Fields), .ro (SlL eu8 A8 c8 r4.2.Multi)]) rfl ⟨(.tail _ (.head _)), (.tail _ (.tail _ (.head _))), (.tail _ (.tail _ (.tail _ (.head _)))), (.tail _ (.tail _ (.tail _ (.tail _ (.head _))))), trivial⟩ w) ?_
   rintro _ _ ⟨A9, c9, rfl, rfl⟩
   refine St.asrt (F' := .res (OwnL eu8 5 A9 c9 r5.1) :: .ro (SlL ei64 A4 c4 r4.1.L) :: .ro (SlL e_Field A5 c5 r4.2.Chassis.Fields) :: .ro (SlL e_Field A6 c6 r4.2.Board.Fields) :: .ro (SlL e_Field A7 c7 r4.2.Product.Fields) :: .ro (SlL eu8 A8 c8 r4.2.Multi) :: .res (Box g1 62 [.slice A4 r4.1.L.length c4, .int .i64 r4.1.At]) :: .ro (SlL ei64 A3 c3 r3.L) :: .ro (SlL eu8 A1 c1 b_p0) :: .ro (SlL ei64 (some ⟨0, 0, none⟩) 3 ([2, 5, 7] : List Int)) :: R) (fun _ w => w) ?_
   iterate 5 refine St.p rfl rfl ?_
   refine St.done ?_
   refine St.thenN ?_
   refine St.prune (Γ' := [(0, _), (5, _), (6, _)]) ⟨rfl, rfl, rfl, trivial⟩ (.k (.k (.d (.d (.d (.d (.k (.d (.k (.k .z)))))))))) ?_
   refine St.seq ?_
   refine St.region ?_
   refine St.p rfl rfl ?_
   refine St.asrt (fun _ w => (w.front .z).meltL) ?_
   refine St.asrt (fun _ w => w.nilL eu8 5) ?_
   obtain ⟨l1, hl1, h⟩ := bnd_e h
   refine St.app (E := eu8) hl1 rfl rfl rfl .z rfl rfl rfl rfl rfl rfl rfl rfl (srcL (.tail _ (.head _))) rfl rfl fun A10 c10 => ?_
   refine St.p rfl rfl ?_
   refine St.done ?_
   refine St.thenN ?_
   refine St.prune (Γ' := [(0, _), (5, _), (6, _), (8, _)]) ⟨rfl, rfl, rfl, rfl, trivial⟩ (.k (.k (.k (.k (.k (.k .z)))))) ?_
   refine St.seq ?_
   refine St.region ?_
   iterate 3 refine St.p rfl rfl ?_
   obtain ⟨r6, hr6, h⟩ := bnd_e h
   refine St.call (c_made_Dice_Next hr6) ent23 rfl rfl rfl (fun _ w => Sat.dup (G := [.ro (SlL ei64 A4 c4 r4.1.L)]) rfl ⟨(.tail _ (.tail _ (.tail _ (.head _)))), trivial⟩ (w.front (.s (.s (.s .z))))) ?_
   rintro _ _ ⟨A11, c11, rfl, rfl⟩
   refine St.asrt (F' := .ro (SlL ei64 A11 c11 r6.1.L) :: .res (Box g1 62 [.slice A11 r6.1.L.length c11, .int .i64 r6.1.At]) :: .res (OwnL eu8 5 A10 c10 l1) :: .ro (SlL eu8 A9 c9 r5.1) :: .ro (SlL ei64 A4 c4 r4.1.L) :: .ro (SlL eu8 A1 c1 b_p0) :: .ro (SlL ei64 (some ⟨0, 0, none⟩) 3 ([2, 5, 7] : List Int)) :: R) (fun _ w => w) ?_
   refine St.p rfl rfl ?_
   refine St.done ?_
   refine St.thenN ?_
   refine St.prune (Γ' := [(0, _), (5, _), (6, _), (8, _), (9, _)]) ⟨rfl, rfl, rfl, rfl, rfl, trivial⟩ (.k (.k (.k (.k (.d (.k (.k .z))))))) ?_
   refine St.seq ?_
   obtain ⟨o2, hj2, h⟩ := bnd_e h
   refine St.cutE (fun (e2 : Option Addr × Nat) => [(0, .slice A1 b_p0.length c1), (5, .pointer (some ⟨g1, 0, none⟩)), (6, .slice A9 r5.1.length c9), (8, .slice A10 l1.length c10), (9, .int .i64 o2.1)]) (fun e2 => .ro (SlL ei64 e2.1 e2.2 o2.2.1) :: .res (Box g1 62 [.slice e2.1 o2.2.1.length e2.2, .int .i64 o2.2.2]) :: .res (OwnL eu8 5 A10 c10 l1) :: .ro (SlL eu8 A9 c9 r5.1) :: .ro (SlL eu8 A1 c1 b_p0) :: .ro (SlL ei64 (some ⟨0, 0, none⟩) 3 ([2, 5, 7] : List Int)) :: R) ?_ ?_
   ·refine St.seq ?_
    refine St.region ?_
    refine St.p rfl rfl ?_
    obtain ⟨r7, hr7, hj2⟩ := bnd_e hj2
    refine St.call (c_made_Dice_Bool hr7) ent24 rfl rfl rfl (fun _ w => Sat.dup (G := [.ro (SlL ei64 A11 c11 r6.1.L)]) rfl ⟨(.tail _ (.head _)), trivial⟩ (w.front (.s .z))) ?_
    rintro _ _ ⟨A13, c13, rfl, rfl⟩
    refine St.asrt (F' := .ro (SlL ei64 A13 c13 r7.1.L) :: .res (Box g1 62 [.slice A13 r7.1.L.length c13, .int .i64 r7.1.At]) :: .ro (SlL ei64 A11 c11 r6.1.L) :: .res (OwnL eu8 5 A10 c10 l1) :: .ro (SlL eu8 A9 c9 r5.1) :: .ro (SlL eu8 A1 c1 b_p0) :: .ro (SlL ei64 (some ⟨0, 0, none⟩) 3 ([2, 5, 7] : List Int)) :: R) (fun _ w => w) ?_
    refine St.done ?_
    refine St.thenN ?_
    refine St.prune (Γ' := [(0, _), (5, _), (6, _), (8, _), (9, _), (42, _)]) ⟨rfl, rfl, rfl, rfl, rfl, rfl, trivial⟩ (.k (.k (.d (.k (.k (.k (.k .z))))))) ?_
    refine St.cond _ rfl (fun hb3 => ?_) (fun hb3 => ?_)
    ·replace hj2 := bif_t hb3 hj2
     refine St.region ?_
     refine St.p rfl rfl ?_
     obtain ⟨r8, hr8, hj2⟩ := bnd_e hj2
     refine St.call (c_made_Dice_Next hr8) ent23 rfl rfl rfl (fun _ w => Sat.dup (G := [.ro (SlL ei64 A13 c13 r7.1.L)]) rfl ⟨(.tail _ (.head _)), trivial⟩ (w.front (.s .z))) ?_
     rintro _ _ ⟨A14, c14, rfl, rfl⟩
     refine St.asrt (F' := .ro (SlL ei64 A14 c14 r8.1.L) :: .res (Box g1 62 [.slice A14 r8.1.L.length c14, .int .i64 r8.1.At]) :: .ro (SlL ei64 A13 c13 r7.1.L) :: .res (OwnL eu8 5 A10 c10 l1) :: .ro (SlL eu8 A9 c9 r5.1) :: .ro (SlL eu8 A1 c1 b_p0) :: .ro (SlL ei64 (some ⟨0, 0, none⟩) 3 ([2, 5, 7] : List Int)) :: R) (fun _ w => w) ?_
     refine St.p rfl rfl ?_
     refine St.done ?_
     injection hj2 with hj2
     subst hj2
     refine St.thenN ?_
     exact St.hereE (A14, c14) ⟨rfl, rfl, rfl, rfl, rfl, trivial⟩ (fun _ w => ((.k (.k (.d (.k (.k (.k (.k .z))))))) : Keep _ _).sat w)
    ·replace hj2 := bif_f hb3 hj2
     refine St.skip ?_
     injection hj2 with hj2
     subst hj2
     refine St.thenN ?_
     exact St.hereE (A13, c13) ⟨rfl, rfl, rfl, rfl, rfl, trivial⟩ (fun _ w => ((.k (.k (.k (.k (.k (.k .z)))))) : Keep _ _).sat w)
   ·rintro ⟨A12, c12⟩
    refine St.seq ?_
    refine St.region ?_
    iterate 3 refine St.p rfl rfl ?_
    obtain ⟨r9, hr9, h⟩ := bnd_e h
    refine St.call (c_made_Dice_Byte hr9) ent25 rfl rfl rfl (fun _ w => Sat.dup (G := [.ro (SlL ei64 A12 c12 o2.2.1)]) rfl ⟨(.tail _ (.head _)), trivial⟩ (w.front (.s .z))) ?_
    rintro _ _ ⟨A15, c15, rfl, rfl⟩
    refine St.asrt (F' := .ro (SlL ei64 A15 c15 r9.1.L) :: .res (Box g1 62 [.slice A15 r9.1.L.length c15, .int .i64 r9.1.At]) :: .ro (SlL ei64 A12 c12 o2.2.1) :: .res (OwnL eu8 5 A10 c10 l1) :: .ro (SlL eu8 A9 c9 r5.1) :: .ro (SlL eu8 A1 c1 b_p0) :: .ro (SlL ei64 (some ⟨0, 0, none⟩) 3 ([2, 5, 7] : List Int)) :: R) (fun _ w => w) ?_
    obtain ⟨x1, hx1, h⟩ := bnd_e h
    refine St.ixO hx1 rfl rfl rfl (.tail _ (.tail _ (.tail _ (.head _)))) rfl rfl rfl rfl rfl fun g2 hA => ?_
    subst hA
    obtain ⟨l2, hl2, h⟩ := bnd_e h
    refine St.stO 0 hx1 hl2 rfl rfl (.s (.s (.s .z))) rfl rfl rfl rfl rfl ?_
    refine St.slots (Γ' := [(0, _), (5, _), (6, _), (8, .slice (some ⟨g2, 0, none⟩) l2.length c10), (9, _), (45, .slice (some ⟨g2, 0, none⟩) l2.length c10), (46, _), (47, _), (48, _), (49, _)]) ⟨rfl, rfl, rfl, sl_len hl2, rfl, sl_len hl2, rfl, rfl, rfl, rfl, trivial⟩ ?_
    refine St.done ?_
    refine St.thenN ?_
    refine St.prune (Γ' := [(0, _), (5, _), (6, _), (8, _), (9, _)]) ⟨rfl, rfl, rfl, rfl, rfl, trivial⟩ (.k (.k (.k (.d (.k (.k (.k .z))))))) ?_
    refine St.seq ?_
    obtain ⟨o3, hj3, h⟩ := bnd_e h
    refine St.cutE (fun (e3 : Option Addr × Nat × Option Addr × Nat) => [(0, .slice A1 b_p0.length c1), (5, .pointer (some ⟨g1, 0, none⟩)), (6, .slice A9 r5.1.length c9), (8, .slice e3.1 o3.1.length e3.2.1)]) (fun e3 => .ro (SlL ei64 e3.2.2.1 e3.2.2.2 o3.2.1) :: .res (OwnL eu8 5 e3.1 e3.2.1 o3.1) :: .res (Box g1 62 [.slice e3.2.2.1 o3.2.1.length e3.2.2.2, .int .i64 o3.2.2]) :: .ro (SlL eu8 A9 c9 r5.1) :: .ro (SlL eu8 A1 c1 b_p0) :: .ro (SlL ei64 (some ⟨0, 0, none⟩) 3 ([2, 5, 7] : List Int)) :: R) ?_ ?_
    ·refine St.seq ?_
     refine St.region ?_
     refine St.p rfl rfl ?_
     obtain ⟨r10, hr10, hj3⟩ := bnd_e hj3
     refine St.call (c_made_Dice_Bool hr10) ent24 rfl rfl rfl (fun _ w => Sat.dup (G := [.ro (SlL ei64 A15 c15 r9.1.L)]) rfl ⟨(.tail _ (.tail _ (.head _))), trivial⟩ (w.front (.s (.s .z)))) ?_
     rintro _ _ ⟨A18, c18, rfl, rfl⟩
     refine St.asrt (F' := .ro (SlL ei64 A18 c18 r10.1.L) :: .res (Box g1 62 [.slice A18 r10.1.L.length c18, .int .i64 r10.1.At]) :: .res (OwnL eu8 5 (some ⟨g2, 0, none⟩) c10 l2) :: .ro (SlL ei64 A15 c15 r9.1.L) :: .ro (SlL eu8 A9 c9 r5.1) :: .ro (SlL eu8 A1 c1 b_p0) :: .ro (SlL ei64 (some ⟨0, 0, none⟩) 3 ([2, 5, 7] : List Int)) :: R) (fun _ w => w) ?_
     refine St.done ?_
     refine St.thenN ?_
     refine St.prune (Γ' := [(0, _), (5, _), (6, _), (8, _), (9, _), (51, _)]) ⟨rfl, rfl, rfl, rfl, rfl, rfl, trivial⟩ (.k (.k (.k (.d (.k (.k (.k .z))))))) ?_
     refine St.cond _ rfl (fun hb4 => ?_) (fun hb4 => ?_)
     ·replace hj3 := bif_t hb4 hj3
      refine St.region ?_
      iterate 3 refine St.p rfl rfl ?_
      obtain ⟨r11, hr11, hj3⟩ := bnd_e hj3
      refine St.call (c_made_Dice_Next hr11) ent23 rfl rfl rfl (fun _ w => Sat.dup (G := [.ro (SlL ei64 A18 c18 r10.1.L)]) rfl ⟨(.tail _ (.head _)), trivial⟩ (w.front (.s .z))) ?_
      rintro _ _ ⟨A19, c19, rfl, rfl⟩
      refine St.asrt (F' := .ro (SlL ei64 A19 c19 r11.1.L) :: .res (Box g1 62 [.slice A19 r11.1.L.length c19, .int .i64 r11.1.At]) :: .ro (SlL ei64 A18 c18 r10.1.L) :: .res (OwnL eu8 5 (some ⟨g2, 0, none⟩) c10 l2) :: .ro (SlL eu8 A9 c9 r5.1) :: .ro (SlL eu8 A1 c1 b_p0) :: .ro (SlL ei64 (some ⟨0, 0, none⟩) 3 ([2, 5, 7] : List Int)) :: R) (fun _ w => w) ?_
      refine St.p rfl rfl ?_
      obtain ⟨x2, hx2, hj3⟩ := bnd_e hj3
      refine St.ixO hx2 rfl rfl rfl (.tail _ (.tail _ (.tail _ (.head _)))) rfl rfl rfl rfl rfl fun g3 hA => ?_
      cases hA
      obtain ⟨l3, hl3, hj3⟩ := bnd_e hj3
      refine St.stO 0 hx2 hl3 rfl rfl (.s (.s (.s .z))) rfl rfl rfl rfl rfl ?_
      refine St.slots (Γ' := [(0, _), (5, _), (6, _), (8, .slice (some ⟨g2, 0, none⟩) l3.length c10), (9, _), (51, _), (52, .slice (some ⟨g2, 0, none⟩) l3.length c10), (53, _), (54, _), (55, _), (56, _), (57, _)]) ⟨rfl, rfl, rfl, sl_len hl3, rfl, rfl, sl_len hl3, rfl, rfl, rfl, rfl, rfl, trivial⟩ ?_
      refine St.done ?_
      injection hj3 with hj3
      subst hj3
      refine St.thenN ?_
      exact St.hereE ((some ⟨g2, 0, none⟩), c10, A19, c19) ⟨rfl, rfl, rfl, rfl, trivial⟩ (fun _ w => ((.k (.k (.k (.k (.k (.k (.d .z))))))) : Keep _ _).sat ((((((w.front (.s (.s (.s (.s (.s (.s .z))))))).front (.s (.s (.s (.s (.s (.s .z))))))).front (.s (.s (.s (.s (.s (.s .z))))))).front (.s (.s (.s (.s (.s .z)))))).front (.s (.s (.s (.s .z))))).front (.s (.s (.s (.s (.s .z)))))))
     ·replace hj3 := bif_f hb4 hj3
      refine St.skip ?_
      injection hj3 with hj3
      subst hj3
      refine St.thenN ?_
      exact St.hereE ((some ⟨g2, 0, none⟩), c10, A18, c18) ⟨rfl, rfl, rfl, rfl, trivial⟩ (fun _ w => ((.k (.k (.k (.k (.k (.k .z)))))) : Keep _ _).sat ((((((w.front (.s (.s (.s (.s (.s .z)))))).front (.s (.s (.s (.s (.s .z)))))).front (.s (.s (.s (.s (.s .z)))))).front (.s (.s (.s (.s .z))))).front (.s (.s (.s (.s (.s .z)))))).front (.s (.s (.s (.s (.s .z)))))))
    ·rintro ⟨A16, c16, A17, c17⟩
     refine St.seq ?_
     refine St.region ?_
     refine St.p rfl rfl ?_
     refine St.asrt (fun _ w => (w.front (.s .z)).meltL) ?_
     refine St.asrt (fun _ w => w.nilL eu8 5) ?_
     obtain ⟨l4, hl4, h⟩ := bnd_e h
     refine St.app (E := eu8) hl4 rfl rfl rfl .z rfl rfl rfl rfl rfl rfl rfl rfl (srcL (.tail _ (.head _))) rfl rfl fun A20 c20 => ?_
     refine St.p rfl rfl ?_
     refine St.done ?_
     refine St.thenN ?_
     refine St.prune (Γ' := [(0, _), (5, _), (6, _), (8, _), (10, _)]) ⟨rfl, rfl, rfl, rfl, rfl, trivial⟩ (.k (.k (.k (.k (.k (.k (.k .z))))))) ?_
     refine St.seq ?_
     refine St.region ?_
     refine St.p rfl rfl ?_
     refine St.p rfl rfl ?_
     obtain ⟨r12, hr12, h⟩ := bnd_e h
     refine St.call (c_made_Dice_Next hr12) ent23 rfl rfl rfl (fun _ w => Sat.dup (G := [.ro (SlL ei64 A17 c17 o3.2.1)]) rfl ⟨(.tail _ (.tail _ (.tail _ (.head _)))), trivial⟩ (w.front (.s (.s (.s .z))))) ?_
     rintro _ _ ⟨A21, c21, rfl, rfl⟩
     refine St.asrt (F' := .ro (SlL ei64 A21 c21 r12.1.L) :: .res (Box g1 62 [.slice A21 r12.1.L.length c21, .int .i64 r12.1.At]) :: .res (OwnL eu8 5 A20 c20 l4) :: .ro (SlL eu8 A16 c16 o3.1) :: .ro (SlL ei64 A17 c17 o3.2.1) :: .ro (SlL eu8 A9 c9 r5.1) :: .ro (SlL eu8 A1 c1 b_p0) :: .ro (SlL ei64 (some ⟨0, 0, none⟩) 3 ([2, 5, 7] : List Int)) :: R) (fun _ w => w) ?_
     refine St.p rfl rfl ?_
     refine St.p rfl rfl ?_
     obtain ⟨r13, hr13, h⟩ := bnd_e h
     refine St.call (c_law17_seal hr13) ent26 rfl rfl rfl (fun _ w => (w.front (.s (.s .z)))) ?_
     rintro _ _ ⟨rfl, rfl⟩
     refine St.asrt (F' := .res (OwnL eu8 5 A20 c20 r13) :: .ro (SlL ei64 A21 c21 r12.1.L) :: .res (Box g1 62 [.slice A21 r12.1.L.length c21, .int .i64 r12.1.At]) :: .ro (SlL eu8 A16 c16 o3.1) :: .ro (SlL ei64 A17 c17 o3.2.1) :: .ro (SlL eu8 A9 c9 r5.1) :: .ro (SlL eu8 A1 c1 b_p0) :: .ro (SlL ei64 (some ⟨0, 0, none⟩) 3 ([2, 5, 7] : List Int)) :: R) (fun _ w => w) ?_
     obtain ⟨l5, hl5, h⟩ := bnd_e h
     refine St.slots (Γ' := [(0, _), (5, _), (6, _), (8, _), (10, .slice A20 r13.length c20), (60, .slice A20 r13.length c20), (61, _), (62, _), (63, _), (64, _), (65, _)]) ⟨rfl, rfl, rfl, rfl, sl_chk hl5, sl_chk hl5, rfl, rfl, rfl, rfl, rfl, trivial⟩ ?_
     refine St.done ?_
     refine St.thenN ?_
     refine St.prune (Γ' := [(0, _), (5, _), (6, _), (8, _), (10, _)]) ⟨rfl, rfl, rfl, rfl, rfl, trivial⟩ (.k (.k (.k (.k (.d (.k (.k (.k .z)))))))) ?_
     refine St.seq ?_
     refine St.region ?_
     refine St.p rfl rfl ?_
     obtain ⟨r14, hr14, h⟩ := bnd_e h
     refine St.call (c_law17_seal hr14) ent26 rfl rfl rfl (fun _ w => (w.front .z)) ?_
     rintro _ _ ⟨rfl, rfl⟩
     refine St.asrt (F' := .res (OwnL eu8 5 A20 c20 r14) :: .ro (SlL ei64 A21 c21 r12.1.L) :: .res (Box g1 62 [.slice A21 r12.1.L.length c21, .int .i64 r12.1.At]) :: .ro (SlL eu8 A16 c16 o3.1) :: .ro (SlL eu8 A9 c9 r5.1) :: .ro (SlL eu8 A1 c1 b_p0) :: .ro (SlL ei64 (some ⟨0, 0, none⟩) 3 ([2, 5, 7] : List Int)) :: R) (fun _ w => w) ?_
     obtain ⟨l6, hl6, h⟩ := bnd_e h
     refine St.slots (Γ' := [(0, _), (5, _), (6, _), (8, _), (10, .slice A20 r14.length c20), (66, .slice A20 r14.length c20), (67, _)]) ⟨rfl, rfl, rfl, rfl, sl_chk hl6, sl_chk hl6, rfl, trivial⟩ ?_
     refine St.done ?_
     refine St.thenN ?_
     refine St.prune (Γ' := [(0, _), (5, _), (6, _), (8, _), (10, _)]) ⟨rfl, rfl, rfl, rfl, rfl, trivial⟩ (.k (.k (.k (.k (.k (.k (.k .z))))))) ?_
     refine St.seq ?_
     refine St.region ?_
     iterate 5 refine St.p rfl rfl ?_
     obtain ⟨r15, hr15, h⟩ := bnd_e h
     refine St.call (c_made_Dice_Next hr15) ent23 rfl rfl rfl (fun _ w => Sat.dup (G := [.ro (SlL ei64 A21 c21 r12.1.L)]) rfl ⟨(.tail _ (.tail _ (.head _))), trivial⟩ (w.front (.s (.s .z)))) ?_
     rintro _ _ ⟨A22, c22, rfl, rfl⟩
     refine St.asrt (F' := .ro (SlL ei64 A22 c22 r15.1.L) :: .res (Box g1 62 [.slice A22 r15.1.L.length c22, .int .i64 r15.1.At]) :: .res (OwnL eu8 5 A20 c20 r14) :: .ro (SlL ei64 A21 c21 r12.1.L) :: .ro (SlL eu8 A16 c16 o3.1) :: .ro (SlL eu8 A9 c9 r5.1) :: .ro (SlL eu8 A1 c1 b_p0) :: .ro (SlL ei64 (some ⟨0, 0, none⟩) 3 ([2, 5, 7] : List Int)) :: R) (fun _ w => w) ?_
     refine St.asrt (fun _ w => (w.front (.s (.s .z))).meltL) ?_
     obtain ⟨l7, hl7, h⟩ := bnd_e h
     refine St.sub (E := (cod eu8)) rfl rfl (.head _) rfl rfl rfl rfl rfl rfl rfl hl7 fun A23 c23 => ?_
     refine St.p rfl rfl ?_
     refine St.done ?_
     refine St.thenN ?_
     refine St.prune (Γ' := [(0, _), (5, _), (6, _), (8, _), (10, _), (11, _)]) ⟨rfl, rfl, rfl, rfl, rfl, rfl, trivial⟩ (.k (.k (.k (.k (.d (.k (.k (.k (.k .z))))))))) ?_
     refine St.seq ?_
     refine St.seq ?_
     refine St.region ?_
     iterate 6 refine St.p rfl rfl ?_
     obtain ⟨r16, hr16, h⟩ := bnd_e h
     refine St.call (c_made_Dice_Next hr16) ent23 rfl rfl rfl (fun _ w => Sat.dup (G := [.ro (SlL ei64 A22 c22 r15.1.L)]) rfl ⟨(.tail _ (.tail _ (.tail _ (.head _)))), trivial⟩ (w.front (.s (.s (.s .z))))) ?_
     rintro _ _ ⟨A24, c24, rfl, rfl⟩
     refine St.asrt (F' := .ro (SlL ei64 A24 c24 r16.1.L) :: .res (Box g1 62 [.slice A24 r16.1.L.length c24, .int .i64 r16.1.At]) :: .ro (SlL eu8 A23 c23 l7) :: .ro (SlL eu8 A20 c20 r14) :: .ro (SlL ei64 A22 c22 r15.1.L) :: .ro (SlL eu8 A16 c16 o3.1) :: .ro (SlL eu8 A9 c9 r5.1) :: .ro (SlL eu8 A1 c1 b_p0) :: .ro (SlL ei64 (some ⟨0, 0, none⟩) 3 ([2, 5, 7] : List Int)) :: R) (fun _ w => w) ?_
     refine St.p rfl rfl ?_
     obtain ⟨l8, hl8, h⟩ := bnd_e h
     refine St.mkL (E := eu8) 0 hl8 rfl rfl rfl rfl rfl rfl rfl rfl rfl rfl fun g4 => ?_
     refine St.buildSlice rfl rfl rfl rfl rfl rfl rfl rfl fun g5 => ?_
     refine St.p rfl rfl ?_
     refine St.p rfl rfl ?_
     refine St.done ?_
     refine St.thenN ?_
     refine St.prune (Γ' := [(84, _), (85, _), (86, _)]) ⟨rfl, rfl, rfl, trivial⟩ (.k (.k (.d (.d (.k (.k (.d (.k (.k (.k (.k .z))))))))))) ?_
     refine St.asrt (fun _ w => (w.front (.s .z)).meltL) ?_
     refine St.asrt (fun _ w => Sat.litC (ls := l_sl_u8) (e := 26) [(b_p0, ((A1, c1), ())), (r5.1, ((A9, c9), ())), (o3.1, ((A16, c16), ())), (r14, ((A20, c20), ())), (l7, ((A23, c23), ())), (l8, (((some ⟨g4, 0, none⟩), (Int.toNat (IntKind.wrap .i64 (2047 + r16.2)))), ()))] rfl rfl rfl ⟨(.tail _ (.tail _ (.tail _ (.tail _ (.tail _ (.head _)))))), (.tail _ (.tail _ (.tail _ (.tail _ (.head _))))), (.tail _ (.tail _ (.tail _ (.head _)))), (.tail _ (.tail _ (.head _))), (.tail _ (.head _)), (.head _), trivial⟩ (w.front (.s .z))) ?_
     refine St.asrt (fun _ w => (w.front .z).meltC) ?_
     refine St.prune (Γ' := [(84, _), (85, _), (86, _)]) ⟨rfl, rfl, rfl, trivial⟩ (.k (.d (.d (.d (.d (.d (.d (.k .z)))))))) ?_
     obtain ⟨o4, hl1, h⟩ := bnd_e h
     refine St.cutI (fun (o5 : Unit) (e5 : Unit) => []) (fun o5 e5 => .ro (SlL ei64 (some ⟨0, 0, none⟩) 3 ([2, 5, 7] : List Int)) :: R) (fun o5 => o4 = .inr o5) ?_ ?_
     ·refine St.block ?_
      refine St.loop hl1 (fun (s1 : Int) (e4 : Unit) => [(84, .slice (some ⟨g5, 0, none⟩) ([b_p0, r5.1, o3.1, r14, l7, l8]).length ([b_p0, r5.1, o3.1, r14, l7, l8] : List (List Int)).length), (85, .int .i64 ((6 : Nat) : Int)), (86, .int .i64 s1)]) (fun s1 e4 => .ro (Sl (codL l_sl_u8) (some ⟨g5, 0, none⟩) ([b_p0, r5.1, o3.1, r14, l7, l8] : List (List Int)).length ([b_p0, r5.1, o3.1, r14, l7, l8])) :: .ro (SlL ei64 (some ⟨0, 0, none⟩) 3 ([2, 5, 7] : List Int)) :: R) (fun _ _ => True) () trivial ⟨rfl, rfl, rfl, trivial⟩ (fun _ w => ((.k (.k .z)) : Keep _ _).sat w) ?_
      rintro s1 e4 - hit1
      obtain ⟨st1, hm1, hd1⟩ := iter_e hit1
      have h1 := hm1
      refine St.seq ?_
      refine St.region ?_
      refine St.p rfl rfl ?_
      refine St.done ?_
      refine St.thenN ?_
      refine St.seq ?_
      refine St.cond _ rfl (fun hb5 => ?_) (fun hb5 => ?_)
      ·replace h1 := bif_t hb5 h1
       refine St.skip ?_
       refine St.thenN ?_
       refine St.prune (Γ' := [(84, _), (85, _), (86, _)]) ⟨rfl, rfl, rfl, trivial⟩ (.k (.k .z)) ?_
       refine St.seq ?_
       refine St.block ?_
       refine St.seq ?_
       refine St.region ?_
       obtain ⟨x3, hx3, h1⟩ := bnd_e h1
       refine St.ixN hx3 rfl rfl rfl (.head _) rfl rfl rfl rfl rfl fun b1 ob1 ex1 => ?_
       obtain ⟨⟨A25, c25⟩, _⟩ := ex1
       refine St.asrt (F' := .ro (Cells b1 ob1 [.slice A25 x3.length c25]) :: .ro (SlL eu8 A25 c25 x3) :: .ro (Sl (codL l_sl_u8) (some ⟨g5, 0, none⟩) ([b_p0, r5.1, o3.1, r14, l7, l8] : List (List Int)).length ([b_p0, r5.1, o3.1, r14, l7, l8])) :: .ro (SlL ei64 (some ⟨0, 0, none⟩) 3 ([2, 5, 7] : List Int)) :: R) (fun _ w => w) ?_
       refine St.load ob1 0 rfl rfl (.head _) rfl rfl ?_
       refine St.p rfl rfl ?_
       refine St.done ?_
       refine St.thenN ?_
       refine St.prune (Γ' := [(13, _), (84, _), (85, _), (86, _)]) ⟨rfl, rfl, rfl, rfl, trivial⟩ (.d (.k (.k (.k .z)))) ?_
       refine St.seq ?_
       refine St.region ?_
       refine St.p rfl rfl ?_
       obtain ⟨r17, hr17, h1⟩ := bnd_e h1
       refine St.call (c_unitinfo_Decode hr17) ent27 rfl rfl rfl (fun _ w => Sat.dup (G := [.ro (SlL eu8 A25 c25 x3), .ro (SlL ei64 (some ⟨0, 0, none⟩) 3 ([2, 5, 7] : List Int))]) rfl ⟨(.head _), (.tail _ (.tail _ (.head _))), trivial⟩ w) ?_
       rintro _ _ ⟨A26, c26, A27, c27, A28, c28, A29, c29, rfl, rfl⟩
       refine St.asrt (F' := .ro (SlL e_Field A26 c26 r17.1.Chassis.Fields) :: .ro (SlL e_Field A27 c27 r17.1.Board.Fields) :: .ro (SlL e_Field A28 c28 r17.1.Product.Fields) :: .ro (SlL eu8 A29 c29 r17.1.Multi) :: .ro (SlL eu8 A25 c25 x3) :: .ro (Sl (codL l_sl_u8) (some ⟨g5, 0, none⟩) ([b_p0, r5.1, o3.1, r14, l7, l8] : List (List Int)).length ([b_p0, r5.1, o3.1, r14, l7, l8])) :: .ro (SlL ei64 (some ⟨0, 0, none⟩) 3 ([2, 5, 7] : List Int)) :: R) (fun _ w => w) ?_
       iterate 3 refine St.p rfl rfl ?_
       refine St.alloc rfl rfl fun g6 => ?_
       refine St.store 0 rfl rfl rfl rfl rfl rfl .z rfl ?_
       refine St.p rfl rfl ?_
       refine St.done ?_
       refine St.thenN ?_
       refine St.prune (Γ' := [(13, _), (14, _), (15, _), (84, _), (85, _), (86, _)]) ⟨rfl, rfl, rfl, rfl, rfl, rfl, trivial⟩ (.k (.k (.k (.k (.k (.k (.k (.k .z)))))))) ?_
       refine St.seq ?_
       refine St.region ?_
       refine St.p rfl rfl ?_
       obtain ⟨r18, hr18, h1⟩ := bnd_e h1
       refine St.call (c_ref17_Decode hr18) ent28 rfl rfl rfl (fun _ w => Sat.dup (G := [.ro (SlL eu8 A25 c25 x3)]) rfl ⟨(.tail _ (.tail _ (.tail _ (.tail _ (.tail _ (.head _)))))), trivial⟩ w) ?_
       rintro _ _ ⟨A30, c30, A31, c31, A32, c32, A33, c33, rfl, rfl⟩
       refine St.asrt (F' := .ro (SlL e_Field A30 c30 r18.1.Chassis.Fields) :: .ro (SlL e_Field A31 c31 r18.1.Board.Fields) :: .ro (SlL e_Field A32 c32 r18.1.Product.Fields) :: .ro (SlL eu8 A33 c33 r18.1.Multi) :: .res (Box g6 28 (bx_T_Info r17.1 A26 c26 A27 c27 A28 c28 A29 c29)) :: .ro (SlL e_Field A26 c26 r17.1.Chassis.Fields) :: .ro (SlL e_Field A27 c27 r17.1.Board.Fields) :: .ro (SlL e_Field A28 c28 r17.1.Product.Fields) :: .ro (SlL eu8 A29 c29 r17.1.Multi) :: .ro (SlL eu8 A25 c25 x3) :: .ro (Sl (codL l_sl_u8) (some ⟨g5, 0, none⟩) ([b_p0, r5.1, o3.1, r14, l7, l8] : List (List Int)).length ([b_p0, r5.1, o3.1, r14, l7, l8])) :: .ro (SlL ei64 (some ⟨0, 0, none⟩) 3 ([2, 5, 7] : List Int)) :: R) (fun _ w => w) ?_
       iterate 3 refine St.p rfl rfl ?_
       refine St.alloc rfl rfl fun g7 => ?_
       refine St.store 0 rfl rfl rfl rfl rfl rfl .z rfl ?_
       refine St.p rfl rfl ?_
       refine St.done ?_
       refine St.thenN ?_
       refine St.prune (Γ' := [(14, _), (15, _), (16, _), (17, _), (84, _), (85, _), (86, _)]) ⟨rfl, rfl, rfl, rfl, rfl, rfl, rfl, trivial⟩ (.k (.k (.k (.k (.k (.k (.k (.k (.k (.k (.d (.k (.k .z))))))))))))) ?_
       refine St.seq ?_
       obtain ⟨o6, hj4, h1⟩ := bnd_e h1
       refine St.cutE (fun (e6 : Unit) => [(84, .slice (some ⟨g5, 0, none⟩) ([b_p0, r5.1, o3.1, r14, l7, l8]).length ([b_p0, r5.1, o3.1, r14, l7, l8] : List (List Int)).length), (85, .int .i64 ((6 : Nat) : Int)), (86, .int .i64 s1), (108, .bool o6)]) (fun e6 => .ro (Sl (codL l_sl_u8) (some ⟨g5, 0, none⟩) ([b_p0, r5.1, o3.1, r14, l7, l8] : List (List Int)).length ([b_p0, r5.1, o3.1, r14, l7, l8])) :: .ro (SlL ei64 (some ⟨0, 0, none⟩) 3 ([2, 5, 7] : List Int)) :: R) ?_ ?_
       ·refine St.region ?_
        iterate 4 refine St.p rfl rfl ?_
        refine St.gSplit (dj := 103) _ rfl (fun hb6 => ?_) (fun hb6 => ?_)
        ·replace hj4 := bif_t hb6 hj4
         refine St.gOff (dj := 103) rfl rfl rfl rfl ?_
         refine St.gOff (dj := 103) rfl rfl rfl rfl ?_
         refine St.gOff (dj := 103) rfl rfl rfl rfl ?_
         refine St.gOff (dj := 103) rfl rfl rfl rfl ?_
         refine St.p rfl rfl ?_
         refine St.done ?_
         injection hj4 with hj4
         subst hj4
         refine St.thenN ?_
         exact St.hereE () ⟨rfl, rfl, rfl, rfl, trivial⟩ (fun _ w => ((.d (.d (.d (.d (.d (.d (.d (.d (.d (.d (.k (.k .z)))))))))))) : Keep _ _).sat w)
        ·replace hj4 := bif_f hb6 hj4
         refine St.gOn (dj := 103) rfl rfl ?_
         refine St.loadB 0 rfl rfl (.tail _ (.tail _ (.tail _ (.tail _ (.tail _ (.head _)))))) rfl rfl ?_
         refine St.gOn (dj := 103) rfl rfl ?_
         refine St.loadB 0 rfl rfl (.head _) rfl rfl ?_
         refine St.gOn (dj := 103) rfl rfl ?_
         obtain ⟨r19, hr19, hj4⟩ := bnd_e hj4
         refine St.callV (c_ref17_Same hr19) ent29 rfl rfl rfl rfl ⟨(.tail _ (.tail _ (.tail _ (.tail _ (.tail _ (.tail _ (.head _))))))), (.tail _ (.tail _ (.tail _ (.tail _ (.tail _ (.tail _ (.tail _ (.head _)))))))), (.tail _ (.tail _ (.tail _ (.tail _ (.tail _ (.tail _ (.tail _ (.tail _ (.head _))))))))), (.tail _ (.tail _ (.tail _ (.tail _ (.tail _ (.tail _ (.tail _ (.tail _ (.tail _ (.head _)))))))))), (.tail _ (.head _)), (.tail _ (.tail _ (.head _))), (.tail _ (.tail _ (.tail _ (.head _)))), (.tail _ (.tail _ (.tail _ (.tail _ (.head _))))), trivial⟩ ?_
         refine St.gOn (dj := 103) rfl rfl ?_
         refine St.p rfl rfl ?_
         refine St.p rfl rfl ?_
         refine St.done ?_
         injection hj4 with hj4
         subst hj4
         refine St.thenN ?_
         exact St.hereE () ⟨rfl, rfl, rfl, rfl, trivial⟩ (fun _ w => ((.d (.d (.d (.d (.d (.d (.d (.d (.d (.d (.k (.k .z)))))))))))) : Keep _ _).sat w)
       ·rintro e6
        refine St.cond _ rfl (fun hb7 => ?_) (fun hb7 => ?_)
        ·replace h1 := bif_t hb7 h1
         refine St.seq ?_
         refine St.region ?_
         refine St.p rfl rfl ?_
         refine St.done ?_
         refine St.thenN ?_
         refine St.prune (Γ' := [(4, _)]) ⟨rfl, trivial⟩ (.d (.k .z)) ?_
         refine St.ret ?_
         repeat (first | refine St.thenR ?_ | refine St.blkR ?_)
         injection h1 with h1
         subst h1
         have ho := hd1 _ rfl
         subst ho
         have h : some _ = some _ := h
         injection h with h
         subst h
         exact St.finR Tryd.results5 (.tmp rfl .nil) rfl [] ⟨rfl, rfl⟩ (fun _ w => ((.d .z) : Keep _ _).sat w)
        ·replace h1 := bif_f hb7 h1
         refine St.skip ?_
         refine St.blkN ?_
         refine St.thenN ?_
         refine St.prune (Γ' := [(84, _), (85, _), (86, _)]) ⟨rfl, rfl, rfl, trivial⟩ (.k (.k .z)) ?_
         refine St.region ?_
         refine St.p rfl rfl ?_
         refine St.p rfl rfl ?_
         refine St.done ?_
         injection h1 with h1
         subst h1
         refine St.thenN ?_
         exact St.again _ () hm1 trivial ⟨rfl, rfl, rfl, trivial⟩ (fun _ w => ((.k (.k .z)) : Keep _ _).sat w)
      ·replace h1 := bif_f hb5 h1
       refine St.exit ?_
       repeat (first | refine St.thenX ?_ | refine St.blkMiss rfl ?_)
       refine St.blkHit ?_
       injection h1 with h1
       subst h1
       have ho := hd1 _ rfl
       subst ho
       refine St.thenN ?_
       exact St.hereI () () rfl trivial (fun _ w => ((.d (.k .z)) : Keep _ _).sat w)
     ·rintro o5 e5 ho
      subst ho
      have h : _ = some _ := h
      refine St.seq ?_
      refine St.region ?_
      obtain ⟨r20, hr20, h⟩ := bnd_e h
      refine St.callV (c_law17_awake hr20) ent10 rfl rfl rfl rfl ⟨(.head _), trivial⟩ ?_
      refine St.p rfl rfl ?_
      refine St.done ?_
      refine St.thenN ?_
      refine St.prune (Γ' := [(4, _)]) ⟨rfl, trivial⟩ (.k .z) ?_
      refine St.ret ?_
      repeat (first | refine St.thenR ?_ | refine St.blkR ?_)
      injection h with h
      subst h
      exact St.finR Tryd.results5 (.tmp rfl .nil) rfl [] ⟨rfl, rfl⟩ (fun _ w => ((.d .z) : Keep _ _).sat w)

end Go.Proofs.YtcekbbbjagfacaaDoor
