/-
 Models of functions of the program, and that the functions compute them.
 Conditions: none.
-/
import Derived.Test.YtcekbbbjagfacaaDoorGenDUnitinfoDecodesa
namespace Go.Proofs.YtcekbbbjagfacaaDoor
open Go
set_option linter.unusedVariables false
set_option maxRecDepth 4000

theorem c_made_Dice_Fields {d_p0 : T_Dice} {least : Int} {A1 : Option Addr} {c1 : Nat} {gb1 : Nat} {r : (T_Dice × (List T_Field))} (h : m_made_Dice_Fields d_p0 least = some r) :
  Fun Tryd.prog 45 [.pointer (some ⟨gb1, 0, none⟩), .int .i64 least] [.ro (SlL ei64 A1 c1 d_p0.L), .res (Box gb1 62 [.slice A1 d_p0.L.length c1, .int .i64 d_p0.At])] (fun v_ F_ => ∃ (A1 : Option Addr) (c1 : Nat) (A2 : Option Addr) (c2 : Nat), v_ = .slice A2 r.2.length c2 ∧ F_ = [.ro (SlL ei64 A1 c1 r.1.L), .res (Box gb1 62 [.slice A1 r.1.L.length c1, .int .i64 r.1.At]), .res (OwnL e_Field 60 A2 c2 r.2)]) := by
 unfold m_made_Dice_Fields at h
 refine Fun.intro Tryd.func45 rfl rfl rfl fun w R => ?_
 refine St.seq ?_
 refine St.region ?_
 refine St.p rfl rfl ?_
 refine St.done ?_
 refine St.thenN ?_
 refine St.prune (Γ' := [(0, _), (1, _)]) ⟨rfl, rfl, trivial⟩ (.k (.k .z)) ?_
 refine St.seq ?_
 refine St.region ?_
 refine St.p rfl rfl ?_
 refine St.p rfl rfl ?_
 obtain ⟨r1, hr1, h⟩ := bnd_e h
 refine St.call (c_made_Dice_Next hr1) ent23 rfl rfl rfl (fun _ w => Sat.dup (G := [.ro (SlL ei64 A1 c1 d_p0.L)]) rfl ⟨(.tail _ (.head _)), trivial⟩ (w.front (.s .z))) ?_
 rintro _ _ ⟨A2, c2, rfl, rfl⟩
 refine St.asrt (F' := .ro (SlL ei64 A2 c2 r1.1.L) :: .res (Box gb1 62 [.slice A2 r1.1.L.length c2, .int .i64 r1.1.At]) :: .ro (SlL ei64 A1 c1 d_p0.L) :: R) (fun _ w => w) ?_
 refine St.p rfl rfl ?_
 refine St.p rfl rfl ?_
 refine St.done ?_
 refine St.thenN ?_
 refine St.prune (Γ' := [(0, _), (5, _)]) ⟨rfl, rfl, trivial⟩ (.k (.k (.d .z))) ?_
 refine St.seq ?_
 obtain ⟨o1, hj1, h⟩ := bnd_e h
 refine St.cutE (fun (e1 : Option Addr × Nat) => [(0, .pointer (some ⟨gb1, 0, none⟩)), (5, .int .i64 o1.1)]) (fun e1 => .ro (SlL ei64 e1.1 e1.2 o1.2.1) :: .res (Box gb1 62 [.slice e1.1 o1.2.1.length e1.2, .int .i64 o1.2.2]) :: R) ?_ ?_
 ·refine St.seq ?_
  refine St.region ?_
  refine St.p rfl rfl ?_
  obtain ⟨r2, hr2, hj1⟩ := bnd_e hj1
  refine St.call (c_made_Dice_Bool hr2) ent24 rfl rfl rfl (fun _ w => Sat.dup (G := [.ro (SlL ei64 A2 c2 r1.1.L)]) rfl ⟨(.tail _ (.head _)), trivial⟩ (w.front (.s .z))) ?_
  rintro _ _ ⟨A4, c4, rfl, rfl⟩
  refine St.asrt (F' := .ro (SlL ei64 A4 c4 r2.1.L) :: .res (Box gb1 62 [.slice A4 r2.1.L.length c4, .int .i64 r2.1.At]) :: .ro (SlL ei64 A2 c2 r1.1.L) :: R) (fun _ w => w) ?_
  refine St.done ?_
  refine St.thenN ?_
  refine St.prune (Γ' := [(0, _), (5, _), (13, _)]) ⟨rfl, rfl, rfl, trivial⟩ (.k (.k (.d .z))) ?_
  refine St.cond _ rfl (fun hb1 => ?_) (fun hb1 => ?_)
  ·replace hj1 := bif_t hb1 hj1
   refine St.region ?_
   refine St.p rfl rfl ?_
   refine St.done ?_
   injection hj1 with hj1
   subst hj1
   refine St.thenN ?_
   exact St.hereE (A4, c4) ⟨rfl, rfl, trivial⟩ (fun _ w => ((.k (.k .z)) : Keep _ _).sat w)
  ·replace hj1 := bif_f hb1 hj1
   refine St.skip ?_
   injection hj1 with hj1
   subst hj1
   refine St.thenN ?_
   exact St.hereE (A4, c4) ⟨rfl, rfl, trivial⟩ (fun _ w => ((.k (.k .z)) : Keep _ _).sat w)
 ·rintro ⟨A3, c3⟩
  refine St.seq ?_
  refine St.region ?_
  refine St.p rfl rfl ?_
  refine St.done ?_
  refine St.thenN ?_
  refine St.seq ?_
  refine St.seq ?_
  refine St.region ?_
  refine St.p rfl rfl ?_
  refine St.done ?_
  refine St.thenN ?_
  refine St.asrt (fun _ w => w.nilL e_Field 60) ?_
  obtain ⟨o2, hl1, h⟩ := bnd_e h
  refine St.cutE (fun (e3 : Option Addr × Nat × Option Addr × Nat) => [(6, .slice e3.1 o2.1.length e3.2.1)]) (fun e3 => .ro (SlL ei64 e3.2.2.1 e3.2.2.2 o2.2.1) :: .res (OwnL e_Field 60 e3.1 e3.2.1 o2.1) :: .res (Box gb1 62 [.slice e3.2.2.1 o2.2.1.length e3.2.2.2, .int .i64 o2.2.2]) :: R) ?_ ?_
  ·refine St.block ?_
   refine St.loop hl1 (fun (s1 : List T_Field × Int × List Int × Int) (e2 : Option Addr × Nat × Option Addr × Nat) => [(0, .pointer (some ⟨gb1, 0, none⟩)), (5, .int .i64 o1.1), (6, .slice e2.1 s1.1.length e2.2.1), (7, .int .i64 s1.2.1)]) (fun s1 e2 => .ro (SlL ei64 e2.2.2.1 e2.2.2.2 s1.2.2.1) :: .res (OwnL e_Field 60 e2.1 e2.2.1 s1.1) :: .res (Box gb1 62 [.slice e2.2.2.1 s1.2.2.1.length e2.2.2.2, .int .i64 s1.2.2.2]) :: R) (fun _ _ => True) (none, 0, A3, c3) trivial ⟨rfl, rfl, rfl, rfl, trivial⟩ (fun _ w => ((.k (.k (.k .z))) : Keep _ _).sat (((w.front (.s (.s .z))).front (.s .z)).front (.s (.s .z)))) ?_
   rintro s1 ⟨A5, c5, A6, c6⟩ - hit1
   obtain ⟨st1, hm1, hd1⟩ := iter_e hit1
   have h1 := hm1
   refine St.seq ?_
   refine St.seq ?_
   refine St.region ?_
   iterate 4 refine St.p rfl rfl ?_
   refine St.done ?_
   refine St.thenN ?_
   refine St.prune (Γ' := [(0, _), (5, _), (6, _), (7, _), (17, _)]) ⟨rfl, rfl, rfl, rfl, rfl, trivial⟩ (.k (.k (.k .z))) ?_
   refine St.cond _ rfl (fun hb2 => ?_) (fun hb2 => ?_)
   ·replace h1 := bif_t hb2 h1
    refine St.skip ?_
    refine St.thenN ?_
    refine St.prune (Γ' := [(0, _), (5, _), (6, _), (7, _)]) ⟨rfl, rfl, rfl, rfl, trivial⟩ (.k (.k (.k .z))) ?_
    refine St.seq ?_
    refine St.block ?_
    refine St.region ?_
    refine St.p rfl rfl ?_
    refine St.p rfl rfl ?_
    obtain ⟨r3, hr3, h1⟩ := bnd_e h1
    refine St.call (c_made_Dice_Field hr3) ent46 rfl rfl rfl (fun _ w => Sat.dup (G := [.ro (SlL ei64 A6 c6 s1.2.2.1)]) rfl ⟨(.tail _ (.head _)), trivial⟩ (w.front (.s (.s .z)))) ?_
    rintro _ _ ⟨A9, c9, rfl, rfl⟩
    refine St.asrt (F' := .ro (SlL ei64 A9 c9 r3.1.L) :: .res (Box gb1 62 [.slice A9 r3.1.L.length c9, .int .i64 r3.1.At]) :: .ro (SlL ei64 A6 c6 s1.2.2.1) :: .res (OwnL e_Field 60 A5 c5 s1.1) :: R) (fun _ w => w) ?_
    refine St.buildSlice rfl rfl rfl rfl rfl rfl rfl rfl fun g1 => ?_
    obtain ⟨l1, hl1, h1⟩ := bnd_e h1
    refine St.app (E := e_Field) hl1 rfl rfl rfl (.s (.s (.s (.s .z)))) rfl rfl rfl rfl rfl rfl rfl rfl (srcB (.head _) rfl rfl) rfl rfl fun A10 c10 => ?_
    refine St.p rfl rfl ?_
    refine St.done ?_
    refine St.blkN ?_
    refine St.thenN ?_
    refine St.prune (Γ' := [(0, _), (5, _), (6, _), (7, _)]) ⟨rfl, rfl, rfl, rfl, trivial⟩ (.k (.d (.k (.k (.d .z))))) ?_
    refine St.region ?_
    iterate 3 refine St.p rfl rfl ?_
    refine St.done ?_
    injection h1 with h1
    subst h1
    refine St.thenN ?_
    exact St.again _ (A10, c10, A9, c9) hm1 trivial ⟨rfl, rfl, rfl, rfl, trivial⟩ (fun _ w => ((.k (.k (.k .z))) : Keep _ _).sat (((w.front (.s (.s .z))).front (.s .z)).front (.s (.s .z))))
   ·replace h1 := bif_f hb2 h1
    refine St.exit ?_
    repeat (first | refine St.thenX ?_ | refine St.blkMiss rfl ?_)
    refine St.blkHit ?_
    injection h1 with h1
    subst h1
    have ho := hd1 _ rfl
    subst ho
    refine St.thenN ?_
    exact St.hereE (A5, c5, A6, c6) ⟨rfl, trivial⟩ (fun _ w => ((.k (.k (.k .z))) : Keep _ _).sat w)
  ·rintro ⟨A7, c7, A8, c8⟩
   refine St.seq ?_
   refine St.region ?_
   refine St.p rfl rfl ?_
   refine St.p rfl rfl ?_
   refine St.done ?_
   refine St.thenN ?_
   refine St.prune (Γ' := [(4, _)]) ⟨rfl, trivial⟩ (.k (.k (.k .z))) ?_
   refine St.ret ?_
   repeat (first | refine St.thenR ?_ | refine St.blkR ?_)
   injection h with h
   subst h
   exact St.finR Tryd.results45 (.tmp rfl .nil) rfl [.ro (SlL ei64 A8 c8 o2.2.1), .res (Box gb1 62 [.slice A8 o2.2.1.length c8, .int .i64 o2.2.2]), .res (OwnL e_Field 60 A7 c7 o2.1)] ⟨A8, c8, A7, c7, rfl, rfl⟩ (fun _ w => ((.k (.k (.k (.d .z)))) : Keep _ _).sat (Sat.dup (G := [.ro (SlL ei64 A8 c8 o2.2.1)]) rfl ⟨(.tail _ (.tail _ (.head _))), trivial⟩ ((w.front (.s .z)).front (.s (.s .z)))))

theorem ent32 : Ent Tryd.prog 32 := ⟨_, Tryd.func32, by kernel_rfl, by kernel_rfl⟩

noncomputable def m_made_Dice_Area (d_p0 : T_Dice) (least : Int) (board : Bool) : Option (T_Dice × T_Area) :=
 bnd (m_made_Dice_Bool d_p0 3) fun r1 => bif r1.2 then (some (r1.1, (⟨false, 0, 0, []⟩ : T_Area))) else (bnd (m_made_Dice_Byte r1.1) fun r2 => bnd (m_made_Dice_Fields r2.1 least) fun r3 => bif board then (bnd (m_made_Dice_Next r3.1 16777216) fun r4 => some (r4.1, (⟨true, r2.2, IntKind.wrap .u32 r4.2, r3.2⟩ : T_Area))) else (some (r3.1, (⟨true, r2.2, 0, r3.2⟩ : T_Area))))

theorem c_made_Dice_Area {d_p0 : T_Dice} {least : Int} {board : Bool} {A1 : Option Addr} {c1 : Nat} {gb1 : Nat} {r : (T_Dice × T_Area)} (h : m_made_Dice_Area d_p0 least board = some r) :
  Fun Tryd.prog 32 [.pointer (some ⟨gb1, 0, none⟩), .int .i64 least, .bool board] [.ro (SlL ei64 A1 c1 d_p0.L), .res (Box gb1 62 [.slice A1 d_p0.L.length c1, .int .i64 d_p0.At])] (fun v_ F_ => ∃ (A1 : Option Addr) (c1 : Nat) (A2 : Option Addr) (c2 : Nat), v_ = .agg (bx_T_Area r.2 A2 c2).toArray ∧ F_ = [.ro (SlL ei64 A1 c1 r.1.L), .ro (SlL e_Field A2 c2 r.2.Fields), .res (Box gb1 62 [.slice A1 r.1.L.length c1, .int .i64 r.1.At])]) := by
 unfold m_made_Dice_Area at h
 refine Fun.intro Tryd.func32 rfl rfl rfl fun w R => ?_
 refine St.seq ?_
 refine St.region ?_
 refine St.alloc rfl rfl fun g1 => ?_
 refine St.done ?_
 refine St.thenN ?_
 refine St.seq ?_
 refine St.seq ?_
 refine St.region ?_
 refine St.p rfl rfl ?_
 obtain ⟨r1, hr1, h⟩ := bnd_e h
 refine St.call (c_made_Dice_Bool hr1) ent24 rfl rfl rfl (fun _ w => Sat.dup (G := [.ro (SlL ei64 A1 c1 d_p0.L)]) rfl ⟨(.tail _ (.tail _ (.head _))), trivial⟩ (w.front (.s (.s .z)))) ?_
 rintro _ _ ⟨A2, c2, rfl, rfl⟩
 refine St.asrt (F' := .ro (SlL ei64 A2 c2 r1.1.L) :: .res (Box gb1 62 [.slice A2 r1.1.L.length c2, .int .i64 r1.1.At]) :: .res (Box g1 25 [.bool false, .int .u8 0, .int .u32 0, .slice none 0 0]) :: .ro (SlL ei64 A1 c1 d_p0.L) :: R) (fun _ w => w) ?_
 refine St.done ?_
 refine St.thenN ?_
 refine St.prune (Γ' := [(0, _), (1, _), (2, _), (6, _), (9, _)]) ⟨rfl, rfl, rfl, rfl, rfl, trivial⟩ (.k (.k (.k (.d .z)))) ?_
 refine St.cond _ rfl (fun hb1 => ?_) (fun hb1 => ?_)
 ·replace h := bif_t hb1 h
  refine St.seq ?_
  refine St.region ?_
  refine St.p rfl rfl ?_
  refine St.store 0 rfl rfl rfl rfl rfl rfl (.s (.s .z)) rfl ?_
  refine St.done ?_
  refine St.thenN ?_
  refine St.prune (Γ' := [(6, _)]) ⟨rfl, trivial⟩ (.k (.k (.k .z))) ?_
  refine St.ret ?_
  repeat (first | refine St.thenR ?_ | refine St.blkR ?_)
  refine St.asrt (fun _ w => w.nilSl (cod e_Field)) ?_
  injection h with h
  subst h
  exact St.finR Tryd.results32 (.cell rfl (.tail _ (.head _)) rfl .nil) rfl [.ro (SlL ei64 A2 c2 r1.1.L), .ro (SlL e_Field none 0 ([] : List T_Field)), .res (Box gb1 62 [.slice A2 r1.1.L.length c2, .int .i64 r1.1.At])] ⟨A2, c2, none, 0, rfl, rfl⟩ (fun _ w => ((.k (.k (.k (.d (.d (.d .z)))))) : Keep _ _).sat (Sat.dup (G := [.ro (SlL ei64 A2 c2 r1.1.L), .ro (SlL e_Field none 0 ([] : List T_Field))]) rfl ⟨(.tail _ (.tail _ (.tail _ (.head _)))), (.tail _ (.head _)), trivial⟩ (w.front (.s (.s (.s .z))))))
 ·replace h := bif_f hb1 h
  refine St.skip ?_
  refine St.thenN ?_
  refine St.prune (Γ' := [(0, _), (1, _), (2, _), (6, _)]) ⟨rfl, rfl, rfl, rfl, trivial⟩ (.k (.k (.k .z))) ?_
  refine St.seq ?_
  refine St.region ?_
  refine St.p rfl rfl ?_
  obtain ⟨r2, hr2, h⟩ := bnd_e h
  refine St.call (c_made_Dice_Byte hr2) ent25 rfl rfl rfl (fun _ w => Sat.dup (G := [.ro (SlL ei64 A2 c2 r1.1.L)]) rfl ⟨(.tail _ (.head _)), trivial⟩ (w.front (.s .z))) ?_
  rintro _ _ ⟨A3, c3, rfl, rfl⟩
  refine St.asrt (F' := .ro (SlL ei64 A3 c3 r2.1.L) :: .res (Box gb1 62 [.slice A3 r2.1.L.length c3, .int .i64 r2.1.At]) :: .ro (SlL ei64 A2 c2 r1.1.L) :: .res (Box g1 25 [.bool false, .int .u8 0, .int .u32 0, .slice none 0 0]) :: R) (fun _ w => w) ?_
  refine St.p rfl rfl ?_
  refine St.p rfl rfl ?_
  obtain ⟨r3, hr3, h⟩ := bnd_e h
  refine St.call (c_made_Dice_Fields hr3) ent45 rfl rfl rfl (fun _ w => Sat.dup (G := [.ro (SlL ei64 A3 c3 r2.1.L)]) rfl ⟨(.tail _ (.head _)), trivial⟩ (w.front (.s .z))) ?_
  rintro _ _ ⟨A4, c4, A5, c5, rfl, rfl⟩
  refine St.asrt (F' := .ro (SlL ei64 A4 c4 r3.1.L) :: .res (Box gb1 62 [.slice A4 r3.1.L.length c4, .int .i64 r3.1.At]) :: .res (OwnL e_Field 60 A5 c5 r3.2) :: .ro (SlL ei64 A3 c3 r2.1.L) :: .ro (SlL ei64 A2 c2 r1.1.L) :: .res (Box g1 25 [.bool false, .int .u8 0, .int .u32 0, .slice none 0 0]) :: R) (fun _ w => w) ?_
  refine St.p rfl rfl ?_
  refine St.alloc rfl rfl fun g2 => ?_
  refine St.store 0 rfl rfl rfl rfl rfl rfl .z rfl ?_
  refine St.done ?_
  refine St.thenN ?_
  refine St.prune (Γ' := [(0, _), (2, _), (6, _), (7, _)]) ⟨rfl, rfl, rfl, rfl, trivial⟩ (.k (.k (.k (.k (.d (.d (.k .z))))))) ?_
  refine St.seq ?_
  refine St.seq ?_
  refine St.region ?_
  refine St.p rfl rfl ?_
  refine St.done ?_
  refine St.thenN ?_
  refine St.prune (Γ' := [(0, _), (6, _), (7, _), (17, _)]) ⟨rfl, rfl, rfl, rfl, trivial⟩ (.k (.k (.k (.k (.k .z))))) ?_
  refine St.cond _ rfl (fun hb2 => ?_) (fun hb2 => ?_)
  ·replace h := bif_t hb2 h
   refine St.region ?_
   refine St.p rfl rfl ?_
   obtain ⟨r4, hr4, h⟩ := bnd_e h
   refine St.call (c_made_Dice_Next hr4) ent23 rfl rfl rfl (fun _ w => Sat.dup (G := [.ro (SlL ei64 A4 c4 r3.1.L)]) rfl ⟨(.tail _ (.tail _ (.head _))), trivial⟩ (w.front (.s (.s .z)))) ?_
   rintro _ _ ⟨A6, c6, rfl, rfl⟩
   refine St.asrt (F' := .ro (SlL ei64 A6 c6 r4.1.L) :: .res (Box gb1 62 [.slice A6 r4.1.L.length c6, .int .i64 r4.1.At]) :: .res (Box g2 25 [.bool true, .int .u8 r2.2, .int .u32 0, .slice A5 r3.2.length c5]) :: .ro (SlL ei64 A4 c4 r3.1.L) :: .res (OwnL e_Field 60 A5 c5 r3.2) :: .res (Box g1 25 [.bool false, .int .u8 0, .int .u32 0, .slice none 0 0]) :: R) (fun _ w => w) ?_
   refine St.p rfl rfl ?_
   refine St.p rfl rfl ?_
   refine St.store 2 rfl rfl rfl rfl rfl rfl (.s (.s .z)) rfl ?_
   refine St.done ?_
   refine St.thenN ?_
   refine St.prune (Γ' := [(6, _), (7, _)]) ⟨rfl, rfl, trivial⟩ (.k (.k (.k (.d (.k (.k .z)))))) ?_
   refine St.seq ?_
   refine St.region ?_
   refine St.loadB 0 rfl rfl (.head _) rfl rfl ?_
   refine St.store 0 rfl rfl rfl rfl rfl rfl (.s (.s (.s (.s .z)))) rfl ?_
   refine St.done ?_
   refine St.thenN ?_
   refine St.prune (Γ' := [(6, _)]) ⟨rfl, trivial⟩ (.k (.d (.k (.k (.k .z))))) ?_
   refine St.ret ?_
   repeat (first | refine St.thenR ?_ | refine St.blkR ?_)
   refine St.asrt (fun _ w => (w.front (.s (.s (.s .z)))).meltL) ?_
   injection h with h
   subst h
   exact St.finR Tryd.results32 (.cell rfl (.tail _ (.head _)) rfl .nil) rfl [.ro (SlL ei64 A6 c6 r4.1.L), .ro (SlL e_Field A5 c5 r3.2), .res (Box gb1 62 [.slice A6 r4.1.L.length c6, .int .i64 r4.1.At])] ⟨A6, c6, A5, c5, rfl, rfl⟩ (fun _ w => ((.k (.k (.k (.d (.d (.d .z)))))) : Keep _ _).sat (Sat.dup (G := [.ro (SlL ei64 A6 c6 r4.1.L), .ro (SlL e_Field A5 c5 r3.2)]) rfl ⟨(.tail _ (.tail _ (.tail _ (.head _)))), (.tail _ (.head _)), trivial⟩ (w.front (.s (.s (.s .z))))))
  ·replace h := bif_f hb2 h
   refine St.skip ?_
   refine St.thenN ?_
   refine St.prune (Γ' := [(6, _), (7, _)]) ⟨rfl, rfl, trivial⟩ (.k (.k (.k (.k (.k .z))))) ?_
   refine St.seq ?_
   refine St.region ?_
   refine St.loadB 0 rfl rfl (.head _) rfl rfl ?_
   refine St.store 0 rfl rfl rfl rfl rfl rfl (.s (.s (.s (.s .z)))) rfl ?_
   refine St.done ?_
   refine St.thenN ?_
   refine St.prune (Γ' := [(6, _)]) ⟨rfl, trivial⟩ (.k (.d (.k (.k (.k .z))))) ?_
   refine St.ret ?_
   repeat (first | refine St.thenR ?_ | refine St.blkR ?_)
   refine St.asrt (fun _ w => (w.front (.s (.s (.s .z)))).meltL) ?_
   injection h with h
   subst h
   exact St.finR Tryd.results32 (.cell rfl (.tail _ (.head _)) rfl .nil) rfl [.ro (SlL ei64 A4 c4 r3.1.L), .ro (SlL e_Field A5 c5 r3.2), .res (Box gb1 62 [.slice A4 r3.1.L.length c4, .int .i64 r3.1.At])] ⟨A4, c4, A5, c5, rfl, rfl⟩ (fun _ w => ((.k (.k (.k (.d (.d (.d .z)))))) : Keep _ _).sat (Sat.dup (G := [.ro (SlL ei64 A4 c4 r3.1.L), .ro (SlL e_Field A5 c5 r3.2)]) rfl ⟨(.tail _ (.tail _ (.tail _ (.head _)))), (.tail _ (.head _)), trivial⟩ (w.front (.s (.s (.s .z))))))

theorem ent68 : Ent Tryd.prog 68 := ⟨_, Tryd.func68, by kernel_rfl, by kernel_rfl⟩

noncomputable def m_ref17_least (kind : Int) : Option Int :=
 bif (kind == 0) then (some 2) else (bif (kind == 1) then (some 5) else (some 7))

theorem c_ref17_least {kind : Int} {r : Int} (h : m_ref17_least kind = some r) :
  Fun Tryd.prog 68 [.int .i64 kind] [] (Val (.int .i64 r)) := by
 unfold m_ref17_least at h
 refine Fun.intro Tryd.func68 rfl rfl rfl fun w R => ?_
 refine St.seq ?_
 refine St.region ?_
 refine St.p rfl rfl ?_
 refine St.done ?_
 refine St.thenN ?_
 refine St.prune (Γ' := [(0, _)]) ⟨rfl, trivial⟩ .z ?_
 refine St.seq ?_
 refine St.seq ?_
 refine St.region ?_
 refine St.p rfl rfl ?_
 refine St.done ?_
 refine St.thenN ?_
 refine St.prune (Γ' := [(3, _)]) ⟨rfl, trivial⟩ .z ?_
 refine St.block ?_
 refine St.seq ?_
 refine St.region ?_
 refine St.p rfl rfl ?_
 refine St.p rfl rfl ?_
 refine St.done ?_
 refine St.thenN ?_
 refine St.prune (Γ' := [(3, _), (4, _)]) ⟨rfl, rfl, trivial⟩ .z ?_
 refine St.cond _ rfl (fun hb1 => ?_) (fun hb1 => ?_)
 ·replace h := bif_t hb1 h
  refine St.seq ?_
  refine St.region ?_
  refine St.p rfl rfl ?_
  refine St.done ?_
  refine St.thenN ?_
  refine St.prune (Γ' := [(2, _)]) ⟨rfl, trivial⟩ .z ?_
  refine St.ret ?_
  repeat (first | refine St.thenR ?_ | refine St.blkR ?_)
  injection h with h
  subst h
  exact St.finR Tryd.results68 (.tmp rfl .nil) rfl [] ⟨rfl, rfl⟩ (fun _ w => (.z : Keep _ _).sat w)
 ·replace h := bif_f hb1 h
  refine St.seq ?_
  refine St.region ?_
  refine St.p rfl rfl ?_
  refine St.p rfl rfl ?_
  refine St.done ?_
  refine St.thenN ?_
  refine St.prune (Γ' := [(6, _)]) ⟨rfl, trivial⟩ .z ?_
  refine St.cond _ rfl (fun hb2 => ?_) (fun hb2 => ?_)
  ·replace h := bif_t hb2 h
   refine St.seq ?_
   refine St.region ?_
   refine St.p rfl rfl ?_
   refine St.done ?_
   refine St.thenN ?_
   refine St.prune (Γ' := [(2, _)]) ⟨rfl, trivial⟩ .z ?_
   refine St.ret ?_
   repeat (first | refine St.thenR ?_ | refine St.blkR ?_)
   injection h with h
   subst h
   exact St.finR Tryd.results68 (.tmp rfl .nil) rfl [] ⟨rfl, rfl⟩ (fun _ w => (.z : Keep _ _).sat w)
  ·replace h := bif_f hb2 h
   refine St.skip ?_
   refine St.blkN ?_
   refine St.thenN ?_
   refine St.prune (Γ' := []) trivial .z ?_
   refine St.seq ?_
   refine St.region ?_
   refine St.p rfl rfl ?_
   refine St.done ?_
   refine St.thenN ?_
   refine St.ret ?_
   repeat (first | refine St.thenR ?_ | refine St.blkR ?_)
   injection h with h
   subst h
   exact St.finR Tryd.results68 (.tmp rfl .nil) rfl [] ⟨rfl, rfl⟩ (fun _ w => (.z : Keep _ _).sat w)

theorem ent100 : Ent Tryd.prog 100 := ⟨_, Tryd.func100, by kernel_rfl, by kernel_rfl⟩

noncomputable def m_ref02_digit (c_p0 : Int) : Option Int :=
 bnd ((bif decide (c_p0 ≥ 48) then (some (decide (c_p0 ≤ 57))) else (some false) : Option Bool)) fun o1 => bif o1 then (some (IntKind.wrap .i64 (IntKind.wrap .u8 (c_p0 - 48)))) else (bif (c_p0 == 32) then (some 10) else (bif (c_p0 == 45) then (some 11) else (bif (c_p0 == 46) then (some 12) else (some (-1)))))

theorem c_ref02_digit {c_p0 : Int} {r : Int} (h : m_ref02_digit c_p0 = some r) :
  Fun Tryd.prog 100 [.int .u8 c_p0] [] (Val (.int .i64 r)) := by
 unfold m_ref02_digit at h
 refine Fun.intro Tryd.func100 rfl rfl rfl fun w R => ?_
 refine St.seq ?_
 refine St.region ?_
 refine St.p rfl rfl ?_
 refine St.done ?_
 refine St.thenN ?_
 refine St.prune (Γ' := [(0, _)]) ⟨rfl, trivial⟩ .z ?_
 refine St.seq ?_
 refine St.block ?_
 refine St.seq ?_
 obtain ⟨o1, hj1, h⟩ := bnd_e h
 refine St.cutE (fun (e1 : Unit) => [(0, .int .u8 c_p0), (3, .bool o1)]) (fun e1 => R) ?_ ?_
 ·refine St.region ?_
  iterate 3 refine St.p rfl rfl ?_
  refine St.gSplit (dj := 6) _ rfl (fun hb1 => ?_) (fun hb1 => ?_)
  ·replace hj1 := bif_t hb1 hj1
   refine St.gOn (dj := 6) rfl rfl ?_
   refine St.p rfl rfl ?_
   refine St.gOn (dj := 6) rfl rfl ?_
   iterate 3 refine St.p rfl rfl ?_
   refine St.done ?_
   injection hj1 with hj1
   subst hj1
   refine St.thenN ?_
   exact St.hereE () ⟨rfl, rfl, trivial⟩ (fun _ w => (.z : Keep _ _).sat w)
  ·replace hj1 := bif_f hb1 hj1
   refine St.gOff (dj := 6) rfl rfl rfl rfl ?_
   refine St.gOff (dj := 6) rfl rfl rfl rfl ?_
   refine St.p rfl rfl ?_
   refine St.p rfl rfl ?_
   refine St.done ?_
   injection hj1 with hj1
   subst hj1
   refine St.thenN ?_
   exact St.hereE () ⟨rfl, rfl, trivial⟩ (fun _ w => (.z : Keep _ _).sat w)
 ·rintro e1
  refine St.cond _ rfl (fun hb2 => ?_) (fun hb2 => ?_)
  ·replace h := bif_t hb2 h
   refine St.seq ?_
   refine St.region ?_
   iterate 4 refine St.p rfl rfl ?_
   refine St.done ?_
   refine St.thenN ?_
   refine St.prune (Γ' := [(2, _)]) ⟨rfl, trivial⟩ .z ?_
   refine St.ret ?_
   repeat (first | refine St.thenR ?_ | refine St.blkR ?_)
   injection h with h
   subst h
   exact St.finR Tryd.results100 (.tmp rfl .nil) rfl [] ⟨rfl, rfl⟩ (fun _ w => (.z : Keep _ _).sat w)
  ·replace h := bif_f hb2 h
   refine St.seq ?_
   refine St.region ?_
   iterate 3 refine St.p rfl rfl ?_
   refine St.done ?_
   refine St.thenN ?_
   refine St.prune (Γ' := [(0, _), (13, _)]) ⟨rfl, rfl, trivial⟩ .z ?_
   refine St.cond _ rfl (fun hb3 => ?_) (fun hb3 => ?_)
   ·replace h := bif_t hb3 h
    refine St.seq ?_
    refine St.region ?_
    refine St.p rfl rfl ?_
    refine St.done ?_
    refine St.thenN ?_
    refine St.prune (Γ' := [(2, _)]) ⟨rfl, trivial⟩ .z ?_
    refine St.ret ?_
    repeat (first | refine St.thenR ?_ | refine St.blkR ?_)
    injection h with h
    subst h
    exact St.finR Tryd.results100 (.tmp rfl .nil) rfl [] ⟨rfl, rfl⟩ (fun _ w => (.z : Keep _ _).sat w)
   ·replace h := bif_f hb3 h
    refine St.seq ?_
    refine St.region ?_
    iterate 3 refine St.p rfl rfl ?_
    refine St.done ?_
    refine St.thenN ?_
    refine St.prune (Γ' := [(0, _), (16, _)]) ⟨rfl, rfl, trivial⟩ .z ?_
    refine St.cond _ rfl (fun hb4 => ?_) (fun hb4 => ?_)
    ·replace h := bif_t hb4 h
     refine St.seq ?_
     refine St.region ?_
     refine St.p rfl rfl ?_
     refine St.done ?_
     refine St.thenN ?_
     refine St.prune (Γ' := [(2, _)]) ⟨rfl, trivial⟩ .z ?_
     refine St.ret ?_
     repeat (first | refine St.thenR ?_ | refine St.blkR ?_)
     injection h with h
     subst h
     exact St.finR Tryd.results100 (.tmp rfl .nil) rfl [] ⟨rfl, rfl⟩ (fun _ w => (.z : Keep _ _).sat w)
    ·replace h := bif_f hb4 h
     refine St.seq ?_
     refine St.region ?_
     iterate 3 refine St.p rfl rfl ?_
     refine St.done ?_
     refine St.thenN ?_
     refine St.prune (Γ' := [(19, _)]) ⟨rfl, trivial⟩ .z ?_
     refine St.cond _ rfl (fun hb5 => ?_) (fun hb5 => ?_)
     ·replace h := bif_t hb5 h
      refine St.seq ?_
      refine St.region ?_
      refine St.p rfl rfl ?_
      refine St.done ?_
      refine St.thenN ?_
      refine St.prune (Γ' := [(2, _)]) ⟨rfl, trivial⟩ .z ?_
      refine St.ret ?_
      repeat (first | refine St.thenR ?_ | refine St.blkR ?_)
      injection h with h
      subst h
      exact St.finR Tryd.results100 (.tmp rfl .nil) rfl [] ⟨rfl, rfl⟩ (fun _ w => (.z : Keep _ _).sat w)
     ·replace h := bif_f hb5 h
      refine St.skip ?_
      refine St.blkN ?_
      refine St.thenN ?_
      refine St.prune (Γ' := []) trivial .z ?_
      refine St.seq ?_
      refine St.region ?_
      refine St.p rfl rfl ?_
      refine St.done ?_
      refine St.thenN ?_
      refine St.ret ?_
      repeat (first | refine St.thenR ?_ | refine St.blkR ?_)
      injection h with h
      subst h
      exact St.finR Tryd.results100 (.tmp rfl .nil) rfl [] ⟨rfl, rfl⟩ (fun _ w => (.z : Keep _ _).sat w)

theorem ent101 : Ent Tryd.prog 101 := ⟨_, Tryd.func101, by kernel_rfl, by kernel_rfl⟩

noncomputable def m_ref02_sixBytes (n_p0 : Int) : Option Int :=
 some (IntKind.wrap .i64 ((IntKind.wrap .i64 ((IntKind.wrap .i64 (6 * n_p0)) + 7)).tdiv 8))

theorem c_ref02_sixBytes {n_p0 : Int} {r : Int} (h : m_ref02_sixBytes n_p0 = some r) :
  Fun Tryd.prog 101 [.int .i64 n_p0] [] (Val (.int .i64 r)) := by
 unfold m_ref02_sixBytes at h
 refine Fun.intro Tryd.func101 rfl rfl rfl fun w R => ?_
 refine St.seq ?_
 refine St.region ?_
 refine St.p rfl rfl ?_
 refine St.done ?_
 refine St.thenN ?_
 refine St.prune (Γ' := [(0, _)]) ⟨rfl, trivial⟩ .z ?_
 refine St.seq ?_
 refine St.region ?_
 iterate 5 refine St.p rfl rfl ?_
 refine St.done ?_
 refine St.thenN ?_
 refine St.prune (Γ' := [(2, _)]) ⟨rfl, trivial⟩ .z ?_
 refine St.ret ?_
 repeat (first | refine St.thenR ?_ | refine St.blkR ?_)
 injection h with h
 subst h
 exact St.finR Tryd.results101 (.tmp rfl .nil) rfl [] ⟨rfl, rfl⟩ (fun _ w => (.z : Keep _ _).sat w)

theorem ent92 : Ent Tryd.prog 92 := ⟨_, Tryd.func92, by kernel_rfl, by kernel_rfl⟩

noncomputable def m_ref02_Valid (f_p0 : T_Field) : Option Bool :=
 bif (f_p0.Kind == 0) then (some (decide ((f_p0.Value.size : Int) ≤ 63))) else (bif (f_p0.Kind == 1) then (bnd ((bif (((f_p0.Value.size : Int).tmod 2) != 0) then (some true) else (some (decide ((f_p0.Value.size : Int) > 126))) : Option Bool)) fun o1 => bif o1 then (some false) else (bnd (loopM (τ := Bool ⊕ Unit) (fun (s1 : Int) => bif decide (s1 < (f_p0.Value.size : Int)) then (bnd (eltS f_p0.Value s1) fun y1 => bnd (m_ref02_digit y1) fun r1 => bif decide (r1 < 0) then (some (.done (.inl false))) else (some (.next (IntKind.wrap .i64 (s1 + 1))))) else (some (.done (.inr ())))) 0) fun o2 => retOr o2 fun o3 => some true)) else (bif (f_p0.Kind == 2) then (bnd ((bif (((f_p0.Value.size : Int).tmod 4) == 3) then (some true) else (bif decide ((f_p0.Value.size : Int) > 126) then (some true) else (bnd (m_ref02_sixBytes (f_p0.Value.size : Int)) fun r2 => some (decide (r2 > 63)))) : Option Bool)) fun o4 => bif o4 then (some false) else (bnd (loopM (τ := Bool ⊕ Unit) (fun (s2 : Int) => bif decide (s2 < (f_p0.Value.size : Int)) then (bnd ((bnd (eltS f_p0.Value s2) fun y2 => bif decide (y2 < 32) then (some true) else (some (decide (y2 > 95))) : Option Bool)) fun o7 => bif o7 then (some (.done (.inl false))) else (some (.next (IntKind.wrap .i64 (s2 + 1))))) else (some (.done (.inr ())))) 0) fun o5 => retOr o5 fun o6 => some true)) else (bif (f_p0.Kind == 3) then (bnd ((bif ((f_p0.Value.size : Int) == 0) then (some true) else (bif decide ((f_p0.Value.size : Int) ≥ 2) then (some (decide ((f_p0.Value.size : Int) ≤ 63))) else (some false)) : Option Bool)) fun o8 => some o8) else (some false))))

set_option maxHeartbeats 4000000 in
theorem c_ref02_Valid {f_p0 : T_Field} {r : Bool} (h : m_ref02_Valid f_p0 = some r) :
  Fun Tryd.prog 92 [.agg #[.int .i64 f_p0.Kind, .string f_p0.Value]] [] (Val (.bool r)) := by
 unfold m_ref02_Valid at h
 refine Fun.intro Tryd.func92 rfl rfl rfl fun w R => ?_
 refine St.seq ?_
 refine St.region ?_
 refine St.box rfl rfl fun g1 => ?_
 refine St.p rfl rfl ?_
 refine St.done ?_
 refine St.thenN ?_
 refine St.prune (Γ' := [(1, _)]) ⟨rfl, trivial⟩ (.k .z) ?_
 refine St.seq ?_
 refine St.region ?_
 refine St.p rfl rfl ?_
 refine St.loadB 1 rfl rfl (.head _) rfl rfl ?_
 refine St.p rfl rfl ?_
 refine St.p rfl rfl ?_
 refine St.done ?_
 refine St.thenN ?_
 refine St.prune (Γ' := [(1, _), (3, _)]) ⟨rfl, rfl, trivial⟩ (.k .z) ?_
 refine St.seq ?_
 refine St.seq ?_
 refine St.region ?_
 refine St.p rfl rfl ?_
 refine St.loadB 0 rfl rfl (.head _) rfl rfl ?_
 refine St.done ?_
 refine St.thenN ?_
 refine St.prune (Γ' := [(1, _), (3, _), (10, _)]) ⟨rfl, rfl, rfl, trivial⟩ (.k .z) ?_
 refine St.block ?_
 refine St.seq ?_
 refine St.region ?_
 refine St.p rfl rfl ?_
 refine St.p rfl rfl ?_
 refine St.done ?_
 refine St.thenN ?_
 refine St.prune (Γ' := [(1, _), (3, _), (10, _), (11, _)]) ⟨rfl, rfl, rfl, rfl, trivial⟩ (.k .z) ?_
 refine St.cond _ rfl (fun hb1 => ?_) (fun hb1 => ?_)
 ·replace h := bif_t hb1 h
  refine St.seq ?_
  refine St.region ?_
  iterate 3 refine St.p rfl rfl ?_
  refine St.done ?_
  refine St.thenN ?_
  refine St.prune (Γ' := [(2, _)]) ⟨rfl, trivial⟩ (.d .z) ?_
  refine St.ret ?_
  repeat (first | refine St.thenR ?_ | refine St.blkR ?_)
  injection h with h
  subst h
  exact St.finR Tryd.results92 (.tmp rfl .nil) rfl [] ⟨rfl, rfl⟩ (fun _ w => (.z : Keep _ _).sat w)
 ·replace h := bif_f hb1 h
  refine St.seq ?_
  refine St.region ?_
  refine St.p rfl rfl ?_
  refine St.p rfl rfl ?_
  refine St.done ?_
  refine St.thenN ?_
  refine St.prune (Γ' := [(1, _), (3, _), (10, _), (15, _)]) ⟨rfl, rfl, rfl, rfl, trivial⟩ (.k .z) ?_
  refine St.cond _ rfl (fun hb2 => ?_) (fun hb2 => ?_)
  ·replace h := bif_t hb2 h
   refine St.seq ?_
   refine St.seq ?_
   obtain ⟨o1, hj1, h⟩ := bnd_e h
   refine St.cutE (fun (e1 : Unit) => [(1, .pointer (some ⟨g1, 0, none⟩)), (3, .int .i64 (f_p0.Value.size : Int)), (23, .bool o1)]) (fun e1 => .res (Box g1 60 [.int .i64 f_p0.Kind, .string f_p0.Value]) :: R) ?_ ?_
   ·refine St.region ?_
    iterate 4 refine St.p rfl rfl ?_
    refine St.gSplit (dj := 20) _ rfl (fun hb3 => ?_) (fun hb3 => ?_)
    ·replace hj1 := bif_t hb3 hj1
     refine St.gOff (dj := 20) rfl rfl rfl rfl ?_
     refine St.gOff (dj := 20) rfl rfl rfl rfl ?_
     refine St.p rfl rfl ?_
     refine St.done ?_
     injection hj1 with hj1
     subst hj1
     refine St.thenN ?_
     exact St.hereE () ⟨rfl, rfl, rfl, trivial⟩ (fun _ w => ((.k .z) : Keep _ _).sat w)
    ·replace hj1 := bif_f hb3 hj1
     refine St.gOn (dj := 20) rfl rfl ?_
     refine St.p rfl rfl ?_
     refine St.gOn (dj := 20) rfl rfl ?_
     refine St.p rfl rfl ?_
     refine St.p rfl rfl ?_
     refine St.done ?_
     injection hj1 with hj1
     subst hj1
     refine St.thenN ?_
     exact St.hereE () ⟨rfl, rfl, rfl, trivial⟩ (fun _ w => ((.k .z) : Keep _ _).sat w)
   ·rintro e1
    refine St.cond _ rfl (fun hb4 => ?_) (fun hb4 => ?_)
    ·replace h := bif_t hb4 h
     refine St.seq ?_
     refine St.region ?_
     refine St.p rfl rfl ?_
     refine St.done ?_
     refine St.thenN ?_
     refine St.prune (Γ' := [(2, _)]) ⟨rfl, trivial⟩ (.d .z) ?_
     refine St.ret ?_
     repeat (first | refine St.thenR ?_ | refine St.blkR ?_)
     injection h with h
     subst h
     exact St.finR Tryd.results92 (.tmp rfl .nil) rfl [] ⟨rfl, rfl⟩ (fun _ w => (.z : Keep _ _).sat w)
    ·replace h := bif_f hb4 h
     refine St.skip ?_
     refine St.thenN ?_
     refine St.prune (Γ' := [(1, _), (3, _)]) ⟨rfl, rfl, trivial⟩ (.k .z) ?_
     refine St.seq ?_
     refine St.seq ?_
     refine St.region ?_
     refine St.p rfl rfl ?_
     refine St.done ?_
     refine St.thenN ?_
     obtain ⟨o2, hl1, h⟩ := bnd_e h
     refine St.cutI (fun (o3 : Unit) (e3 : Unit) => []) (fun o3 e3 => R) (fun o3 => o2 = .inr o3) ?_ ?_
     ·refine St.block ?_
      refine St.loop hl1 (fun (s1 : Int) (e2 : Unit) => [(1, .pointer (some ⟨g1, 0, none⟩)), (3, .int .i64 (f_p0.Value.size : Int)), (4, .int .i64 s1)]) (fun s1 e2 => .res (Box g1 60 [.int .i64 f_p0.Kind, .string f_p0.Value]) :: R) (fun _ _ => True) () trivial ⟨rfl, rfl, rfl, trivial⟩ (fun _ w => ((.k .z) : Keep _ _).sat w) ?_
      rintro s1 e2 - hit1
      obtain ⟨st1, hm1, hd1⟩ := iter_e hit1
      have h1 := hm1
      refine St.seq ?_
      refine St.seq ?_
      refine St.region ?_
      iterate 3 refine St.p rfl rfl ?_
      refine St.done ?_
      refine St.thenN ?_
      refine St.prune (Γ' := [(1, _), (3, _), (4, _), (26, _)]) ⟨rfl, rfl, rfl, rfl, trivial⟩ (.k .z) ?_
      refine St.cond _ rfl (fun hb5 => ?_) (fun hb5 => ?_)
      ·replace h1 := bif_t hb5 h1
       refine St.skip ?_
       refine St.thenN ?_
       refine St.prune (Γ' := [(1, _), (3, _), (4, _)]) ⟨rfl, rfl, rfl, trivial⟩ (.k .z) ?_
       refine St.seq ?_
       refine St.block ?_
       refine St.seq ?_
       refine St.region ?_
       refine St.p rfl rfl ?_
       refine St.loadB 1 rfl rfl (.head _) rfl rfl ?_
       refine St.p rfl rfl ?_
       obtain ⟨y1, hy1, h1⟩ := bnd_e h1
       refine St.eltS rfl rfl rfl rfl rfl hy1 ?_
       obtain ⟨r1, hr1, h1⟩ := bnd_e h1
       refine St.callV (c_ref02_digit hr1) ent100 rfl rfl rfl rfl trivial ?_
       refine St.p rfl rfl ?_
       refine St.done ?_
       refine St.thenN ?_
       refine St.prune (Γ' := [(1, _), (3, _), (4, _), (34, _)]) ⟨rfl, rfl, rfl, rfl, trivial⟩ (.k .z) ?_
       refine St.cond _ rfl (fun hb6 => ?_) (fun hb6 => ?_)
       ·replace h1 := bif_t hb6 h1
        refine St.seq ?_
        refine St.region ?_
        refine St.p rfl rfl ?_
        refine St.done ?_
        refine St.thenN ?_
        refine St.prune (Γ' := [(2, _)]) ⟨rfl, trivial⟩ (.d .z) ?_
        refine St.ret ?_
        repeat (first | refine St.thenR ?_ | refine St.blkR ?_)
        injection h1 with h1
        subst h1
        have ho := hd1 _ rfl
        subst ho
        have h : some _ = some _ := h
        injection h with h
        subst h
        exact St.finR Tryd.results92 (.tmp rfl .nil) rfl [] ⟨rfl, rfl⟩ (fun _ w => (.z : Keep _ _).sat w)
       ·replace h1 := bif_f hb6 h1
        refine St.skip ?_
        refine St.blkN ?_
        refine St.thenN ?_
        refine St.prune (Γ' := [(1, _), (3, _), (4, _)]) ⟨rfl, rfl, rfl, trivial⟩ (.k .z) ?_
        refine St.region ?_
        iterate 3 refine St.p rfl rfl ?_
        refine St.done ?_
        injection h1 with h1
        subst h1
        refine St.thenN ?_
        exact St.again _ () hm1 trivial ⟨rfl, rfl, rfl, trivial⟩ (fun _ w => ((.k .z) : Keep _ _).sat w)
      ·replace h1 := bif_f hb5 h1
       refine St.exit ?_
       repeat (first | refine St.thenX ?_ | refine St.blkMiss rfl ?_)
       refine St.blkHit ?_
       injection h1 with h1
       subst h1
       have ho := hd1 _ rfl
       subst ho
       refine St.thenN ?_
       exact St.hereI () () rfl trivial (fun _ w => ((.d .z) : Keep _ _).sat w)
     ·rintro o3 e3 ho
      subst ho
      have h : _ = some _ := h
      refine St.seq ?_
      refine St.region ?_
      refine St.p rfl rfl ?_
      refine St.done ?_
      refine St.thenN ?_
      refine St.ret ?_
      repeat (first | refine St.thenR ?_ | refine St.blkR ?_)
      injection h with h
      subst h
      exact St.finR Tryd.results92 (.tmp rfl .nil) rfl [] ⟨rfl, rfl⟩ (fun _ w => (.z : Keep _ _).sat w)
  ·replace h := bif_f hb2 h
   refine St.seq ?_
   refine St.region ?_
   refine St.p rfl rfl ?_
   refine St.p rfl rfl ?_
   refine St.done ?_
   refine St.thenN ?_
   refine St.prune (Γ' := [(1, _), (3, _), (10, _), (35, _)]) ⟨rfl, rfl, rfl, rfl, trivial⟩ (.k .z) ?_
   refine St.cond _ rfl (fun hb7 => ?_) (fun hb7 => ?_)
   ·replace h := bif_t hb7 h
    refine St.seq ?_
    refine St.seq ?_
    obtain ⟨o4, hj2, h⟩ := bnd_e h
    refine St.cutE (fun (e4 : Unit) => [(1, .pointer (some ⟨g1, 0, none⟩)), (3, .int .i64 (f_p0.Value.size : Int)), (48, .bool o4)]) (fun e4 => .res (Box g1 60 [.int .i64 f_p0.Kind, .string f_p0.Value]) :: R) ?_ ?_
    ·refine St.region ?_
     iterate 4 refine St.p rfl rfl ?_
     refine St.gSplit (dj := 40) _ rfl (fun hb8 => ?_) (fun hb8 => ?_)
     ·replace hj2 := bif_t hb8 hj2
      refine St.gOff (dj := 40) rfl rfl rfl rfl ?_
      refine St.gOff (dj := 40) rfl rfl rfl rfl ?_
      refine St.p rfl rfl ?_
      refine St.p rfl rfl ?_
      refine St.gOff (dj := 44) rfl rfl rfl rfl ?_
      refine St.gOff (dj := 44) rfl rfl rfl rfl ?_
      refine St.gOff (dj := 44) rfl rfl rfl rfl ?_
      refine St.p rfl rfl ?_
      refine St.done ?_
      injection hj2 with hj2
      subst hj2
      refine St.thenN ?_
      exact St.hereE () ⟨rfl, rfl, rfl, trivial⟩ (fun _ w => ((.k .z) : Keep _ _).sat w)
     ·replace hj2 := bif_f hb8 hj2
      refine St.gOn (dj := 40) rfl rfl ?_
      refine St.p rfl rfl ?_
      refine St.gOn (dj := 40) rfl rfl ?_
      iterate 3 refine St.p rfl rfl ?_
      refine St.gSplit (dj := 44) _ rfl (fun hb9 => ?_) (fun hb9 => ?_)
      ·replace hj2 := bif_t hb9 hj2
       refine St.gOff (dj := 44) rfl rfl rfl rfl ?_
       refine St.gOff (dj := 44) rfl rfl rfl rfl ?_
       refine St.gOff (dj := 44) rfl rfl rfl rfl ?_
       refine St.p rfl rfl ?_
       refine St.done ?_
       injection hj2 with hj2
       subst hj2
       refine St.thenN ?_
       exact St.hereE () ⟨rfl, rfl, rfl, trivial⟩ (fun _ w => ((.k .z) : Keep _ _).sat w)
      ·replace hj2 := bif_f hb9 hj2
       refine St.gOn (dj := 44) rfl rfl ?_
       refine St.p rfl rfl ?_
       refine St.gOn (dj := 44) rfl rfl ?_
       obtain ⟨r2, hr2, hj2⟩ := bnd_e hj2
       refine St.callV (c_ref02_sixBytes hr2) ent101 rfl rfl rfl rfl trivial ?_
       refine St.gOn (dj := 44) rfl rfl ?_
       refine St.p rfl rfl ?_
       refine St.p rfl rfl ?_
       refine St.done ?_
       injection hj2 with hj2
       subst hj2
       refine St.thenN ?_
       exact St.hereE () ⟨rfl, rfl, rfl, trivial⟩ (fun _ w => ((.k .z) : Keep _ _).sat w)
    ·rintro e4
     refine St.cond _ rfl (fun hb10 => ?_) (fun hb10 => ?_)
     ·replace h := bif_t hb10 h
      refine St.seq ?_
      refine St.region ?_
      refine St.p rfl rfl ?_
      refine St.done ?_
      refine St.thenN ?_
      refine St.prune (Γ' := [(2, _)]) ⟨rfl, trivial⟩ (.d .z) ?_
      refine St.ret ?_
      repeat (first | refine St.thenR ?_ | refine St.blkR ?_)
      injection h with h
      subst h
      exact St.finR Tryd.results92 (.tmp rfl .nil) rfl [] ⟨rfl, rfl⟩ (fun _ w => (.z : Keep _ _).sat w)
     ·replace h := bif_f hb10 h
      refine St.skip ?_
      refine St.thenN ?_
      refine St.prune (Γ' := [(1, _), (3, _)]) ⟨rfl, rfl, trivial⟩ (.k .z) ?_
      refine St.seq ?_
      refine St.seq ?_
      refine St.region ?_
      refine St.p rfl rfl ?_
      refine St.done ?_
      refine St.thenN ?_
      obtain ⟨o5, hl2, h⟩ := bnd_e h
      refine St.cutI (fun (o6 : Unit) (e6 : Unit) => []) (fun o6 e6 => R) (fun o6 => o5 = .inr o6) ?_ ?_
      ·refine St.block ?_
       refine St.loop hl2 (fun (s2 : Int) (e5 : Unit) => [(1, .pointer (some ⟨g1, 0, none⟩)), (3, .int .i64 (f_p0.Value.size : Int)), (5, .int .i64 s2)]) (fun s2 e5 => .res (Box g1 60 [.int .i64 f_p0.Kind, .string f_p0.Value]) :: R) (fun _ _ => True) () trivial ⟨rfl, rfl, rfl, trivial⟩ (fun _ w => ((.k .z) : Keep _ _).sat w) ?_
       rintro s2 e5 - hit2
       obtain ⟨st2, hm2, hd2⟩ := iter_e hit2
       have h2 := hm2
       refine St.seq ?_
       refine St.seq ?_
       refine St.region ?_
       iterate 3 refine St.p rfl rfl ?_
       refine St.done ?_
       refine St.thenN ?_
       refine St.prune (Γ' := [(1, _), (3, _), (5, _), (51, _)]) ⟨rfl, rfl, rfl, rfl, trivial⟩ (.k .z) ?_
       refine St.cond _ rfl (fun hb11 => ?_) (fun hb11 => ?_)
       ·replace h2 := bif_t hb11 h2
        refine St.skip ?_
        refine St.thenN ?_
        refine St.prune (Γ' := [(1, _), (3, _), (5, _)]) ⟨rfl, rfl, rfl, trivial⟩ (.k .z) ?_
        refine St.seq ?_
        refine St.block ?_
        refine St.seq ?_
        obtain ⟨o7, hj3, h2⟩ := bnd_e h2
        refine St.cutE (fun (e7 : Unit) => [(1, .pointer (some ⟨g1, 0, none⟩)), (3, .int .i64 (f_p0.Value.size : Int)), (5, .int .i64 s2), (65, .bool o7)]) (fun e7 => .res (Box g1 60 [.int .i64 f_p0.Kind, .string f_p0.Value]) :: R) ?_ ?_
        ·refine St.region ?_
         refine St.p rfl rfl ?_
         refine St.loadB 1 rfl rfl (.head _) rfl rfl ?_
         refine St.p rfl rfl ?_
         obtain ⟨y2, hy2, hj3⟩ := bnd_e hj3
         refine St.eltS rfl rfl rfl rfl rfl hy2 ?_
         refine St.p rfl rfl ?_
         refine St.p rfl rfl ?_
         refine St.gSplit (dj := 59) _ rfl (fun hb12 => ?_) (fun hb12 => ?_)
         ·replace hj3 := bif_t hb12 hj3
          refine St.gOff (dj := 59) rfl rfl rfl rfl ?_
          refine St.gOff (dj := 59) rfl rfl rfl rfl ?_
          refine St.gOff (dj := 59) rfl rfl rfl rfl ?_
          refine St.gOff (dj := 59) rfl rfl rfl rfl ?_
          refine St.gOff (dj := 59) rfl rfl rfl rfl ?_
          refine St.p rfl rfl ?_
          refine St.done ?_
          injection hj3 with hj3
          subst hj3
          refine St.thenN ?_
          exact St.hereE () ⟨rfl, rfl, rfl, rfl, trivial⟩ (fun _ w => ((.k .z) : Keep _ _).sat w)
         ·replace hj3 := bif_f hb12 hj3
          refine St.gOn (dj := 59) rfl rfl ?_
          refine St.p rfl rfl ?_
          refine St.gOn (dj := 59) rfl rfl ?_
          refine St.loadB 1 rfl rfl (.head _) rfl rfl ?_
          refine St.gOn (dj := 59) rfl rfl ?_
          refine St.p rfl rfl ?_
          refine St.gOn (dj := 59) rfl rfl ?_
          refine St.eltS rfl rfl rfl rfl rfl hy2 ?_
          refine St.gOn (dj := 59) rfl rfl ?_
          refine St.p rfl rfl ?_
          refine St.p rfl rfl ?_
          refine St.done ?_
          injection hj3 with hj3
          subst hj3
          refine St.thenN ?_
          exact St.hereE () ⟨rfl, rfl, rfl, rfl, trivial⟩ (fun _ w => ((.k .z) : Keep _ _).sat w)
        ·rintro e7
         refine St.cond _ rfl (fun hb13 => ?_) (fun hb13 => ?_)
         ·replace h2 := bif_t hb13 h2
          refine St.seq ?_
          refine St.region ?_
          refine St.p rfl rfl ?_
          refine St.done ?_
          refine St.thenN ?_
          refine St.prune (Γ' := [(2, _)]) ⟨rfl, trivial⟩ (.d .z) ?_
          refine St.ret ?_
          repeat (first | refine St.thenR ?_ | refine St.blkR ?_)
          injection h2 with h2
          subst h2
          have ho := hd2 _ rfl
          subst ho
          have h : some _ = some _ := h
          injection h with h
          subst h
          exact St.finR Tryd.results92 (.tmp rfl .nil) rfl [] ⟨rfl, rfl⟩ (fun _ w => (.z : Keep _ _).sat w)
         ·replace h2 := bif_f hb13 h2
          refine St.skip ?_
          refine St.blkN ?_
          refine St.thenN ?_
          refine St.prune (Γ' := [(1, _), (3, _), (5, _)]) ⟨rfl, rfl, rfl, trivial⟩ (.k .z) ?_
          refine St.region ?_
          iterate 3 refine St.p rfl rfl ?_
          refine St.done ?_
          injection h2 with h2
          subst h2
          refine St.thenN ?_
          exact St.again _ () hm2 trivial ⟨rfl, rfl, rfl, trivial⟩ (fun _ w => ((.k .z) : Keep _ _).sat w)
       ·replace h2 := bif_f hb11 h2
        refine St.exit ?_
        repeat (first | refine St.thenX ?_ | refine St.blkMiss rfl ?_)
        refine St.blkHit ?_
        injection h2 with h2
        subst h2
        have ho := hd2 _ rfl
        subst ho
        refine St.thenN ?_
        exact St.hereI () () rfl trivial (fun _ w => ((.d .z) : Keep _ _).sat w)
      ·rintro o6 e6 ho
       subst ho
       have h : _ = some _ := h
       refine St.seq ?_
       refine St.region ?_
       refine St.p rfl rfl ?_
       refine St.done ?_
       refine St.thenN ?_
       refine St.ret ?_
       repeat (first | refine St.thenR ?_ | refine St.blkR ?_)
       injection h with h
       subst h
       exact St.finR Tryd.results92 (.tmp rfl .nil) rfl [] ⟨rfl, rfl⟩ (fun _ w => (.z : Keep _ _).sat w)
   ·replace h := bif_f hb7 h
    refine St.seq ?_
    refine St.region ?_
    refine St.p rfl rfl ?_
    refine St.p rfl rfl ?_
    refine St.done ?_
    refine St.thenN ?_
    refine St.prune (Γ' := [(3, _), (66, _)]) ⟨rfl, rfl, trivial⟩ (.d .z) ?_
    refine St.cond _ rfl (fun hb14 => ?_) (fun hb14 => ?_)
    ·replace h := bif_t hb14 h
     refine St.seq ?_
     obtain ⟨o8, hj4, h⟩ := bnd_e h
     refine St.cutE (fun (e8 : Unit) => [(2, .bool o8)]) (fun e8 => R) ?_ ?_
     ·refine St.region ?_
      iterate 3 refine St.p rfl rfl ?_
      refine St.gSplit (dj := 70) _ rfl (fun hb15 => ?_) (fun hb15 => ?_)
      ·replace hj4 := bif_t hb15 hj4
       refine St.gOff (dj := 70) rfl rfl rfl rfl ?_
       refine St.gOff (dj := 70) rfl rfl rfl rfl ?_
       refine St.gOff (dj := 70) rfl rfl rfl rfl ?_
       refine St.gOff (dj := 73) rfl rfl rfl rfl ?_
       refine St.gOff (dj := 73) rfl rfl rfl rfl ?_
       refine St.gOff (dj := 70) rfl rfl rfl rfl ?_
       refine St.p rfl rfl ?_
       refine St.p rfl rfl ?_
       refine St.done ?_
       injection hj4 with hj4
       subst hj4
       refine St.thenN ?_
       exact St.hereE () ⟨rfl, trivial⟩ (fun _ w => (.z : Keep _ _).sat w)
      ·replace hj4 := bif_f hb15 hj4
       refine St.gOn (dj := 70) rfl rfl ?_
       refine St.p rfl rfl ?_
       refine St.gOn (dj := 70) rfl rfl ?_
       refine St.p rfl rfl ?_
       refine St.gOn (dj := 70) rfl rfl ?_
       refine St.p rfl rfl ?_
       refine St.gSplit (dj := 73) _ rfl (fun hb16 => ?_) (fun hb16 => ?_)
       ·replace hj4 := bif_t hb16 hj4
        refine St.gOn (dj := 73) rfl rfl ?_
        refine St.p rfl rfl ?_
        refine St.gOn (dj := 73) rfl rfl ?_
        refine St.p rfl rfl ?_
        refine St.gOn (dj := 70) rfl rfl ?_
        iterate 3 refine St.p rfl rfl ?_
        refine St.done ?_
        injection hj4 with hj4
        subst hj4
        refine St.thenN ?_
        exact St.hereE () ⟨rfl, trivial⟩ (fun _ w => (.z : Keep _ _).sat w)
       ·replace hj4 := bif_f hb16 hj4
        refine St.gOff (dj := 73) rfl rfl rfl rfl ?_
        refine St.gOff (dj := 73) rfl rfl rfl rfl ?_
        refine St.gOn (dj := 70) rfl rfl ?_
        iterate 3 refine St.p rfl rfl ?_
        refine St.done ?_
        injection hj4 with hj4
        subst hj4
        refine St.thenN ?_
        exact St.hereE () ⟨rfl, trivial⟩ (fun _ w => (.z : Keep _ _).sat w)
     ·rintro e8
      refine St.ret ?_
      repeat (first | refine St.thenR ?_ | refine St.blkR ?_)
      injection h with h
      subst h
      exact St.finR Tryd.results92 (.tmp rfl .nil) rfl [] ⟨rfl, rfl⟩ (fun _ w => (.z : Keep _ _).sat w)
    ·replace h := bif_f hb14 h
     refine St.skip ?_
     refine St.blkN ?_
     refine St.thenN ?_
     refine St.prune (Γ' := []) trivial .z ?_
     refine St.seq ?_
     refine St.region ?_
     refine St.p rfl rfl ?_
     refine St.done ?_
     refine St.thenN ?_
     refine St.ret ?_
     repeat (first | refine St.thenR ?_ | refine St.blkR ?_)
     injection h with h
     subst h
     exact St.finR Tryd.results92 (.tmp rfl .nil) rfl [] ⟨rfl, rfl⟩ (fun _ w => (.z : Keep _ _).sat w)

theorem ent93 : Ent Tryd.prog 93 := ⟨_, Tryd.func93, by kernel_rfl, by kernel_rfl⟩

noncomputable def m_ref02_data (f_p0 : T_Field) : Option (List Int) :=
 bif (f_p0.Kind == 1) then (bnd (loopM (τ := List Int) (fun (s1 : List Int × Int) => bif decide ((IntKind.wrap .i64 (s1.2 + 1)) < (f_p0.Value.size : Int)) then (bnd (eltS f_p0.Value s1.2) fun y1 => bnd (m_ref02_digit y1) fun r1 => bnd (eltS f_p0.Value (IntKind.wrap .i64 (s1.2 + 1))) fun y2 => bnd (m_ref02_digit y2) fun r2 => bnd (app 1 s1.1 [IntKind.wrap .u8 (IntKind.wrap .i64 ((IntKind.wrap .i64 (16 * r1)) + r2))]) fun l1 => some (.next (l1, IntKind.wrap .i64 (s1.2 + 2)))) else (some (.done s1.1))) ([], 0)) fun o1 => some o1) else (bif (f_p0.Kind == 2) then (bnd (m_ref02_sixBytes (f_p0.Value.size : Int)) fun r3 => bnd (mkS 1 0 r3 r3) fun l2 => bnd (loopM (τ := List Int) (fun (s2 : Int × List Int) => bif decide (s2.1 < (f_p0.Value.size : Int)) then (bnd (eltS f_p0.Value s2.1) fun y3 => bnd (loopM (τ := List Int) (fun (s3 : Int × Int × List Int) => bif decide (s3.2.1 < 6) then (bif ((s3.1.tmod 2) == 1) then (bnd (elt s3.2.2 (IntKind.wrap .i64 ((IntKind.wrap .i64 ((IntKind.wrap .i64 (6 * s2.1)) + s3.2.1)).tdiv 8))) fun x1 => bnd (shlM .u8 1 (IntKind.wrap .u64 ((IntKind.wrap .i64 ((IntKind.wrap .i64 (6 * s2.1)) + s3.2.1)).tmod 8))) fun q1 => bnd (setE s3.2.2 (IntKind.wrap .i64 ((IntKind.wrap .i64 ((IntKind.wrap .i64 (6 * s2.1)) + s3.2.1)).tdiv 8)) (IntKind.wrap .u8 (x1 + q1))) fun l3 => some (.next (IntKind.wrap .i64 (s3.1.tdiv 2), IntKind.wrap .i64 (s3.2.1 + 1), l3))) else (some (.next (IntKind.wrap .i64 (s3.1.tdiv 2), IntKind.wrap .i64 (s3.2.1 + 1), s3.2.2)))) else (some (.done s3.2.2))) (IntKind.wrap .i64 ((IntKind.wrap .i64 y3) - 32), 0, s2.2)) fun o3 => some (.next (IntKind.wrap .i64 (s2.1 + 1), o3))) else (some (.done s2.2))) (0, l2)) fun o2 => some o2) else (bnd (loopM (τ := List Int) (fun (s4 : List Int × Int) => bif decide (s4.2 < (f_p0.Value.size : Int)) then (bnd (eltS f_p0.Value s4.2) fun y4 => bnd (app 1 s4.1 [y4]) fun l4 => some (.next (l4, IntKind.wrap .i64 (s4.2 + 1)))) else (some (.done s4.1))) ([], 0)) fun o4 => some o4))

set_option maxHeartbeats 4000000 in
theorem c_ref02_data {f_p0 : T_Field} {r : (List Int)} (h : m_ref02_data f_p0 = some r) :
  Fun Tryd.prog 93 [.agg #[.int .i64 f_p0.Kind, .string f_p0.Value]] [] (fun v_ F_ => ∃ (A1 : Option Addr) (c1 : Nat), v_ = .slice A1 r.length c1 ∧ F_ = [.res (OwnL eu8 5 A1 c1 r)]) := by
 unfold m_ref02_data at h
 refine Fun.intro Tryd.func93 rfl rfl rfl fun w R => ?_
 refine St.seq ?_
 refine St.region ?_
 refine St.box rfl rfl fun g1 => ?_
 refine St.p rfl rfl ?_
 refine St.done ?_
 refine St.thenN ?_
 refine St.prune (Γ' := [(1, _)]) ⟨rfl, trivial⟩ (.k .z) ?_
 refine St.seq ?_
 refine St.region ?_
 refine St.p rfl rfl ?_
 refine St.loadB 1 rfl rfl (.head _) rfl rfl ?_
 refine St.p rfl rfl ?_
 refine St.p rfl rfl ?_
 refine St.done ?_
 refine St.thenN ?_
 refine St.prune (Γ' := [(1, _), (3, _)]) ⟨rfl, rfl, trivial⟩ (.k .z) ?_
 refine St.seq ?_
 refine St.region ?_
 refine St.p rfl rfl ?_
 refine St.done ?_
 refine St.thenN ?_
 refine St.seq ?_
 refine St.seq ?_
 refine St.region ?_
 refine St.p rfl rfl ?_
 refine St.loadB 0 rfl rfl (.head _) rfl rfl ?_
 refine St.done ?_
 refine St.thenN ?_
 refine St.prune (Γ' := [(1, _), (3, _), (4, _), (15, _)]) ⟨rfl, rfl, rfl, rfl, trivial⟩ (.k .z) ?_
 refine St.block ?_
 refine St.seq ?_
 refine St.region ?_
 refine St.p rfl rfl ?_
 refine St.p rfl rfl ?_
 refine St.done ?_
 refine St.thenN ?_
 refine St.prune (Γ' := [(1, _), (3, _), (4, _), (15, _), (28, _)]) ⟨rfl, rfl, rfl, rfl, rfl, trivial⟩ (.k .z) ?_
 refine St.cond _ rfl (fun hb1 => ?_) (fun hb1 => ?_)
 ·replace h := bif_t hb1 h
  refine St.seq ?_
  refine St.region ?_
  refine St.p rfl rfl ?_
  refine St.done ?_
  refine St.thenN ?_
  refine St.prune (Γ' := [(1, _), (3, _), (4, _), (5, _)]) ⟨rfl, rfl, rfl, rfl, trivial⟩ (.k .z) ?_
  refine St.asrt (fun _ w => w.nilL eu8 5) ?_
  obtain ⟨o1, hl1, h⟩ := bnd_e h
  refine St.selfThen ?_
  refine St.cutE (fun (e2 : Option Addr × Nat) => [(4, .slice e2.1 o1.length e2.2)]) (fun e2 => .res (OwnL eu8 5 e2.1 e2.2 o1) :: R) ?_ ?_
  ·refine St.block ?_
   refine St.loop hl1 (fun (s1 : List Int × Int) (e1 : Option Addr × Nat) => [(1, .pointer (some ⟨g1, 0, none⟩)), (3, .int .i64 (f_p0.Value.size : Int)), (4, .slice e1.1 s1.1.length e1.2), (5, .int .i64 s1.2)]) (fun s1 e1 => .res (OwnL eu8 5 e1.1 e1.2 s1.1) :: .res (Box g1 60 [.int .i64 f_p0.Kind, .string f_p0.Value]) :: R) (fun _ _ => True) (none, 0) trivial ⟨rfl, rfl, rfl, rfl, trivial⟩ (fun _ w => ((.k (.k .z)) : Keep _ _).sat w) ?_
   rintro s1 ⟨A1, c1⟩ - hit1
   obtain ⟨st1, hm1, hd1⟩ := iter_e hit1
   have h1 := hm1
   refine St.seq ?_
   refine St.seq ?_
   refine St.region ?_
   iterate 4 refine St.p rfl rfl ?_
   refine St.done ?_
   refine St.thenN ?_
   refine St.prune (Γ' := [(1, _), (3, _), (4, _), (5, _), (33, _)]) ⟨rfl, rfl, rfl, rfl, rfl, trivial⟩ (.k (.k .z)) ?_
   refine St.cond _ rfl (fun hb2 => ?_) (fun hb2 => ?_)
   ·replace h1 := bif_t hb2 h1
    refine St.skip ?_
    refine St.thenN ?_
    refine St.prune (Γ' := [(1, _), (3, _), (4, _), (5, _)]) ⟨rfl, rfl, rfl, rfl, trivial⟩ (.k (.k .z)) ?_
    refine St.seq ?_
    refine St.block ?_
    refine St.regionX (iL [(.fl, 0), (.fl, 1), (.fx, 2), (.fl, 3), (.fx, 4), (.qc, 5), (.fl, 6), (.fl, 7), (.fx, 8), (.fl, 9), (.fl, 10), (.fx, 11), (.qc, 12), (.fl, 13), (.fl, 14), (.ef, 15), (.ef, 16), (.fl, 17)] .nil) (.res (Box g1 60 [.int .i64 f_p0.Kind, .string f_p0.Value]) :: R) mixed (by kernel_rfl) (fun _ w => ((.d (.k .z)) : Keep _ _).sat w) ?_
    refine St.xfl (fun _ h => h) (Rd.p rfl) rfl ?_
    refine St.xfl (fun _ h => h) (Rd.p rfl) rfl ?_
    refine St.xfx (Rd.loadB 1 rfl (.tail _ (.head _)) rfl rfl) rfl ?_
    refine St.xfl (fun _ h => h) (Rd.p rfl) rfl ?_
    obtain ⟨y1, hy1, h1⟩ := bnd_e h1
    refine St.xfx (Rd.eltS hy1 rfl rfl rfl rfl) rfl ?_
    obtain ⟨r1, hr1, h1⟩ := bnd_e h1
    refine St.xqc (fun _ h => h) (c_ref02_digit hr1) ent100 rfl rfl rfl rfl trivial ?_
    refine St.xfl (fun _ h => h) (Rd.p rfl) rfl ?_
    refine St.xfl (fun _ h => h) (Rd.p rfl) rfl ?_
    refine St.xfx (Rd.loadB 1 rfl (.tail _ (.head _)) rfl rfl) rfl ?_
    refine St.xfl (fun _ h => h) (Rd.p rfl) rfl ?_
    refine St.xfl (fun _ h => h) (Rd.p rfl) rfl ?_
    obtain ⟨y2, hy2, h1⟩ := bnd_e h1
    refine St.xfx (Rd.eltS hy2 rfl rfl rfl rfl) rfl ?_
    obtain ⟨r2, hr2, h1⟩ := bnd_e h1
    refine St.xqc (fun _ h => h) (c_ref02_digit hr2) ent100 rfl rfl rfl rfl trivial ?_
    refine St.xfl (fun _ h => h) (Rd.p rfl) rfl ?_
    refine St.xfl (fun _ h => h) (Rd.p rfl) rfl ?_
    refine St.xef ?_
    refine St.buildSlice rfl rfl rfl rfl rfl rfl rfl rfl fun g2 => ?_
    refine St.xk (fun _ w => ((.d (.d (.k .z))) : Keep _ _).sat w) ?_
    refine St.xef ?_
    obtain ⟨l1, hl1, h1⟩ := bnd_e h1
    refine St.app (E := eu8) hl1 rfl rfl rfl (.s .z) rfl rfl rfl rfl rfl rfl rfl rfl (srcB (.head _) rfl rfl) rfl rfl fun A3 c3 => ?_
    refine St.xk (fun _ w => ((.d (.d (.k .z))) : Keep _ _).sat w) ?_
    refine St.xfl (fun _ h => h) (Rd.p rfl) rfl ?_
    refine St.xdone ?_
    refine St.blkN ?_
    refine St.thenN ?_
    refine St.prune (Γ' := [(1, _), (3, _), (4, _), (5, _)]) ⟨rfl, rfl, rfl, rfl, trivial⟩ (.k (.d (.k .z))) ?_
    refine St.region ?_
    iterate 3 refine St.p rfl rfl ?_
    refine St.done ?_
    injection h1 with h1
    subst h1
    refine St.thenN ?_
    exact St.again _ (A3, c3) hm1 trivial ⟨rfl, rfl, rfl, rfl, trivial⟩ (fun _ w => ((.k (.k .z)) : Keep _ _).sat w)
   ·replace h1 := bif_f hb2 h1
    refine St.exit ?_
    repeat (first | refine St.thenX ?_ | refine St.blkMiss rfl ?_)
    refine St.blkHit ?_
    injection h1 with h1
    subst h1
    have ho := hd1 _ rfl
    subst ho
    refine St.thenN ?_
    exact St.hereE (A1, c1) ⟨rfl, trivial⟩ (fun _ w => ((.k (.d .z)) : Keep _ _).sat w)
  ·rintro ⟨A2, c2⟩
   refine St.blkN ?_
   refine St.thenN ?_
   refine St.seq ?_
   refine St.region ?_
   refine St.p rfl rfl ?_
   refine St.p rfl rfl ?_
   refine St.done ?_
   refine St.thenN ?_
   refine St.prune (Γ' := [(2, _)]) ⟨rfl, trivial⟩ (.k .z) ?_
   refine St.ret ?_
   repeat (first | refine St.thenR ?_ | refine St.blkR ?_)
   injection h with h
   subst h
   exact St.finR Tryd.results93 (.tmp rfl .nil) rfl [.res (OwnL eu8 5 A2 c2 o1)] ⟨A2, c2, rfl, rfl⟩ (fun _ w => ((.k .z) : Keep _ _).sat w)
 ·replace h := bif_f hb1 h
  refine St.seq ?_
  refine St.region ?_
  refine St.p rfl rfl ?_
  refine St.p rfl rfl ?_
  refine St.done ?_
  refine St.thenN ?_
  refine St.prune (Γ' := [(1, _), (3, _), (4, _), (53, _)]) ⟨rfl, rfl, rfl, rfl, trivial⟩ (.k .z) ?_
  refine St.cond _ rfl (fun hb3 => ?_) (fun hb3 => ?_)
  ·replace h := bif_t hb3 h
   refine St.seq ?_
   refine St.region ?_
   refine St.p rfl rfl ?_
   obtain ⟨r3, hr3, h⟩ := bnd_e h
   refine St.callV (c_ref02_sixBytes hr3) ent101 rfl rfl rfl rfl trivial ?_
   obtain ⟨l2, hl2, h⟩ := bnd_e h
   refine St.mkL (E := eu8) 0 hl2 rfl rfl rfl rfl rfl rfl rfl rfl rfl rfl fun g3 => ?_
   refine St.p rfl rfl ?_
   refine St.done ?_
   refine St.thenN ?_
   refine St.prune (Γ' := [(1, _), (3, _), (4, _)]) ⟨rfl, rfl, rfl, trivial⟩ (.k (.k .z)) ?_
   refine St.seq ?_
   refine St.region ?_
   refine St.p rfl rfl ?_
   refine St.done ?_
   refine St.thenN ?_
   obtain ⟨o2, hl2, h⟩ := bnd_e h
   refine St.selfThen ?_
   refine St.cutE (fun (e4 : Option Addr × Nat) => [(4, .slice e4.1 o2.length e4.2)]) (fun e4 => .res (OwnL eu8 5 e4.1 e4.2 o2) :: R) ?_ ?_
   ·refine St.block ?_
    refine St.loop hl2 (fun (s2 : Int × List Int) (e3 : Option Addr × Nat) => [(1, .pointer (some ⟨g1, 0, none⟩)), (3, .int .i64 (f_p0.Value.size : Int)), (4, .slice e3.1 s2.2.length e3.2), (6, .int .i64 s2.1)]) (fun s2 e3 => .res (OwnL eu8 5 e3.1 e3.2 s2.2) :: .res (Box g1 60 [.int .i64 f_p0.Kind, .string f_p0.Value]) :: R) (fun _ _ => True) ((some ⟨g3, 0, none⟩), (Int.toNat r3)) trivial ⟨rfl, rfl, rfl, rfl, trivial⟩ (fun _ w => ((.k (.k .z)) : Keep _ _).sat w) ?_
    rintro s2 ⟨A4, c4⟩ - hit2
    obtain ⟨st2, hm2, hd2⟩ := iter_e hit2
    have h2 := hm2
    refine St.seq ?_
    refine St.seq ?_
    refine St.region ?_
    iterate 3 refine St.p rfl rfl ?_
    refine St.done ?_
    refine St.thenN ?_
    refine St.prune (Γ' := [(1, _), (3, _), (4, _), (6, _), (60, _)]) ⟨rfl, rfl, rfl, rfl, rfl, trivial⟩ (.k (.k .z)) ?_
    refine St.cond _ rfl (fun hb4 => ?_) (fun hb4 => ?_)
    ·replace h2 := bif_t hb4 h2
     refine St.skip ?_
     refine St.thenN ?_
     refine St.prune (Γ' := [(1, _), (3, _), (4, _), (6, _)]) ⟨rfl, rfl, rfl, rfl, trivial⟩ (.k (.k .z)) ?_
     refine St.seq ?_
     refine St.block ?_
     refine St.seq ?_
     refine St.region ?_
     refine St.p rfl rfl ?_
     refine St.loadB 1 rfl rfl (.tail _ (.head _)) rfl rfl ?_
     refine St.p rfl rfl ?_
     obtain ⟨y3, hy3, h2⟩ := bnd_e h2
     refine St.eltS rfl rfl rfl rfl rfl hy3 ?_
     iterate 3 refine St.p rfl rfl ?_
     refine St.done ?_
     refine St.thenN ?_
     refine St.prune (Γ' := [(1, _), (3, _), (4, _), (6, _), (7, _)]) ⟨rfl, rfl, rfl, rfl, rfl, trivial⟩ (.k (.k .z)) ?_
     refine St.seq ?_
     refine St.region ?_
     refine St.p rfl rfl ?_
     refine St.done ?_
     refine St.thenN ?_
     obtain ⟨o3, hl3, h2⟩ := bnd_e h2
     refine St.selfThen ?_
     refine St.cutE (fun (e6 : Option Addr × Nat) => [(1, .pointer (some ⟨g1, 0, none⟩)), (3, .int .i64 (f_p0.Value.size : Int)), (4, .slice e6.1 o3.length e6.2), (6, .int .i64 s2.1)]) (fun e6 => .res (OwnL eu8 5 e6.1 e6.2 o3) :: .res (Box g1 60 [.int .i64 f_p0.Kind, .string f_p0.Value]) :: R) ?_ ?_
     ·refine St.block ?_
      refine St.loop hl3 (fun (s3 : Int × Int × List Int) (e5 : Option Addr × Nat) => [(1, .pointer (some ⟨g1, 0, none⟩)), (3, .int .i64 (f_p0.Value.size : Int)), (4, .slice e5.1 s3.2.2.length e5.2), (6, .int .i64 s2.1), (7, .int .i64 s3.1), (8, .int .i64 s3.2.1)]) (fun s3 e5 => .res (OwnL eu8 5 e5.1 e5.2 s3.2.2) :: .res (Box g1 60 [.int .i64 f_p0.Kind, .string f_p0.Value]) :: R) (fun _ _ => True) (A4, c4) trivial ⟨rfl, rfl, rfl, rfl, rfl, rfl, trivial⟩ (fun _ w => ((.k (.k .z)) : Keep _ _).sat w) ?_
      rintro s3 ⟨A6, c6⟩ - hit3
      obtain ⟨st3, hm3, hd3⟩ := iter_e hit3
      have h3 := hm3
      refine St.seq ?_
      refine St.seq ?_
      refine St.region ?_
      refine St.p rfl rfl ?_
      refine St.p rfl rfl ?_
      refine St.done ?_
      refine St.thenN ?_
      refine St.prune (Γ' := [(1, _), (3, _), (4, _), (6, _), (7, _), (8, _), (70, _)]) ⟨rfl, rfl, rfl, rfl, rfl, rfl, rfl, trivial⟩ (.k (.k .z)) ?_
      refine St.cond _ rfl (fun hb5 => ?_) (fun hb5 => ?_)
      ·replace h3 := bif_t hb5 h3
       refine St.skip ?_
       refine St.thenN ?_
       refine St.prune (Γ' := [(1, _), (3, _), (4, _), (6, _), (7, _), (8, _)]) ⟨rfl, rfl, rfl, rfl, rfl, rfl, trivial⟩ (.k (.k .z)) ?_
       refine St.seq ?_
       refine St.block ?_
       refine St.seq ?_
       refine St.seq ?_
       refine St.region ?_
       iterate 3 refine St.p rfl rfl ?_
       refine St.done ?_
       refine St.thenN ?_
       refine St.prune (Γ' := [(1, _), (3, _), (4, _), (6, _), (7, _), (8, _), (75, _)]) ⟨rfl, rfl, rfl, rfl, rfl, rfl, rfl, trivial⟩ (.k (.k .z)) ?_
       refine St.cond _ rfl (fun hb6 => ?_) (fun hb6 => ?_)
       ·replace h3 := bif_t hb6 h3
        refine St.seq ?_
        refine St.region ?_
        iterate 5 refine St.p rfl rfl ?_
        refine St.done ?_
        refine St.thenN ?_
        refine St.prune (Γ' := [(1, _), (3, _), (4, _), (6, _), (7, _), (8, _), (9, _)]) ⟨rfl, rfl, rfl, rfl, rfl, rfl, rfl, trivial⟩ (.k (.k .z)) ?_
        refine St.region ?_
        iterate 3 refine St.p rfl rfl ?_
        obtain ⟨x1, hx1, h3⟩ := bnd_e h3
        refine St.ixO hx1 rfl rfl rfl (.head _) rfl rfl rfl rfl rfl fun g4 hA => ?_
        subst hA
        refine St.ldO 0 hx1 rfl rfl (.head _) rfl rfl ?_
        iterate 3 refine St.p rfl rfl ?_
        obtain ⟨q1, hq1, h3⟩ := bnd_e h3
        refine St.shl rfl rfl rfl hq1 ?_
        refine St.p rfl rfl ?_
        refine St.ixO hx1 rfl rfl rfl (.head _) rfl rfl rfl rfl rfl fun g5 hA => ?_
        cases hA
        obtain ⟨l3, hl3, h3⟩ := bnd_e h3
        refine St.stO 0 hx1 hl3 rfl rfl .z rfl rfl rfl rfl rfl ?_
        refine St.slots (Γ' := [(1, _), (3, _), (4, .slice (some ⟨g4, 0, none⟩) l3.length c6), (6, _), (7, _), (8, _), (9, _), (80, .slice (some ⟨g4, 0, none⟩) l3.length c6), (81, _), (82, _), (83, _), (84, _), (85, _), (86, _), (87, _), (88, _), (89, _), (90, _)]) ⟨rfl, rfl, sl_len hl3, rfl, rfl, rfl, rfl, sl_len hl3, rfl, rfl, rfl, rfl, rfl, rfl, rfl, rfl, rfl, rfl, trivial⟩ ?_
        refine St.done ?_
        refine St.thenN ?_
        refine St.prune (Γ' := [(1, _), (3, _), (4, _), (6, _), (7, _), (8, _)]) ⟨rfl, rfl, rfl, rfl, rfl, rfl, trivial⟩ (.k (.k .z)) ?_
        refine St.region ?_
        iterate 3 refine St.p rfl rfl ?_
        refine St.done ?_
        refine St.blkN ?_
        refine St.thenN ?_
        refine St.prune (Γ' := [(1, _), (3, _), (4, _), (6, _), (7, _), (8, _)]) ⟨rfl, rfl, rfl, rfl, rfl, rfl, trivial⟩ (.k (.k .z)) ?_
        refine St.region ?_
        iterate 3 refine St.p rfl rfl ?_
        refine St.done ?_
        injection h3 with h3
        subst h3
        refine St.thenN ?_
        exact St.again _ ((some ⟨g4, 0, none⟩), c6) hm3 trivial ⟨rfl, rfl, rfl, rfl, rfl, rfl, trivial⟩ (fun _ w => ((.k (.k .z)) : Keep _ _).sat w)
       ·replace h3 := bif_f hb6 h3
        refine St.skip ?_
        refine St.thenN ?_
        refine St.prune (Γ' := [(1, _), (3, _), (4, _), (6, _), (7, _), (8, _)]) ⟨rfl, rfl, rfl, rfl, rfl, rfl, trivial⟩ (.k (.k .z)) ?_
        refine St.region ?_
        iterate 3 refine St.p rfl rfl ?_
        refine St.done ?_
        refine St.blkN ?_
        refine St.thenN ?_
        refine St.prune (Γ' := [(1, _), (3, _), (4, _), (6, _), (7, _), (8, _)]) ⟨rfl, rfl, rfl, rfl, rfl, rfl, trivial⟩ (.k (.k .z)) ?_
        refine St.region ?_
        iterate 3 refine St.p rfl rfl ?_
        refine St.done ?_
        injection h3 with h3
        subst h3
        refine St.thenN ?_
        exact St.again _ (A6, c6) hm3 trivial ⟨rfl, rfl, rfl, rfl, rfl, rfl, trivial⟩ (fun _ w => ((.k (.k .z)) : Keep _ _).sat w)
      ·replace h3 := bif_f hb5 h3
       refine St.exit ?_
       repeat (first | refine St.thenX ?_ | refine St.blkMiss rfl ?_)
       refine St.blkHit ?_
       injection h3 with h3
       subst h3
       have ho := hd3 _ rfl
       subst ho
       refine St.thenN ?_
       exact St.hereE (A6, c6) ⟨rfl, rfl, rfl, rfl, trivial⟩ (fun _ w => ((.k (.k .z)) : Keep _ _).sat w)
     ·rintro ⟨A7, c7⟩
      refine St.blkN ?_
      refine St.thenN ?_
      refine St.region ?_
      iterate 3 refine St.p rfl rfl ?_
      refine St.done ?_
      injection h2 with h2
      subst h2
      refine St.thenN ?_
      exact St.again _ (A7, c7) hm2 trivial ⟨rfl, rfl, rfl, rfl, trivial⟩ (fun _ w => ((.k (.k .z)) : Keep _ _).sat w)
    ·replace h2 := bif_f hb4 h2
     refine St.exit ?_
     repeat (first | refine St.thenX ?_ | refine St.blkMiss rfl ?_)
     refine St.blkHit ?_
     injection h2 with h2
     subst h2
     have ho := hd2 _ rfl
     subst ho
     refine St.thenN ?_
     exact St.hereE (A4, c4) ⟨rfl, trivial⟩ (fun _ w => ((.k (.d .z)) : Keep _ _).sat w)
   ·rintro ⟨A5, c5⟩
    refine St.blkN ?_
    refine St.thenN ?_
    refine St.seq ?_
    refine St.region ?_
    refine St.p rfl rfl ?_
    refine St.p rfl rfl ?_
    refine St.done ?_
    refine St.thenN ?_
    refine St.prune (Γ' := [(2, _)]) ⟨rfl, trivial⟩ (.k .z) ?_
    refine St.ret ?_
    repeat (first | refine St.thenR ?_ | refine St.blkR ?_)
    injection h with h
    subst h
    exact St.finR Tryd.results93 (.tmp rfl .nil) rfl [.res (OwnL eu8 5 A5 c5 o2)] ⟨A5, c5, rfl, rfl⟩ (fun _ w => ((.k .z) : Keep _ _).sat w)
  ·replace h := bif_f hb3 h
   refine St.seq ?_
   refine St.region ?_
   refine St.p rfl rfl ?_
   refine St.done ?_
   refine St.thenN ?_
   refine St.prune (Γ' := [(1, _), (3, _), (4, _), (10, _)]) ⟨rfl, rfl, rfl, rfl, trivial⟩ (.k .z) ?_
   refine St.asrt (fun _ w => w.nilL eu8 5) ?_
   obtain ⟨o4, hl4, h⟩ := bnd_e h
   refine St.selfThen ?_
   refine St.cutE (fun (e8 : Option Addr × Nat) => [(4, .slice e8.1 o4.length e8.2)]) (fun e8 => .res (OwnL eu8 5 e8.1 e8.2 o4) :: R) ?_ ?_
   ·refine St.block ?_
    refine St.loop hl4 (fun (s4 : List Int × Int) (e7 : Option Addr × Nat) => [(1, .pointer (some ⟨g1, 0, none⟩)), (3, .int .i64 (f_p0.Value.size : Int)), (4, .slice e7.1 s4.1.length e7.2), (10, .int .i64 s4.2)]) (fun s4 e7 => .res (OwnL eu8 5 e7.1 e7.2 s4.1) :: .res (Box g1 60 [.int .i64 f_p0.Kind, .string f_p0.Value]) :: R) (fun _ _ => True) (none, 0) trivial ⟨rfl, rfl, rfl, rfl, trivial⟩ (fun _ w => ((.k (.k .z)) : Keep _ _).sat w) ?_
    rintro s4 ⟨A8, c8⟩ - hit4
    obtain ⟨st4, hm4, hd4⟩ := iter_e hit4
    have h4 := hm4
    refine St.seq ?_
    refine St.seq ?_
    refine St.region ?_
    iterate 3 refine St.p rfl rfl ?_
    refine St.done ?_
    refine St.thenN ?_
    refine St.prune (Γ' := [(1, _), (3, _), (4, _), (10, _), (18, _)]) ⟨rfl, rfl, rfl, rfl, rfl, trivial⟩ (.k (.k .z)) ?_
    refine St.cond _ rfl (fun hb7 => ?_) (fun hb7 => ?_)
    ·replace h4 := bif_t hb7 h4
     refine St.skip ?_
     refine St.thenN ?_
     refine St.prune (Γ' := [(1, _), (3, _), (4, _), (10, _)]) ⟨rfl, rfl, rfl, rfl, trivial⟩ (.k (.k .z)) ?_
     refine St.seq ?_
     refine St.block ?_
     refine St.region ?_
     refine St.p rfl rfl ?_
     refine St.p rfl rfl ?_
     refine St.loadB 1 rfl rfl (.tail _ (.head _)) rfl rfl ?_
     refine St.p rfl rfl ?_
     obtain ⟨y4, hy4, h4⟩ := bnd_e h4
     refine St.eltS rfl rfl rfl rfl rfl hy4 ?_
     refine St.buildSlice rfl rfl rfl rfl rfl rfl rfl rfl fun g6 => ?_
     obtain ⟨l4, hl4, h4⟩ := bnd_e h4
     refine St.app (E := eu8) hl4 rfl rfl rfl (.s .z) rfl rfl rfl rfl rfl rfl rfl rfl (srcB (.head _) rfl rfl) rfl rfl fun A10 c10 => ?_
     refine St.p rfl rfl ?_
     refine St.done ?_
     refine St.blkN ?_
     refine St.thenN ?_
     refine St.prune (Γ' := [(1, _), (3, _), (4, _), (10, _)]) ⟨rfl, rfl, rfl, rfl, trivial⟩ (.k (.d (.k .z))) ?_
     refine St.region ?_
     iterate 3 refine St.p rfl rfl ?_
     refine St.done ?_
     injection h4 with h4
     subst h4
     refine St.thenN ?_
     exact St.again _ (A10, c10) hm4 trivial ⟨rfl, rfl, rfl, rfl, trivial⟩ (fun _ w => ((.k (.k .z)) : Keep _ _).sat w)
    ·replace h4 := bif_f hb7 h4
     refine St.exit ?_
     repeat (first | refine St.thenX ?_ | refine St.blkMiss rfl ?_)
     refine St.blkHit ?_
     injection h4 with h4
     subst h4
     have ho := hd4 _ rfl
     subst ho
     refine St.thenN ?_
     exact St.hereE (A8, c8) ⟨rfl, trivial⟩ (fun _ w => ((.k (.d .z)) : Keep _ _).sat w)
   ·rintro ⟨A9, c9⟩
    refine St.blkN ?_
    refine St.thenN ?_
    refine St.seq ?_
    refine St.region ?_
    refine St.p rfl rfl ?_
    refine St.p rfl rfl ?_
    refine St.done ?_
    refine St.thenN ?_
    refine St.prune (Γ' := [(2, _)]) ⟨rfl, trivial⟩ (.k .z) ?_
    refine St.ret ?_
    repeat (first | refine St.thenR ?_ | refine St.blkR ?_)
    injection h with h
    subst h
    exact St.finR Tryd.results93 (.tmp rfl .nil) rfl [.res (OwnL eu8 5 A9 c9 o4)] ⟨A9, c9, rfl, rfl⟩ (fun _ w => ((.k .z) : Keep _ _).sat w)

theorem ent81 : Ent Tryd.prog 81 := ⟨_, Tryd.func81, by kernel_rfl, by kernel_rfl⟩

noncomputable def m_ref02_Encode (f_p0 : T_Field) : Option ((List Int) × Int) :=
 bnd (m_ref02_Valid f_p0) fun r1 => bif !r1 then (some ([], 1)) else (bnd (m_ref02_data f_p0) fun r2 => bnd (app 1 ([IntKind.wrap .u8 (IntKind.wrap .i64 ((IntKind.wrap .i64 (64 * f_p0.Kind)) + (r2.length : Int)))]) r2) fun l1 => some (l1, 0))

theorem c_ref02_Encode {f_p0 : T_Field} {r : ((List Int) × Int)} (h : m_ref02_Encode f_p0 = some r) :
  Fun Tryd.prog 81 [.agg #[.int .i64 f_p0.Kind, .string f_p0.Value]] [] (fun v_ F_ => ∃ (A1 : Option Addr) (c1 : Nat), v_ = .tuple #[.slice A1 r.1.length c1, .int .i64 r.2] ∧ F_ = [.res (OwnL eu8 5 A1 c1 r.1)]) := by
 unfold m_ref02_Encode at h
 refine Fun.intro Tryd.func81 rfl rfl rfl fun w R => ?_
 refine St.seq ?_
 refine St.region ?_
 refine St.box rfl rfl fun g1 => ?_
 refine St.p rfl rfl ?_
 refine St.p rfl rfl ?_
 refine St.done ?_
 refine St.thenN ?_
 refine St.prune (Γ' := [(1, _)]) ⟨rfl, trivial⟩ (.k .z) ?_
 refine St.seq ?_
 refine St.seq ?_
 refine St.region ?_
 refine St.loadB 0 rfl rfl (.head _) rfl rfl ?_
 obtain ⟨r1, hr1, h⟩ := bnd_e h
 refine St.callV (c_ref02_Valid hr1) ent92 rfl rfl rfl rfl trivial ?_
 refine St.p rfl rfl ?_
 refine St.done ?_
 refine St.thenN ?_
 refine St.prune (Γ' := [(1, _), (7, _)]) ⟨rfl, rfl, trivial⟩ (.k .z) ?_
 refine St.cond _ rfl (fun hb1 => ?_) (fun hb1 => ?_)
 ·replace h := bif_t hb1 h
  refine St.seq ?_
  refine St.region ?_
  refine St.p rfl rfl ?_
  refine St.p rfl rfl ?_
  refine St.done ?_
  refine St.thenN ?_
  refine St.prune (Γ' := [(2, _), (3, _)]) ⟨rfl, rfl, trivial⟩ (.d .z) ?_
  refine St.ret ?_
  repeat (first | refine St.thenR ?_ | refine St.blkR ?_)
  refine St.asrt (fun _ w => w.nilL eu8 5) ?_
  injection h with h
  subst h
  exact St.finR Tryd.results81 (.tmp rfl (.tmp rfl .nil)) rfl [.res (OwnL eu8 5 none 0 ([] : List Int))] ⟨none, 0, rfl, rfl⟩ (fun _ w => ((.k .z) : Keep _ _).sat w)
 ·replace h := bif_f hb1 h
  refine St.skip ?_
  refine St.thenN ?_
  refine St.prune (Γ' := [(1, _)]) ⟨rfl, trivial⟩ (.k .z) ?_
  refine St.seq ?_
  refine St.region ?_
  refine St.loadB 0 rfl rfl (.head _) rfl rfl ?_
  obtain ⟨r2, hr2, h⟩ := bnd_e h
  refine St.call (c_ref02_data hr2) ent93 rfl rfl rfl (fun _ w => w) ?_
  rintro _ _ ⟨A1, c1, rfl, rfl⟩
  refine St.asrt (F' := .res (OwnL eu8 5 A1 c1 r2) :: .res (Box g1 60 [.int .i64 f_p0.Kind, .string f_p0.Value]) :: R) (fun _ w => w) ?_
  refine St.p rfl rfl ?_
  refine St.done ?_
  refine St.thenN ?_
  refine St.prune (Γ' := [(1, _), (4, _)]) ⟨rfl, rfl, trivial⟩ (.k (.k .z)) ?_
  refine St.seq ?_
  refine St.region ?_
  refine St.p rfl rfl ?_
  refine St.loadB 0 rfl rfl (.tail _ (.head _)) rfl rfl ?_
  iterate 5 refine St.p rfl rfl ?_
  refine St.buildSlice rfl rfl rfl rfl rfl rfl rfl rfl fun g2 => ?_
  refine St.p rfl rfl ?_
  refine St.asrt (fun _ w => (w.front (.s .z)).meltL) ?_
  refine St.asrt (fun _ w => (w.front (.s .z)).litL (E := eu8) (e := 5) [IntKind.wrap .u8 (IntKind.wrap .i64 ((IntKind.wrap .i64 (64 * f_p0.Kind)) + (r2.length : Int)))] rfl rfl) ?_
  obtain ⟨l1, hl1, h⟩ := bnd_e h
  refine St.app (E := eu8) hl1 rfl rfl rfl .z rfl rfl rfl rfl rfl rfl rfl rfl (srcL (.tail _ (.head _))) rfl rfl fun A2 c2 => ?_
  refine St.p rfl rfl ?_
  refine St.p rfl rfl ?_
  refine St.done ?_
  refine St.thenN ?_
  refine St.prune (Γ' := [(2, _), (3, _)]) ⟨rfl, rfl, trivial⟩ (.k (.d (.d .z))) ?_
  refine St.ret ?_
  repeat (first | refine St.thenR ?_ | refine St.blkR ?_)
  injection h with h
  subst h
  exact St.finR Tryd.results81 (.tmp rfl (.tmp rfl .nil)) rfl [.res (OwnL eu8 5 A2 c2 l1)] ⟨A2, c2, rfl, rfl⟩ (fun _ w => ((.k .z) : Keep _ _).sat w)

theorem ent69 : Ent Tryd.prog 69 := ⟨_, Tryd.func69, by kernel_rfl, by kernel_rfl⟩

noncomputable def m_ref02_EncodeList (l_p0 : (List T_Field)) : Option ((List Int) × Int) :=
 bif decide ((l_p0.length : Int) > 16) then (some ([], 3)) else (bnd (loopM (τ := ((List Int) × Int) ⊕ List Int) (fun (s1 : List Int × Int) => bif decide (s1.2 < (l_p0.length : Int)) then (bnd (elt l_p0 s1.2) fun x1 => bnd (m_ref02_Encode x1) fun r1 => bif (r1.2 != 0) then (some (.done (.inl ([], r1.2)))) else (bnd (app 1 s1.1 r1.1) fun l1 => some (.next (l1, IntKind.wrap .i64 (s1.2 + 1))))) else (some (.done (.inr s1.1)))) ([], 0)) fun o1 => retOr o1 fun o2 => bnd (app 1 o2 [193]) fun l2 => some (l2, 0))

theorem c_ref02_EncodeList {l_p0 : (List T_Field)} {A1 : Option Addr} {c1 : Nat} {r : ((List Int) × Int)} (h : m_ref02_EncodeList l_p0 = some r) :
  Fun Tryd.prog 69 [.slice A1 l_p0.length c1] [.ro (SlL e_Field A1 c1 l_p0)] (fun v_ F_ => ∃ (A1 : Option Addr) (c1 : Nat), v_ = .tuple #[.slice A1 r.1.length c1, .int .i64 r.2] ∧ F_ = [.res (OwnL eu8 5 A1 c1 r.1)]) := by
 unfold m_ref02_EncodeList at h
 refine Fun.intro Tryd.func69 rfl rfl rfl fun w R => ?_
 refine St.seq ?_
 refine St.region ?_
 refine St.p rfl rfl ?_
 refine St.p rfl rfl ?_
 refine St.done ?_
 refine St.thenN ?_
 refine St.prune (Γ' := [(0, _)]) ⟨rfl, trivial⟩ (.k .z) ?_
 refine St.seq ?_
 refine St.seq ?_
 refine St.region ?_
 iterate 3 refine St.p rfl rfl ?_
 refine St.done ?_
 refine St.thenN ?_
 refine St.prune (Γ' := [(0, _), (10, _)]) ⟨rfl, rfl, trivial⟩ (.k .z) ?_
 refine St.cond _ rfl (fun hb1 => ?_) (fun hb1 => ?_)
 ·replace h := bif_t hb1 h
  refine St.seq ?_
  refine St.region ?_
  refine St.p rfl rfl ?_
  refine St.p rfl rfl ?_
  refine St.done ?_
  refine St.thenN ?_
  refine St.prune (Γ' := [(2, _), (3, _)]) ⟨rfl, rfl, trivial⟩ (.d .z) ?_
  refine St.ret ?_
  repeat (first | refine St.thenR ?_ | refine St.blkR ?_)
  refine St.asrt (fun _ w => w.nilL eu8 5) ?_
  injection h with h
  subst h
  exact St.finR Tryd.results69 (.tmp rfl (.tmp rfl .nil)) rfl [.res (OwnL eu8 5 none 0 ([] : List Int))] ⟨none, 0, rfl, rfl⟩ (fun _ w => ((.k .z) : Keep _ _).sat w)
 ·replace h := bif_f hb1 h
  refine St.skip ?_
  refine St.thenN ?_
  refine St.prune (Γ' := [(0, _)]) ⟨rfl, trivial⟩ (.k .z) ?_
  refine St.seq ?_
  refine St.region ?_
  refine St.p rfl rfl ?_
  refine St.done ?_
  refine St.thenN ?_
  refine St.seq ?_
  refine St.seq ?_
  refine St.region ?_
  refine St.p rfl rfl ?_
  refine St.done ?_
  refine St.thenN ?_
  refine St.asrt (fun _ w => w.nilL eu8 5) ?_
  obtain ⟨o1, hl1, h⟩ := bnd_e h
  refine St.cutI (fun (o2 : List Int) (e2 : Option Addr × Nat) => [(4, .slice e2.1 o2.length e2.2)]) (fun o2 e2 => .res (OwnL eu8 5 e2.1 e2.2 o2) :: R) (fun o2 => o1 = .inr o2) ?_ ?_
  ·refine St.block ?_
   refine St.loop hl1 (fun (s1 : List Int × Int) (e1 : Option Addr × Nat) => [(0, .slice A1 l_p0.length c1), (4, .slice e1.1 s1.1.length e1.2), (5, .int .i64 s1.2)]) (fun s1 e1 => .res (OwnL eu8 5 e1.1 e1.2 s1.1) :: .ro (SlL e_Field A1 c1 l_p0) :: R) (fun _ _ => True) (none, 0) trivial ⟨rfl, rfl, rfl, trivial⟩ (fun _ w => ((.k (.k .z)) : Keep _ _).sat w) ?_
   rintro s1 ⟨A2, c2⟩ - hit1
   obtain ⟨st1, hm1, hd1⟩ := iter_e hit1
   have h1 := hm1
   refine St.seq ?_
   refine St.seq ?_
   refine St.region ?_
   iterate 4 refine St.p rfl rfl ?_
   refine St.done ?_
   refine St.thenN ?_
   refine St.prune (Γ' := [(0, _), (4, _), (5, _), (14, _)]) ⟨rfl, rfl, rfl, rfl, trivial⟩ (.k (.k .z)) ?_
   refine St.cond _ rfl (fun hb2 => ?_) (fun hb2 => ?_)
   ·replace h1 := bif_t hb2 h1
    refine St.skip ?_
    refine St.thenN ?_
    refine St.prune (Γ' := [(0, _), (4, _), (5, _)]) ⟨rfl, rfl, rfl, trivial⟩ (.k (.k .z)) ?_
    refine St.seq ?_
    refine St.block ?_
    refine St.seq ?_
    refine St.region ?_
    refine St.p rfl rfl ?_
    refine St.p rfl rfl ?_
    obtain ⟨x1, hx1, h1⟩ := bnd_e h1
    refine St.ixL hx1 rfl rfl rfl (.tail _ (.head _)) rfl rfl rfl rfl rfl fun b1 ob1 => ?_
    refine St.load ob1 0 rfl rfl (.head _) rfl rfl ?_
    obtain ⟨r1, hr1, h1⟩ := bnd_e h1
    refine St.call (c_ref02_Encode hr1) ent81 rfl rfl rfl (fun _ w => w) ?_
    rintro _ _ ⟨A4, c4, rfl, rfl⟩
    refine St.asrt (F' := .res (OwnL eu8 5 A4 c4 r1.1) :: .ro (Cells b1 ob1 [.int .i64 x1.Kind, .string x1.Value]) :: .res (OwnL eu8 5 A2 c2 s1.1) :: .ro (SlL e_Field A1 c1 l_p0) :: R) (fun _ w => w) ?_
    iterate 5 refine St.p rfl rfl ?_
    refine St.done ?_
    refine St.thenN ?_
    refine St.prune (Γ' := [(0, _), (4, _), (5, _), (6, _), (7, _)]) ⟨rfl, rfl, rfl, rfl, rfl, trivial⟩ (.k (.d (.k (.k .z)))) ?_
    refine St.seq ?_
    refine St.seq ?_
    refine St.region ?_
    refine St.p rfl rfl ?_
    refine St.p rfl rfl ?_
    refine St.done ?_
    refine St.thenN ?_
    refine St.prune (Γ' := [(0, _), (4, _), (5, _), (6, _), (7, _), (26, _)]) ⟨rfl, rfl, rfl, rfl, rfl, rfl, trivial⟩ (.k (.k (.k .z))) ?_
    refine St.cond _ rfl (fun hb3 => ?_) (fun hb3 => ?_)
    ·replace h1 := bif_t hb3 h1
     refine St.seq ?_
     refine St.region ?_
     iterate 3 refine St.p rfl rfl ?_
     refine St.done ?_
     refine St.thenN ?_
     refine St.prune (Γ' := [(2, _), (3, _)]) ⟨rfl, rfl, trivial⟩ (.d (.d (.d .z))) ?_
     refine St.ret ?_
     repeat (first | refine St.thenR ?_ | refine St.blkR ?_)
     refine St.asrt (fun _ w => w.nilL eu8 5) ?_
     injection h1 with h1
     subst h1
     have ho := hd1 _ rfl
     subst ho
     have h : some _ = some _ := h
     injection h with h
     subst h
     exact St.finR Tryd.results69 (.tmp rfl (.tmp rfl .nil)) rfl [.res (OwnL eu8 5 none 0 ([] : List Int))] ⟨none, 0, rfl, rfl⟩ (fun _ w => ((.k .z) : Keep _ _).sat w)
    ·replace h1 := bif_f hb3 h1
     refine St.skip ?_
     refine St.thenN ?_
     refine St.prune (Γ' := [(0, _), (4, _), (5, _), (6, _)]) ⟨rfl, rfl, rfl, rfl, trivial⟩ (.k (.k (.k .z))) ?_
     refine St.region ?_
     refine St.p rfl rfl ?_
     refine St.p rfl rfl ?_
     refine St.asrt (fun _ w => (w.front .z).meltL) ?_
     obtain ⟨l1, hl1, h1⟩ := bnd_e h1
     refine St.app (E := eu8) hl1 rfl rfl rfl (.s .z) rfl rfl rfl rfl rfl rfl rfl rfl (srcL (.head _)) rfl rfl fun A5 c5 => ?_
     refine St.p rfl rfl ?_
     refine St.done ?_
     refine St.blkN ?_
     refine St.thenN ?_
     refine St.prune (Γ' := [(0, _), (4, _), (5, _)]) ⟨rfl, rfl, rfl, trivial⟩ (.k (.d (.k .z))) ?_
     refine St.region ?_
     iterate 3 refine St.p rfl rfl ?_
     refine St.done ?_
     injection h1 with h1
     subst h1
     refine St.thenN ?_
     exact St.again _ (A5, c5) hm1 trivial ⟨rfl, rfl, rfl, trivial⟩ (fun _ w => ((.k (.k .z)) : Keep _ _).sat w)
   ·replace h1 := bif_f hb2 h1
    refine St.exit ?_
    repeat (first | refine St.thenX ?_ | refine St.blkMiss rfl ?_)
    refine St.blkHit ?_
    injection h1 with h1
    subst h1
    have ho := hd1 _ rfl
    subst ho
    refine St.thenN ?_
    exact St.hereI s1.1 (A2, c2) rfl ⟨rfl, trivial⟩ (fun _ w => ((.k (.d .z)) : Keep _ _).sat w)
  ·rintro o2 ⟨A3, c3⟩ ho
   subst ho
   have h : _ = some _ := h
   refine St.seq ?_
   refine St.region ?_
   refine St.p rfl rfl ?_
   refine St.buildSlice rfl rfl rfl rfl rfl rfl rfl rfl fun g1 => ?_
   obtain ⟨l2, hl2, h⟩ := bnd_e h
   refine St.app (E := eu8) hl2 rfl rfl rfl (.s .z) rfl rfl rfl rfl rfl rfl rfl rfl (srcB (.head _) rfl rfl) rfl rfl fun A6 c6 => ?_
   refine St.p rfl rfl ?_
   refine St.p rfl rfl ?_
   refine St.done ?_
   refine St.thenN ?_
   refine St.prune (Γ' := [(2, _), (3, _)]) ⟨rfl, rfl, trivial⟩ (.k (.d .z)) ?_
   refine St.ret ?_
   repeat (first | refine St.thenR ?_ | refine St.blkR ?_)
   injection h with h
   subst h
   exact St.finR Tryd.results69 (.tmp rfl (.tmp rfl .nil)) rfl [.res (OwnL eu8 5 A6 c6 l2)] ⟨A6, c6, rfl, rfl⟩ (fun _ w => ((.k .z) : Keep _ _).sat w)

theorem ent70 : Ent Tryd.prog 70 := ⟨_, Tryd.func70, by kernel_rfl, by kernel_rfl⟩

noncomputable def m_ref01_Little (v_p0 : Int) (n_p1 : Int) : Option (List Int) :=
 bnd (loopM (τ := List Int) (fun (s1 : Int × List Int × Int) => bif decide (s1.2.2 < n_p1) then (bnd (app 1 s1.2.1 [IntKind.wrap .u8 (s1.1.tmod 256)]) fun l1 => some (.next (IntKind.wrap .u64 (s1.1.tdiv 256), l1, IntKind.wrap .i64 (s1.2.2 + 1)))) else (some (.done s1.2.1))) (v_p0, [], 0)) fun o1 => some o1

theorem c_ref01_Little {v_p0 : Int} {n_p1 : Int} {r : (List Int)} (h : m_ref01_Little v_p0 n_p1 = some r) :
  Fun Tryd.prog 70 [.int .u64 v_p0, .int .i64 n_p1] [] (fun v_ F_ => ∃ (A1 : Option Addr) (c1 : Nat), v_ = .slice A1 r.length c1 ∧ F_ = [.res (OwnL eu8 5 A1 c1 r)]) := by
 unfold m_ref01_Little at h
 refine Fun.intro Tryd.func70 rfl rfl rfl fun w R => ?_
 refine St.seq ?_
 refine St.region ?_
 refine St.p rfl rfl ?_
 refine St.done ?_
 refine St.thenN ?_
 refine St.prune (Γ' := [(0, _), (1, _)]) ⟨rfl, rfl, trivial⟩ .z ?_
 refine St.seq ?_
 refine St.region ?_
 refine St.p rfl rfl ?_
 refine St.done ?_
 refine St.thenN ?_
 refine St.seq ?_
 refine St.seq ?_
 refine St.region ?_
 refine St.p rfl rfl ?_
 refine St.done ?_
 refine St.thenN ?_
 refine St.asrt (fun _ w => w.nilL eu8 5) ?_
 obtain ⟨o1, hl1, h⟩ := bnd_e h
 refine St.cutE (fun (e2 : Option Addr × Nat) => [(5, .slice e2.1 o1.length e2.2)]) (fun e2 => .res (OwnL eu8 5 e2.1 e2.2 o1) :: R) ?_ ?_
 ·refine St.block ?_
  refine St.loop hl1 (fun (s1 : Int × List Int × Int) (e1 : Option Addr × Nat) => [(0, .int .u64 s1.1), (1, .int .i64 n_p1), (5, .slice e1.1 s1.2.1.length e1.2), (6, .int .i64 s1.2.2)]) (fun s1 e1 => .res (OwnL eu8 5 e1.1 e1.2 s1.2.1) :: R) (fun _ _ => True) (none, 0) trivial ⟨rfl, rfl, rfl, rfl, trivial⟩ (fun _ w => ((.k .z) : Keep _ _).sat w) ?_
  rintro s1 ⟨A1, c1⟩ - hit1
  obtain ⟨st1, hm1, hd1⟩ := iter_e hit1
  have h1 := hm1
  refine St.seq ?_
  refine St.seq ?_
  refine St.region ?_
  iterate 3 refine St.p rfl rfl ?_
  refine St.done ?_
  refine St.thenN ?_
  refine St.prune (Γ' := [(0, _), (1, _), (5, _), (6, _), (9, _)]) ⟨rfl, rfl, rfl, rfl, rfl, trivial⟩ (.k .z) ?_
  refine St.cond _ rfl (fun hb1 => ?_) (fun hb1 => ?_)
  ·replace h1 := bif_t hb1 h1
   refine St.skip ?_
   refine St.thenN ?_
   refine St.prune (Γ' := [(0, _), (1, _), (5, _), (6, _)]) ⟨rfl, rfl, rfl, rfl, trivial⟩ (.k .z) ?_
   refine St.seq ?_
   refine St.block ?_
   refine St.seq ?_
   refine St.region ?_
   iterate 4 refine St.p rfl rfl ?_
   refine St.buildSlice rfl rfl rfl rfl rfl rfl rfl rfl fun g1 => ?_
   obtain ⟨l1, hl1, h1⟩ := bnd_e h1
   refine St.app (E := eu8) hl1 rfl rfl rfl (.s .z) rfl rfl rfl rfl rfl rfl rfl rfl (srcB (.head _) rfl rfl) rfl rfl fun A3 c3 => ?_
   refine St.p rfl rfl ?_
   refine St.done ?_
   refine St.thenN ?_
   refine St.prune (Γ' := [(0, _), (1, _), (5, _), (6, _)]) ⟨rfl, rfl, rfl, rfl, trivial⟩ (.k (.d .z)) ?_
   refine St.region ?_
   iterate 3 refine St.p rfl rfl ?_
   refine St.done ?_
   refine St.blkN ?_
   refine St.thenN ?_
   refine St.prune (Γ' := [(0, _), (1, _), (5, _), (6, _)]) ⟨rfl, rfl, rfl, rfl, trivial⟩ (.k .z) ?_
   refine St.region ?_
   iterate 3 refine St.p rfl rfl ?_
   refine St.done ?_
   injection h1 with h1
   subst h1
   refine St.thenN ?_
   exact St.again _ (A3, c3) hm1 trivial ⟨rfl, rfl, rfl, rfl, trivial⟩ (fun _ w => ((.k .z) : Keep _ _).sat w)
  ·replace h1 := bif_f hb1 h1
   refine St.exit ?_
   repeat (first | refine St.thenX ?_ | refine St.blkMiss rfl ?_)
   refine St.blkHit ?_
   injection h1 with h1
   subst h1
   have ho := hd1 _ rfl
   subst ho
   refine St.thenN ?_
   exact St.hereE (A1, c1) ⟨rfl, trivial⟩ (fun _ w => ((.k .z) : Keep _ _).sat w)
 ·rintro ⟨A2, c2⟩
  refine St.seq ?_
  refine St.region ?_
  refine St.p rfl rfl ?_
  refine St.p rfl rfl ?_
  refine St.done ?_
  refine St.thenN ?_
  refine St.prune (Γ' := [(4, _)]) ⟨rfl, trivial⟩ (.k .z) ?_
  refine St.ret ?_
  repeat (first | refine St.thenR ?_ | refine St.blkR ?_)
  injection h with h
  subst h
  exact St.finR Tryd.results70 (.tmp rfl .nil) rfl [.res (OwnL eu8 5 A2 c2 o1)] ⟨A2, c2, rfl, rfl⟩ (fun _ w => ((.k .z) : Keep _ _).sat w)

theorem ent43 : Ent Tryd.prog 43 := ⟨_, Tryd.func43, by kernel_rfl, by kernel_rfl⟩

noncomputable def m_ref01_Copy (b_p0 : (List Int)) : Option (List Int) :=
 bnd (loopM (τ := List Int) (fun (s1 : List Int × Int) => bif decide (s1.2 < (b_p0.length : Int)) then (bnd (elt b_p0 s1.2) fun x1 => bnd (app 1 s1.1 [x1]) fun l1 => some (.next (l1, IntKind.wrap .i64 (s1.2 + 1)))) else (some (.done s1.1))) ([], 0)) fun o1 => some o1

theorem c_ref01_Copy {b_p0 : (List Int)} {A1 : Option Addr} {c1 : Nat} {r : (List Int)} (h : m_ref01_Copy b_p0 = some r) :
  Fun Tryd.prog 43 [.slice A1 b_p0.length c1] [.ro (SlL eu8 A1 c1 b_p0)] (fun v_ F_ => ∃ (A1 : Option Addr) (c1 : Nat), v_ = .slice A1 r.length c1 ∧ F_ = [.res (OwnL eu8 5 A1 c1 r)]) := by
 unfold m_ref01_Copy at h
 refine Fun.intro Tryd.func43 rfl rfl rfl fun w R => ?_
 refine St.seq ?_
 refine St.region ?_
 refine St.p rfl rfl ?_
 refine St.done ?_
 refine St.thenN ?_
 refine St.prune (Γ' := [(0, _)]) ⟨rfl, trivial⟩ (.k .z) ?_
 refine St.seq ?_
 refine St.region ?_
 refine St.p rfl rfl ?_
 refine St.done ?_
 refine St.thenN ?_
 refine St.seq ?_
 refine St.seq ?_
 refine St.region ?_
 refine St.p rfl rfl ?_
 refine St.done ?_
 refine St.thenN ?_
 refine St.asrt (fun _ w => w.nilL eu8 5) ?_
 obtain ⟨o1, hl1, h⟩ := bnd_e h
 refine St.cutE (fun (e2 : Option Addr × Nat) => [(3, .slice e2.1 o1.length e2.2)]) (fun e2 => .res (OwnL eu8 5 e2.1 e2.2 o1) :: R) ?_ ?_
 ·refine St.block ?_
  refine St.loop hl1 (fun (s1 : List Int × Int) (e1 : Option Addr × Nat) => [(0, .slice A1 b_p0.length c1), (3, .slice e1.1 s1.1.length e1.2), (4, .int .i64 s1.2)]) (fun s1 e1 => .res (OwnL eu8 5 e1.1 e1.2 s1.1) :: .ro (SlL eu8 A1 c1 b_p0) :: R) (fun _ _ => True) (none, 0) trivial ⟨rfl, rfl, rfl, trivial⟩ (fun _ w => ((.k (.k .z)) : Keep _ _).sat w) ?_
  rintro s1 ⟨A2, c2⟩ - hit1
  obtain ⟨st1, hm1, hd1⟩ := iter_e hit1
  have h1 := hm1
  refine St.seq ?_
  refine St.seq ?_
  refine St.region ?_
  iterate 4 refine St.p rfl rfl ?_
  refine St.done ?_
  refine St.thenN ?_
  refine St.prune (Γ' := [(0, _), (3, _), (4, _), (8, _)]) ⟨rfl, rfl, rfl, rfl, trivial⟩ (.k (.k .z)) ?_
  refine St.cond _ rfl (fun hb1 => ?_) (fun hb1 => ?_)
  ·replace h1 := bif_t hb1 h1
   refine St.skip ?_
   refine St.thenN ?_
   refine St.prune (Γ' := [(0, _), (3, _), (4, _)]) ⟨rfl, rfl, rfl, trivial⟩ (.k (.k .z)) ?_
   refine St.seq ?_
   refine St.block ?_
   refine St.region ?_
   iterate 3 refine St.p rfl rfl ?_
   obtain ⟨x1, hx1, h1⟩ := bnd_e h1
   refine St.ixL hx1 rfl rfl rfl (.tail _ (.head _)) rfl rfl rfl rfl rfl fun b1 ob1 => ?_
   refine St.load ob1 0 rfl rfl (.head _) rfl rfl ?_
   refine St.buildSlice rfl rfl rfl rfl rfl rfl rfl rfl fun g1 => ?_
   obtain ⟨l1, hl1, h1⟩ := bnd_e h1
   refine St.app (E := eu8) hl1 rfl rfl rfl (.s (.s .z)) rfl rfl rfl rfl rfl rfl rfl rfl (srcB (.head _) rfl rfl) rfl rfl fun A4 c4 => ?_
   refine St.p rfl rfl ?_
   refine St.done ?_
   refine St.blkN ?_
   refine St.thenN ?_
   refine St.prune (Γ' := [(0, _), (3, _), (4, _)]) ⟨rfl, rfl, rfl, trivial⟩ (.k (.d (.d (.k .z)))) ?_
   refine St.region ?_
   iterate 3 refine St.p rfl rfl ?_
   refine St.done ?_
   injection h1 with h1
   subst h1
   refine St.thenN ?_
   exact St.again _ (A4, c4) hm1 trivial ⟨rfl, rfl, rfl, trivial⟩ (fun _ w => ((.k (.k .z)) : Keep _ _).sat w)
  ·replace h1 := bif_f hb1 h1
   refine St.exit ?_
   repeat (first | refine St.thenX ?_ | refine St.blkMiss rfl ?_)
   refine St.blkHit ?_
   injection h1 with h1
   subst h1
   have ho := hd1 _ rfl
   subst ho
   refine St.thenN ?_
   exact St.hereE (A2, c2) ⟨rfl, trivial⟩ (fun _ w => ((.k (.d .z)) : Keep _ _).sat w)
 ·rintro ⟨A3, c3⟩
  refine St.seq ?_
  refine St.region ?_
  refine St.p rfl rfl ?_
  refine St.p rfl rfl ?_
  refine St.done ?_
  refine St.thenN ?_
  refine St.prune (Γ' := [(2, _)]) ⟨rfl, trivial⟩ (.k .z) ?_
  refine St.ret ?_
  repeat (first | refine St.thenR ?_ | refine St.blkR ?_)
  injection h with h
  subst h
  exact St.finR Tryd.results43 (.tmp rfl .nil) rfl [.res (OwnL eu8 5 A3 c3 o1)] ⟨A3, c3, rfl, rfl⟩ (fun _ w => ((.k .z) : Keep _ _).sat w)

theorem ent30 : Ent Tryd.prog 30 := ⟨_, Tryd.func30, by kernel_rfl, by kernel_rfl⟩

noncomputable def m_ref01_Sum8 (b_p0 : (List Int)) : Option Int :=
 bnd (loopM (τ := Int) (fun (s1 : Int × Int) => bif decide (s1.2 < (b_p0.length : Int)) then (bnd (elt b_p0 s1.2) fun x1 => some (.next ((IntKind.wrap .i64 (s1.1 + (IntKind.wrap .i64 x1))).tmod 256, IntKind.wrap .i64 (s1.2 + 1)))) else (some (.done s1.1))) (0, 0)) fun o1 => some (IntKind.wrap .u8 ((IntKind.wrap .i64 (256 - o1)).tmod 256))

theorem c_ref01_Sum8 {b_p0 : (List Int)} {A1 : Option Addr} {c1 : Nat} {r : Int} (h : m_ref01_Sum8 b_p0 = some r) :
  Fun Tryd.prog 30 [.slice A1 b_p0.length c1] [.ro (SlL eu8 A1 c1 b_p0)] (Val (.int .u8 r)) := by
 unfold m_ref01_Sum8 at h
 refine Fun.intro Tryd.func30 rfl rfl rfl fun w R => ?_
 refine St.seq ?_
 refine St.region ?_
 refine St.p rfl rfl ?_
 refine St.done ?_
 refine St.thenN ?_
 refine St.prune (Γ' := [(0, _)]) ⟨rfl, trivial⟩ (.k .z) ?_
 refine St.seq ?_
 refine St.region ?_
 refine St.p rfl rfl ?_
 refine St.done ?_
 refine St.thenN ?_
 refine St.seq ?_
 refine St.seq ?_
 refine St.region ?_
 refine St.p rfl rfl ?_
 refine St.done ?_
 refine St.thenN ?_
 obtain ⟨o1, hl1, h⟩ := bnd_e h
 refine St.cutE (fun (e2 : Unit) => [(3, .int .i64 o1)]) (fun e2 => R) ?_ ?_
 ·refine St.block ?_
  refine St.loop hl1 (fun (s1 : Int × Int) (e1 : Unit) => [(0, .slice A1 b_p0.length c1), (3, .int .i64 s1.1), (4, .int .i64 s1.2)]) (fun s1 e1 => .ro (SlL eu8 A1 c1 b_p0) :: R) (fun _ _ => True) () trivial ⟨rfl, rfl, rfl, trivial⟩ (fun _ w => ((.k .z) : Keep _ _).sat w) ?_
  rintro s1 e1 - hit1
  obtain ⟨st1, hm1, hd1⟩ := iter_e hit1
  have h1 := hm1
  refine St.seq ?_
  refine St.seq ?_
  refine St.region ?_
  iterate 4 refine St.p rfl rfl ?_
  refine St.done ?_
  refine St.thenN ?_
  refine St.prune (Γ' := [(0, _), (3, _), (4, _), (8, _)]) ⟨rfl, rfl, rfl, rfl, trivial⟩ (.k .z) ?_
  refine St.cond _ rfl (fun hb1 => ?_) (fun hb1 => ?_)
  ·replace h1 := bif_t hb1 h1
   refine St.skip ?_
   refine St.thenN ?_
   refine St.prune (Γ' := [(0, _), (3, _), (4, _)]) ⟨rfl, rfl, rfl, trivial⟩ (.k .z) ?_
   refine St.seq ?_
   refine St.block ?_
   refine St.region ?_
   iterate 3 refine St.p rfl rfl ?_
   obtain ⟨x1, hx1, h1⟩ := bnd_e h1
   refine St.ixL hx1 rfl rfl rfl (.head _) rfl rfl rfl rfl rfl fun b1 ob1 => ?_
   refine St.load ob1 0 rfl rfl (.head _) rfl rfl ?_
   iterate 4 refine St.p rfl rfl ?_
   refine St.done ?_
   refine St.blkN ?_
   refine St.thenN ?_
   refine St.prune (Γ' := [(0, _), (3, _), (4, _)]) ⟨rfl, rfl, rfl, trivial⟩ (.d (.k .z)) ?_
   refine St.region ?_
   iterate 3 refine St.p rfl rfl ?_
   refine St.done ?_
   injection h1 with h1
   subst h1
   refine St.thenN ?_
   exact St.again _ () hm1 trivial ⟨rfl, rfl, rfl, trivial⟩ (fun _ w => ((.k .z) : Keep _ _).sat w)
  ·replace h1 := bif_f hb1 h1
   refine St.exit ?_
   repeat (first | refine St.thenX ?_ | refine St.blkMiss rfl ?_)
   refine St.blkHit ?_
   injection h1 with h1
   subst h1
   have ho := hd1 _ rfl
   subst ho
   refine St.thenN ?_
   exact St.hereE () ⟨rfl, trivial⟩ (fun _ w => ((.d .z) : Keep _ _).sat w)
 ·rintro e2
  refine St.seq ?_
  refine St.region ?_
  iterate 5 refine St.p rfl rfl ?_
  refine St.done ?_
  refine St.thenN ?_
  refine St.prune (Γ' := [(2, _)]) ⟨rfl, trivial⟩ .z ?_
  refine St.ret ?_
  repeat (first | refine St.thenR ?_ | refine St.blkR ?_)
  injection h with h
  subst h
  exact St.finR Tryd.results30 (.tmp rfl .nil) rfl [] ⟨rfl, rfl⟩ (fun _ w => (.z : Keep _ _).sat w)

theorem ent52 : Ent Tryd.prog 52 := ⟨_, Tryd.func52, by kernel_rfl, by kernel_rfl⟩

noncomputable def m_ref01_Seal8 (b_p0 : (List Int)) : Option (List Int) :=
 bnd (m_ref01_Copy b_p0) fun r1 => bnd (m_ref01_Sum8 b_p0) fun r2 => bnd (app 1 r1 [r2]) fun l1 => some l1

theorem c_ref01_Seal8 {b_p0 : (List Int)} {A1 : Option Addr} {c1 : Nat} {r : (List Int)} (h : m_ref01_Seal8 b_p0 = some r) :
  Fun Tryd.prog 52 [.slice A1 b_p0.length c1] [.ro (SlL eu8 A1 c1 b_p0)] (fun v_ F_ => ∃ (A1 : Option Addr) (c1 : Nat), v_ = .slice A1 r.length c1 ∧ F_ = [.res (OwnL eu8 5 A1 c1 r)]) := by
 unfold m_ref01_Seal8 at h
 refine Fun.intro Tryd.func52 rfl rfl rfl fun w R => ?_
 refine St.seq ?_
 refine St.region ?_
 refine St.p rfl rfl ?_
 refine St.done ?_
 refine St.thenN ?_
 refine St.prune (Γ' := [(0, _)]) ⟨rfl, trivial⟩ (.k .z) ?_
 refine St.seq ?_
 refine St.region ?_
 refine St.p rfl rfl ?_
 obtain ⟨r1, hr1, h⟩ := bnd_e h
 refine St.call (c_ref01_Copy hr1) ent43 rfl rfl rfl (fun _ w => Sat.dup (G := [.ro (SlL eu8 A1 c1 b_p0)]) rfl ⟨(.head _), trivial⟩ w) ?_
 rintro _ _ ⟨A2, c2, rfl, rfl⟩
 refine St.asrt (F' := .res (OwnL eu8 5 A2 c2 r1) :: .ro (SlL eu8 A1 c1 b_p0) :: R) (fun _ w => w) ?_
 refine St.p rfl rfl ?_
 obtain ⟨r2, hr2, h⟩ := bnd_e h
 refine St.callV (c_ref01_Sum8 hr2) ent30 rfl rfl rfl rfl ⟨(.tail _ (.head _)), trivial⟩ ?_
 refine St.buildSlice rfl rfl rfl rfl rfl rfl rfl rfl fun g1 => ?_
 obtain ⟨l1, hl1, h⟩ := bnd_e h
 refine St.app (E := eu8) hl1 rfl rfl rfl (.s .z) rfl rfl rfl rfl rfl rfl rfl rfl (srcB (.head _) rfl rfl) rfl rfl fun A3 c3 => ?_
 refine St.p rfl rfl ?_
 refine St.done ?_
 refine St.thenN ?_
 refine St.prune (Γ' := [(2, _)]) ⟨rfl, trivial⟩ (.k (.d (.d .z))) ?_
 refine St.ret ?_
 repeat (first | refine St.thenR ?_ | refine St.blkR ?_)
 injection h with h
 subst h
 exact St.finR Tryd.results52 (.tmp rfl .nil) rfl [.res (OwnL eu8 5 A3 c3 l1)] ⟨A3, c3, rfl, rfl⟩ (fun _ w => ((.k .z) : Keep _ _).sat w)

theorem ent51 : Ent Tryd.prog 51 := ⟨_, Tryd.func51, by kernel_rfl, by kernel_rfl⟩

noncomputable def m_ref17_area (kind : Int) (a_p1 : T_Area) : Option ((List Int) × Bool) :=
 bif !a_p1.Present then (bnd ((bif (a_p1.Code == 0) then (bif (a_p1.Minutes == 0) then (some ((a_p1.Fields.length : Int) == 0)) else (some false)) else (some false) : Option Bool)) fun o1 => some ([], o1)) else (bnd ((bnd (m_ref17_least kind) fun r1 => bif decide ((a_p1.Fields.length : Int) < r1) then (some true) else (bif decide (a_p1.Minutes ≥ 16777216) then (some true) else (bif (kind != 1) then (some (a_p1.Minutes != 0)) else (some false))) : Option Bool)) fun o2 => bif o2 then (some ([], false)) else (bnd (m_ref02_EncodeList a_p1.Fields) fun r2 => bif (r2.2 != 0) then (some ([], false)) else (bnd ((bif (kind == 1) then (bnd (m_ref01_Little (IntKind.wrap .u64 a_p1.Minutes) 3) fun r3 => bnd (app 1 ([1, 0, a_p1.Code]) r3) fun l1 => some l1) else (some ([1, 0, a_p1.Code])) : Option (List Int))) fun o3 => bnd (app 1 o3 r2.1) fun l2 => bnd (loopM (τ := List Int) (fun (s1 : List Int) => bif (((s1.length : Int).tmod 8) != 7) then (bnd (app 1 s1 [0]) fun l3 => some (.next l3)) else (some (.done s1))) l2) fun o4 => bif decide ((IntKind.wrap .i64 ((o4.length : Int) + 1)) > 2040) then (some ([], false)) else (bnd (elt o4 1) fun x1 => bnd (setE o4 1 (IntKind.wrap .u8 (IntKind.wrap .i64 ((IntKind.wrap .i64 ((o4.length : Int) + 1)).tdiv 8)))) fun l4 => bnd (m_ref01_Seal8 l4) fun r4 => some (r4, true)))))

set_option maxHeartbeats 4000000 in
theorem c_ref17_area {kind : Int} {a_p1 : T_Area} {A1 : Option Addr} {c1 : Nat} {r : ((List Int) × Bool)} (h : m_ref17_area kind a_p1 = some r) :
  Fun Tryd.prog 51 [.int .i64 kind, .agg (bx_T_Area a_p1 A1 c1).toArray] [.ro (SlL e_Field A1 c1 a_p1.Fields)] (fun v_ F_ => ∃ (A1 : Option Addr) (c1 : Nat), v_ = .tuple #[.slice A1 r.1.length c1, .bool r.2] ∧ F_ = [.res (OwnL eu8 5 A1 c1 r.1)]) := by
 unfold m_ref17_area at h
 refine Fun.intro Tryd.func51 rfl rfl rfl fun w R => ?_
 refine St.seq ?_
 refine St.region ?_
 refine St.box rfl rfl fun g1 => ?_
 refine St.p rfl rfl ?_
 refine St.p rfl rfl ?_
 refine St.done ?_
 refine St.thenN ?_
 refine St.prune (Γ' := [(0, _), (3, _)]) ⟨rfl, rfl, trivial⟩ (.k (.k .z)) ?_
 refine St.seq ?_
 refine St.seq ?_
 refine St.region ?_
 refine St.p rfl rfl ?_
 refine St.loadB 0 rfl rfl (.head _) rfl rfl ?_
 refine St.p rfl rfl ?_
 refine St.done ?_
 refine St.thenN ?_
 refine St.prune (Γ' := [(0, _), (3, _), (11, _)]) ⟨rfl, rfl, rfl, trivial⟩ (.k (.k .z)) ?_
 refine St.cond _ rfl (fun hb1 => ?_) (fun hb1 => ?_)
 ·replace h := bif_t hb1 h
  refine St.seq ?_
  obtain ⟨o1, hj1, h⟩ := bnd_e h
  refine St.cutE (fun (e1 : Unit) => [(4, .slice none 0 0), (5, .bool o1)]) (fun e1 => R) ?_ ?_
  ·refine St.regionF mixed (by kernel_rfl) ?_
   refine St.p rfl rfl ?_
   refine St.loadB 1 rfl rfl (.head _) rfl rfl ?_
   refine St.p rfl rfl ?_
   refine St.p rfl rfl ?_
   refine St.gSplit (dj := 15) _ rfl (fun hb2 => ?_) (fun hb2 => ?_)
   ·replace hj1 := bif_t hb2 hj1
    refine St.gOn (dj := 15) rfl rfl ?_
    refine St.p rfl rfl ?_
    refine St.gOn (dj := 15) rfl rfl ?_
    refine St.loadB 2 rfl rfl (.head _) rfl rfl ?_
    refine St.gOn (dj := 15) rfl rfl ?_
    iterate 3 refine St.p rfl rfl ?_
    refine St.gSplit (dj := 20) _ rfl (fun hb3 => ?_) (fun hb3 => ?_)
    ·replace hj1 := bif_t hb3 hj1
     refine St.gOn (dj := 20) rfl rfl ?_
     refine St.p rfl rfl ?_
     refine St.gOn (dj := 20) rfl rfl ?_
     refine St.loadB 3 rfl rfl (.head _) rfl rfl ?_
     refine St.gOn (dj := 20) rfl rfl ?_
     refine St.p rfl rfl ?_
     refine St.gOn (dj := 20) rfl rfl ?_
     iterate 4 refine St.p rfl rfl ?_
     refine St.doneQ ?_
     injection hj1 with hj1
     subst hj1
     refine St.thenN ?_
     exact St.hereE () ⟨rfl, rfl, trivial⟩ (fun _ w => ((.d (.d .z)) : Keep _ _).sat w)
    ·replace hj1 := bif_f hb3 hj1
     refine St.gOff (dj := 20) rfl rfl rfl rfl ?_
     refine St.gOff (dj := 20) rfl rfl rfl rfl ?_
     refine St.gOff (dj := 20) rfl rfl rfl rfl ?_
     refine St.gOff (dj := 20) rfl rfl rfl rfl ?_
     iterate 3 refine St.p rfl rfl ?_
     refine St.doneQ ?_
     injection hj1 with hj1
     subst hj1
     refine St.thenN ?_
     exact St.hereE () ⟨rfl, rfl, trivial⟩ (fun _ w => ((.d (.d .z)) : Keep _ _).sat w)
   ·replace hj1 := bif_f hb2 hj1
    refine St.gOff (dj := 15) rfl rfl rfl rfl ?_
    refine St.gOff (dj := 15) rfl rfl rfl rfl ?_
    refine St.gOff (dj := 15) rfl rfl rfl rfl ?_
    refine St.p rfl rfl ?_
    refine St.p rfl rfl ?_
    refine St.gOff (dj := 20) rfl rfl rfl rfl ?_
    refine St.gOff (dj := 20) rfl rfl rfl rfl ?_
    refine St.gOff (dj := 20) rfl rfl rfl rfl ?_
    refine St.gOff (dj := 20) rfl rfl rfl rfl ?_
    iterate 3 refine St.p rfl rfl ?_
    refine St.doneQ ?_
    injection hj1 with hj1
    subst hj1
    refine St.thenN ?_
    exact St.hereE () ⟨rfl, rfl, trivial⟩ (fun _ w => ((.d (.d .z)) : Keep _ _).sat w)
  ·rintro e1
   refine St.ret ?_
   repeat (first | refine St.thenR ?_ | refine St.blkR ?_)
   refine St.asrt (fun _ w => w.nilL eu8 5) ?_
   injection h with h
   subst h
   exact St.finR Tryd.results51 (.tmp rfl (.tmp rfl .nil)) rfl [.res (OwnL eu8 5 none 0 ([] : List Int))] ⟨none, 0, rfl, rfl⟩ (fun _ w => ((.k .z) : Keep _ _).sat w)
 ·replace h := bif_f hb1 h
  refine St.skip ?_
  refine St.thenN ?_
  refine St.prune (Γ' := [(0, _), (3, _)]) ⟨rfl, rfl, trivial⟩ (.k (.k .z)) ?_
  refine St.seq ?_
  refine St.seq ?_
  obtain ⟨o2, hj2, h⟩ := bnd_e h
  refine St.cutE (fun (e2 : Unit) => [(0, .int .i64 kind), (3, .pointer (some ⟨g1, 0, none⟩)), (45, .bool o2)]) (fun e2 => .res (Box g1 25 (bx_T_Area a_p1 A1 c1)) :: .ro (SlL e_Field A1 c1 a_p1.Fields) :: R) ?_ ?_
  ·refine St.regionF mixed (by kernel_rfl) ?_
   refine St.p rfl rfl ?_
   refine St.loadB 3 rfl rfl (.head _) rfl rfl ?_
   refine St.p rfl rfl ?_
   refine St.p rfl rfl ?_
   obtain ⟨r1, hr1, hj2⟩ := bnd_e hj2
   refine St.callV (c_ref17_least hr1) ent68 rfl rfl rfl rfl trivial ?_
   refine St.p rfl rfl ?_
   refine St.p rfl rfl ?_
   refine St.gSplit (dj := 32) _ rfl (fun hb4 => ?_) (fun hb4 => ?_)
   ·replace hj2 := bif_t hb4 hj2
    refine St.gOff (dj := 32) rfl rfl rfl rfl ?_
    refine St.gOff (dj := 32) rfl rfl rfl rfl ?_
    refine St.gOff (dj := 32) rfl rfl rfl rfl ?_
    refine St.p rfl rfl ?_
    refine St.p rfl rfl ?_
    refine St.gOff (dj := 37) rfl rfl rfl rfl ?_
    refine St.gOff (dj := 37) rfl rfl rfl rfl ?_
    refine St.gOff (dj := 37) rfl rfl rfl rfl ?_
    refine St.gOff (dj := 40) rfl rfl rfl rfl ?_
    refine St.gOff (dj := 40) rfl rfl rfl rfl ?_
    refine St.gOff (dj := 40) rfl rfl rfl rfl ?_
    refine St.gOff (dj := 37) rfl rfl rfl rfl ?_
    refine St.p rfl rfl ?_
    refine St.doneQ ?_
    injection hj2 with hj2
    subst hj2
    refine St.thenN ?_
    exact St.hereE () ⟨rfl, rfl, rfl, trivial⟩ (fun _ w => ((.k (.k .z)) : Keep _ _).sat w)
   ·replace hj2 := bif_f hb4 hj2
    refine St.gOn (dj := 32) rfl rfl ?_
    refine St.p rfl rfl ?_
    refine St.gOn (dj := 32) rfl rfl ?_
    refine St.loadB 2 rfl rfl (.head _) rfl rfl ?_
    refine St.gOn (dj := 32) rfl rfl ?_
    iterate 3 refine St.p rfl rfl ?_
    refine St.gSplit (dj := 37) _ rfl (fun hb5 => ?_) (fun hb5 => ?_)
    ·replace hj2 := bif_t hb5 hj2
     refine St.gOff (dj := 37) rfl rfl rfl rfl ?_
     refine St.gOff (dj := 37) rfl rfl rfl rfl ?_
     refine St.gOff (dj := 37) rfl rfl rfl rfl ?_
     refine St.gOff (dj := 40) rfl rfl rfl rfl ?_
     refine St.gOff (dj := 40) rfl rfl rfl rfl ?_
     refine St.gOff (dj := 40) rfl rfl rfl rfl ?_
     refine St.gOff (dj := 37) rfl rfl rfl rfl ?_
     refine St.p rfl rfl ?_
     refine St.doneQ ?_
     injection hj2 with hj2
     subst hj2
     refine St.thenN ?_
     exact St.hereE () ⟨rfl, rfl, rfl, trivial⟩ (fun _ w => ((.k (.k .z)) : Keep _ _).sat w)
    ·replace hj2 := bif_f hb5 hj2
     refine St.gOn (dj := 37) rfl rfl ?_
     refine St.p rfl rfl ?_
     refine St.gOn (dj := 37) rfl rfl ?_
     refine St.p rfl rfl ?_
     refine St.gOn (dj := 37) rfl rfl ?_
     refine St.p rfl rfl ?_
     refine St.gSplit (dj := 40) _ rfl (fun hb6 => ?_) (fun hb6 => ?_)
     ·replace hj2 := bif_t hb6 hj2
      refine St.gOn (dj := 40) rfl rfl ?_
      refine St.p rfl rfl ?_
      refine St.gOn (dj := 40) rfl rfl ?_
      refine St.loadB 2 rfl rfl (.head _) rfl rfl ?_
      refine St.gOn (dj := 40) rfl rfl ?_
      refine St.p rfl rfl ?_
      refine St.gOn (dj := 37) rfl rfl ?_
      refine St.p rfl rfl ?_
      refine St.p rfl rfl ?_
      refine St.doneQ ?_
      injection hj2 with hj2
      subst hj2
      refine St.thenN ?_
      exact St.hereE () ⟨rfl, rfl, rfl, trivial⟩ (fun _ w => ((.k (.k .z)) : Keep _ _).sat w)
     ·replace hj2 := bif_f hb6 hj2
      refine St.gOff (dj := 40) rfl rfl rfl rfl ?_
      refine St.gOff (dj := 40) rfl rfl rfl rfl ?_
      refine St.gOff (dj := 40) rfl rfl rfl rfl ?_
      refine St.gOn (dj := 37) rfl rfl ?_
      refine St.p rfl rfl ?_
      refine St.p rfl rfl ?_
      refine St.doneQ ?_
      injection hj2 with hj2
      subst hj2
      refine St.thenN ?_
      exact St.hereE () ⟨rfl, rfl, rfl, trivial⟩ (fun _ w => ((.k (.k .z)) : Keep _ _).sat w)
  ·rintro e2
   refine St.cond _ rfl (fun hb7 => ?_) (fun hb7 => ?_)
   ·replace h := bif_t hb7 h
    refine St.seq ?_
    refine St.region ?_
    refine St.p rfl rfl ?_
    refine St.p rfl rfl ?_
    refine St.done ?_
    refine St.thenN ?_
    refine St.prune (Γ' := [(4, _), (5, _)]) ⟨rfl, rfl, trivial⟩ (.d (.d .z)) ?_
    refine St.ret ?_
    repeat (first | refine St.thenR ?_ | refine St.blkR ?_)
    refine St.asrt (fun _ w => w.nilL eu8 5) ?_
    injection h with h
    subst h
    exact St.finR Tryd.results51 (.tmp rfl (.tmp rfl .nil)) rfl [.res (OwnL eu8 5 none 0 ([] : List Int))] ⟨none, 0, rfl, rfl⟩ (fun _ w => ((.k .z) : Keep _ _).sat w)
   ·replace h := bif_f hb7 h
    refine St.skip ?_
    refine St.thenN ?_
    refine St.prune (Γ' := [(0, _), (3, _)]) ⟨rfl, rfl, trivial⟩ (.k (.k .z)) ?_
    refine St.seq ?_
    refine St.region ?_
    refine St.p rfl rfl ?_
    refine St.loadB 3 rfl rfl (.head _) rfl rfl ?_
    obtain ⟨r2, hr2, h⟩ := bnd_e h
    refine St.call (c_ref02_EncodeList hr2) ent69 rfl rfl rfl (fun _ w => Sat.dup (G := [.ro (SlL e_Field A1 c1 a_p1.Fields)]) rfl ⟨(.tail _ (.head _)), trivial⟩ w) ?_
    rintro _ _ ⟨A2, c2, rfl, rfl⟩
    refine St.asrt (F' := .res (OwnL eu8 5 A2 c2 r2.1) :: .res (Box g1 25 (bx_T_Area a_p1 A1 c1)) :: .ro (SlL e_Field A1 c1 a_p1.Fields) :: R) (fun _ w => w) ?_
    iterate 5 refine St.p rfl rfl ?_
    refine St.done ?_
    refine St.thenN ?_
    refine St.prune (Γ' := [(0, _), (3, _), (6, _), (7, _)]) ⟨rfl, rfl, rfl, rfl, trivial⟩ (.k (.k (.k .z))) ?_
    refine St.seq ?_
    refine St.seq ?_
    refine St.region ?_
    refine St.p rfl rfl ?_
    refine St.p rfl rfl ?_
    refine St.done ?_
    refine St.thenN ?_
    refine St.prune (Γ' := [(0, _), (3, _), (6, _), (53, _)]) ⟨rfl, rfl, rfl, rfl, trivial⟩ (.k (.k (.k .z))) ?_
    refine St.cond _ rfl (fun hb8 => ?_) (fun hb8 => ?_)
    ·replace h := bif_t hb8 h
     refine St.seq ?_
     refine St.region ?_
     refine St.p rfl rfl ?_
     refine St.p rfl rfl ?_
     refine St.done ?_
     refine St.thenN ?_
     refine St.prune (Γ' := [(4, _), (5, _)]) ⟨rfl, rfl, trivial⟩ (.d (.d (.d .z))) ?_
     refine St.ret ?_
     repeat (first | refine St.thenR ?_ | refine St.blkR ?_)
     refine St.asrt (fun _ w => w.nilL eu8 5) ?_
     injection h with h
     subst h
     exact St.finR Tryd.results51 (.tmp rfl (.tmp rfl .nil)) rfl [.res (OwnL eu8 5 none 0 ([] : List Int))] ⟨none, 0, rfl, rfl⟩ (fun _ w => ((.k .z) : Keep _ _).sat w)
    ·replace h := bif_f hb8 h
     refine St.skip ?_
     refine St.thenN ?_
     refine St.prune (Γ' := [(0, _), (3, _), (6, _)]) ⟨rfl, rfl, rfl, trivial⟩ (.k (.k (.k .z))) ?_
     refine St.seq ?_
     refine St.region ?_
     refine St.p rfl rfl ?_
     refine St.loadB 1 rfl rfl (.tail _ (.head _)) rfl rfl ?_
     refine St.buildSlice rfl rfl rfl rfl rfl rfl rfl rfl fun g2 => ?_
     refine St.p rfl rfl ?_
     refine St.done ?_
     refine St.thenN ?_
     refine St.prune (Γ' := [(0, _), (3, _), (6, _), (8, _)]) ⟨rfl, rfl, rfl, rfl, trivial⟩ (.k (.k (.k (.k .z)))) ?_
     refine St.seq ?_
     obtain ⟨o3, hj3, h⟩ := bnd_e h
     refine St.cutE (fun (e3 : Option Addr × Nat) => [(6, .slice A2 r2.1.length c2), (8, .slice e3.1 o3.length e3.2)]) (fun e3 => .res (OwnL eu8 5 e3.1 e3.2 o3) :: .res (OwnL eu8 5 A2 c2 r2.1) :: R) ?_ ?_
     ·refine St.seq ?_
      refine St.region ?_
      refine St.p rfl rfl ?_
      refine St.p rfl rfl ?_
      refine St.done ?_
      refine St.thenN ?_
      refine St.prune (Γ' := [(3, _), (6, _), (8, _), (58, _)]) ⟨rfl, rfl, rfl, rfl, trivial⟩ (.k (.k (.k (.k .z)))) ?_
      refine St.cond _ rfl (fun hb9 => ?_) (fun hb9 => ?_)
      ·replace hj3 := bif_t hb9 hj3
       refine St.region ?_
       refine St.p rfl rfl ?_
       refine St.p rfl rfl ?_
       refine St.loadB 2 rfl rfl (.tail _ (.tail _ (.head _))) rfl rfl ?_
       refine St.p rfl rfl ?_
       obtain ⟨r3, hr3, hj3⟩ := bnd_e hj3
       refine St.call (c_ref01_Little hr3) ent70 rfl rfl rfl (fun _ w => w) ?_
       rintro _ _ ⟨A4, c4, rfl, rfl⟩
       refine St.asrt (F' := .res (OwnL eu8 5 A4 c4 r3) :: .res (Box g2 5 [.int .u8 1, .int .u8 0, .int .u8 a_p1.Code]) :: .res (OwnL eu8 5 A2 c2 r2.1) :: .res (Box g1 25 (bx_T_Area a_p1 A1 c1)) :: .ro (SlL e_Field A1 c1 a_p1.Fields) :: R) (fun _ w => w) ?_
       refine St.asrt (fun _ w => (w.front .z).meltL) ?_
       refine St.asrt (fun _ w => (w.front (.s .z)).litL (E := eu8) (e := 5) [1, 0, a_p1.Code] rfl rfl) ?_
       obtain ⟨l1, hl1, hj3⟩ := bnd_e hj3
       refine St.app (E := eu8) hl1 rfl rfl rfl .z rfl rfl rfl rfl rfl rfl rfl rfl (srcL (.tail _ (.head _))) rfl rfl fun A5 c5 => ?_
       refine St.p rfl rfl ?_
       refine St.done ?_
       injection hj3 with hj3
       subst hj3
       refine St.thenN ?_
       exact St.hereE (A5, c5) ⟨rfl, rfl, trivial⟩ (fun _ w => ((.k (.d (.k (.d (.d .z))))) : Keep _ _).sat w)
      ·replace hj3 := bif_f hb9 hj3
       refine St.skip ?_
       refine St.asrt (fun _ w => (w.front .z).litL (E := eu8) (e := 5) [1, 0, a_p1.Code] rfl rfl) ?_
       injection hj3 with hj3
       subst hj3
       refine St.thenN ?_
       exact St.hereE ((some ⟨g2, 0, none⟩), ([1, 0, a_p1.Code] : List Int).length) ⟨rfl, rfl, trivial⟩ (fun _ w => ((.k (.k (.d (.d .z)))) : Keep _ _).sat w)
     ·rintro ⟨A3, c3⟩
      refine St.seq ?_
      refine St.region ?_
      refine St.p rfl rfl ?_
      refine St.p rfl rfl ?_
      refine St.asrt (fun _ w => (w.front (.s .z)).meltL) ?_
      obtain ⟨l2, hl2, h⟩ := bnd_e h
      refine St.app (E := eu8) hl2 rfl rfl rfl (.s .z) rfl rfl rfl rfl rfl rfl rfl rfl (srcL (.head _)) rfl rfl fun A6 c6 => ?_
      refine St.p rfl rfl ?_
      refine St.done ?_
      refine St.thenN ?_
      refine St.prune (Γ' := [(8, _)]) ⟨rfl, trivial⟩ (.k (.d .z)) ?_
      refine St.seq ?_
      obtain ⟨o4, hl1, h⟩ := bnd_e h
      refine St.cutE (fun (e5 : Option Addr × Nat) => [(8, .slice e5.1 o4.length e5.2)]) (fun e5 => .res (OwnL eu8 5 e5.1 e5.2 o4) :: R) ?_ ?_
      ·refine St.block ?_
       refine St.loop hl1 (fun (s1 : List Int) (e4 : Option Addr × Nat) => [(8, .slice e4.1 s1.length e4.2)]) (fun s1 e4 => .res (OwnL eu8 5 e4.1 e4.2 s1) :: R) (fun _ _ => True) (A6, c6) trivial ⟨rfl, trivial⟩ (fun _ w => ((.k .z) : Keep _ _).sat w) ?_
       rintro s1 ⟨A7, c7⟩ - hit1
       obtain ⟨st1, hm1, hd1⟩ := iter_e hit1
       have h1 := hm1
       refine St.seq ?_
       refine St.seq ?_
       refine St.region ?_
       iterate 4 refine St.p rfl rfl ?_
       refine St.done ?_
       refine St.thenN ?_
       refine St.prune (Γ' := [(8, _), (71, _)]) ⟨rfl, rfl, trivial⟩ (.k .z) ?_
       refine St.cond _ rfl (fun hb10 => ?_) (fun hb10 => ?_)
       ·replace h1 := bif_t hb10 h1
        refine St.skip ?_
        refine St.thenN ?_
        refine St.prune (Γ' := [(8, _)]) ⟨rfl, trivial⟩ (.k .z) ?_
        refine St.block ?_
        refine St.region ?_
        refine St.p rfl rfl ?_
        refine St.buildSlice rfl rfl rfl rfl rfl rfl rfl rfl fun g3 => ?_
        obtain ⟨l3, hl3, h1⟩ := bnd_e h1
        refine St.app (E := eu8) hl3 rfl rfl rfl (.s .z) rfl rfl rfl rfl rfl rfl rfl rfl (srcB (.head _) rfl rfl) rfl rfl fun A9 c9 => ?_
        refine St.p rfl rfl ?_
        refine St.done ?_
        refine St.blkN ?_
        injection h1 with h1
        subst h1
        refine St.thenN ?_
        exact St.again _ (A9, c9) hm1 trivial ⟨rfl, trivial⟩ (fun _ w => ((.k (.d .z)) : Keep _ _).sat w)
       ·replace h1 := bif_f hb10 h1
        refine St.exit ?_
        repeat (first | refine St.thenX ?_ | refine St.blkMiss rfl ?_)
        refine St.blkHit ?_
        injection h1 with h1
        subst h1
        have ho := hd1 _ rfl
        subst ho
        refine St.thenN ?_
        exact St.hereE (A7, c7) ⟨rfl, trivial⟩ (fun _ w => ((.k .z) : Keep _ _).sat w)
      ·rintro ⟨A8, c8⟩
       refine St.seq ?_
       refine St.seq ?_
       refine St.region ?_
       iterate 4 refine St.p rfl rfl ?_
       refine St.done ?_
       refine St.thenN ?_
       refine St.prune (Γ' := [(8, _), (78, _)]) ⟨rfl, rfl, trivial⟩ (.k .z) ?_
       refine St.cond _ rfl (fun hb11 => ?_) (fun hb11 => ?_)
       ·replace h := bif_t hb11 h
        refine St.seq ?_
        refine St.region ?_
        refine St.p rfl rfl ?_
        refine St.p rfl rfl ?_
        refine St.done ?_
        refine St.thenN ?_
        refine St.prune (Γ' := [(4, _), (5, _)]) ⟨rfl, rfl, trivial⟩ (.d .z) ?_
        refine St.ret ?_
        repeat (first | refine St.thenR ?_ | refine St.blkR ?_)
        refine St.asrt (fun _ w => w.nilL eu8 5) ?_
        injection h with h
        subst h
        exact St.finR Tryd.results51 (.tmp rfl (.tmp rfl .nil)) rfl [.res (OwnL eu8 5 none 0 ([] : List Int))] ⟨none, 0, rfl, rfl⟩ (fun _ w => ((.k .z) : Keep _ _).sat w)
       ·replace h := bif_f hb11 h
        refine St.skip ?_
        refine St.thenN ?_
        refine St.prune (Γ' := [(8, _)]) ⟨rfl, trivial⟩ (.k .z) ?_
        refine St.seq ?_
        refine St.region ?_
        iterate 6 refine St.p rfl rfl ?_
        obtain ⟨x1, hx1, h⟩ := bnd_e h
        refine St.ixO hx1 rfl rfl rfl (.head _) rfl rfl rfl rfl rfl fun g4 hA => ?_
        subst hA
        obtain ⟨l4, hl4, h⟩ := bnd_e h
        refine St.stO 0 hx1 hl4 rfl rfl .z rfl rfl rfl rfl rfl ?_
        refine St.slots (Γ' := [(8, .slice (some ⟨g4, 0, none⟩) l4.length c8), (79, .slice (some ⟨g4, 0, none⟩) l4.length c8), (80, .slice (some ⟨g4, 0, none⟩) l4.length c8), (81, _), (82, _), (83, _), (84, _), (85, _)]) ⟨sl_len hl4, sl_len hl4, sl_len hl4, rfl, rfl, rfl, rfl, rfl, trivial⟩ ?_
        refine St.done ?_
        refine St.thenN ?_
        refine St.prune (Γ' := [(8, _)]) ⟨rfl, trivial⟩ (.k .z) ?_
        refine St.seq ?_
        refine St.region ?_
        refine St.p rfl rfl ?_
        refine St.asrt (fun _ w => (w.front .z).meltL) ?_
        obtain ⟨r4, hr4, h⟩ := bnd_e h
        refine St.call (c_ref01_Seal8 hr4) ent52 rfl rfl rfl (fun _ w => Sat.dup (G := [.ro (SlL eu8 (some ⟨g4, 0, none⟩) c8 l4)]) rfl ⟨(.head _), trivial⟩ w) ?_
        rintro _ _ ⟨A10, c10, rfl, rfl⟩
        refine St.asrt (F' := .res (OwnL eu8 5 A10 c10 r4) :: .ro (SlL eu8 (some ⟨g4, 0, none⟩) c8 l4) :: R) (fun _ w => w) ?_
        refine St.p rfl rfl ?_
        refine St.p rfl rfl ?_
        refine St.done ?_
        refine St.thenN ?_
        refine St.prune (Γ' := [(4, _), (5, _)]) ⟨rfl, rfl, trivial⟩ (.k (.d .z)) ?_
        refine St.ret ?_
        repeat (first | refine St.thenR ?_ | refine St.blkR ?_)
        injection h with h
        subst h
        exact St.finR Tryd.results51 (.tmp rfl (.tmp rfl .nil)) rfl [.res (OwnL eu8 5 A10 c10 r4)] ⟨A10, c10, rfl, rfl⟩ (fun _ w => ((.k .z) : Keep _ _).sat w)

theorem ent36 : Ent Tryd.prog 36 := ⟨_, Tryd.func36, by kernel_rfl, by kernel_rfl⟩

noncomputable def m_ref17_bytes (i_p0 : T_Info) : Option ((List Int) × Bool) :=
 bnd ((bnd (m_ref17_area 0 i_p0.Chassis) fun r1 => bif !r1.2 then (some (.inl ([], false))) else (bif decide ((r1.1.length : Int) > 0) then (bnd (app 1 ([]) r1.1) fun l1 => some (.inr (l1, IntKind.wrap .u8 (IntKind.wrap .i64 ((8 : Int).tdiv 8))))) else (bnd (app 1 ([]) r1.1) fun l2 => some (.inr (l2, 0)))) : Option (((List Int) × Bool) ⊕ (List Int × Int)))) fun o1 => retOr o1 fun o2 => bnd ((bnd (m_ref17_area 1 i_p0.Board) fun r2 => bif !r2.2 then (some (.inl ([], false))) else (bif decide ((r2.1.length : Int) > 0) then (bnd (app 1 o2.1 r2.1) fun l3 => some (.inr (l3, IntKind.wrap .u8 (IntKind.wrap .i64 ((IntKind.wrap .i64 (8 + (o2.1.length : Int))).tdiv 8))))) else (bnd (app 1 o2.1 r2.1) fun l4 => some (.inr (l4, 0)))) : Option (((List Int) × Bool) ⊕ (List Int × Int)))) fun o3 => retOr o3 fun o4 => bnd ((bnd (m_ref17_area 2 i_p0.Product) fun r3 => bif !r3.2 then (some (.inl ([], false))) else (bif decide ((r3.1.length : Int) > 0) then (bnd (app 1 o4.1 r3.1) fun l5 => some (.inr (l5, IntKind.wrap .u8 (IntKind.wrap .i64 ((IntKind.wrap .i64 (8 + (o4.1.length : Int))).tdiv 8))))) else (bnd (app 1 o4.1 r3.1) fun l6 => some (.inr (l6, 0)))) : Option (((List Int) × Bool) ⊕ (List Int × Int)))) fun o5 => retOr o5 fun o6 => bnd ((bif decide ((i_p0.Multi.length : Int) > 2048) then (some true) else (some (decide ((IntKind.wrap .i64 ((IntKind.wrap .i64 (8 + (o6.1.length : Int))) + (i_p0.Multi.length : Int))) > 2048))) : Option Bool)) fun o7 => bif o7 then (some ([], false)) else (bif decide ((i_p0.Multi.length : Int) > 0) then (bnd (m_ref01_Seal8 ([1, 0, o2.2, o4.2, o6.2, IntKind.wrap .u8 (IntKind.wrap .i64 ((IntKind.wrap .i64 (8 + (o6.1.length : Int))).tdiv 8)), 0])) fun r4 => bnd (app 1 r4 o6.1) fun l7 => bnd (app 1 l7 i_p0.Multi) fun l8 => some (l8, true)) else (bnd (m_ref01_Seal8 ([1, 0, o2.2, o4.2, o6.2, 0, 0])) fun r5 => bnd (app 1 r5 o6.1) fun l9 => bnd (app 1 l9 i_p0.Multi) fun l10 => some (l10, true)))

set_option maxHeartbeats 4000000 in
theorem c_ref17_bytes {i_p0 : T_Info} {A1 : Option Addr} {c1 : Nat} {A2 : Option Addr} {c2 : Nat} {A3 : Option Addr} {c3 : Nat} {A4 : Option Addr} {c4 : Nat} {r : ((List Int) × Bool)} (h : m_ref17_bytes i_p0 = some r) :
  Fun Tryd.prog 36 [.agg (bx_T_Info i_p0 A1 c1 A2 c2 A3 c3 A4 c4).toArray] [.ro (SlL e_Field A1 c1 i_p0.Chassis.Fields), .ro (SlL e_Field A2 c2 i_p0.Board.Fields), .ro (SlL e_Field A3 c3 i_p0.Product.Fields), .ro (SlL eu8 A4 c4 i_p0.Multi)] (fun v_ F_ => ∃ (A1 : Option Addr) (c1 : Nat), v_ = .tuple #[.slice A1 r.1.length c1, .bool r.2] ∧ F_ = [.res (OwnL eu8 5 A1 c1 r.1)]) := by
 unfold m_ref17_bytes at h
 refine Fun.intro Tryd.func36 rfl rfl rfl fun w R => ?_
 refine St.seq ?_
 refine St.region ?_
 refine St.box rfl rfl fun g1 => ?_
 refine St.p rfl rfl ?_
 refine St.p rfl rfl ?_
 refine St.done ?_
 refine St.thenN ?_
 refine St.prune (Γ' := [(1, _)]) ⟨rfl, trivial⟩ (.k (.k (.k (.k (.k .z))))) ?_
 refine St.seq ?_
 refine St.region ?_
 refine St.p rfl rfl ?_
 refine St.loadB 0 rfl rfl (.head _) rfl rfl ?_
 refine St.p rfl rfl ?_
 refine St.loadB 4 rfl rfl (.head _) rfl rfl ?_
 refine St.p rfl rfl ?_
 refine St.loadB 8 rfl rfl (.head _) rfl rfl ?_
 refine St.p rfl rfl ?_
 refine St.alloc rfl rfl fun g2 => ?_
 refine St.store 0 rfl rfl rfl rfl rfl rfl .z rfl ?_
 refine St.done ?_
 refine St.thenN ?_
 refine St.prune (Γ' := [(1, _), (4, _)]) ⟨rfl, rfl, trivial⟩ (.k (.k (.k (.k (.k (.k .z)))))) ?_
 refine St.seq ?_
 refine St.region ?_
 refine St.buildSlice rfl rfl rfl rfl rfl rfl rfl rfl fun g3 => ?_
 refine St.p rfl rfl ?_
 refine St.done ?_
 refine St.thenN ?_
 refine St.prune (Γ' := [(1, _), (4, _), (5, _)]) ⟨rfl, rfl, rfl, trivial⟩ (.k (.k (.k (.k (.k (.k (.k .z))))))) ?_
 refine St.seq ?_
 refine St.region ?_
 refine St.p rfl rfl ?_
 refine St.done ?_
 refine St.thenN ?_
 refine St.seq ?_
 refine St.seq ?_
 refine St.region ?_
 refine St.p rfl rfl ?_
 refine St.done ?_
 refine St.thenN ?_
 refine St.block ?_
 refine St.rounds 9 ?_
 refine St.round ?_
 refine St.seq ?_
 refine St.seq ?_
 refine St.region ?_
 refine St.p rfl rfl ?_
 refine St.p rfl rfl ?_
 refine St.done ?_
 refine St.thenN ?_
 refine St.prune (Γ' := [(1, _), (4, _), (5, _), (6, _), (7, _), (19, _)]) ⟨rfl, rfl, rfl, rfl, rfl, rfl, trivial⟩ (.k (.k (.k (.k (.k (.k (.k .z))))))) ?_
 refine St.condT rfl ?_
 refine St.skip ?_
 refine St.thenN ?_
 refine St.prune (Γ' := [(1, _), (4, _), (5, _), (6, _), (7, _)]) ⟨rfl, rfl, rfl, rfl, rfl, trivial⟩ (.k (.k (.k (.k (.k (.k (.k .z))))))) ?_
 refine St.seq ?_
 obtain ⟨o1, hj1, h⟩ := bnd_e h
 refine St.cutI (fun (o2 : List Int × Int) (e1 : Option Addr × Nat) => [(1, .pointer (some ⟨g1, 0, none⟩)), (4, .pointer (some ⟨g2, 0, none⟩)), (5, .slice (some ⟨g3, 0, none⟩) 7 7), (6, .slice e1.1 o2.1.length e1.2), (7, .int .i64 0)]) (fun o2 e1 => .res (OwnL eu8 5 e1.1 e1.2 o2.1) :: .res (Box g3 5 [.int .u8 1, .int .u8 0, .int .u8 o2.2, .int .u8 0, .int .u8 0, .int .u8 0, .int .u8 0]) :: .res (Box g2 69 [.bool i_p0.Chassis.Present, .int .u8 i_p0.Chassis.Code, .int .u32 i_p0.Chassis.Minutes, .slice A1 i_p0.Chassis.Fields.length c1, .bool i_p0.Board.Present, .int .u8 i_p0.Board.Code, .int .u32 i_p0.Board.Minutes, .slice A2 i_p0.Board.Fields.length c2, .bool i_p0.Product.Present, .int .u8 i_p0.Product.Code, .int .u32 i_p0.Product.Minutes, .slice A3 i_p0.Product.Fields.length c3]) :: .res (Box g1 28 (bx_T_Info i_p0 A1 c1 A2 c2 A3 c3 A4 c4)) :: .ro (SlL e_Field A1 c1 i_p0.Chassis.Fields) :: .ro (SlL e_Field A2 c2 i_p0.Board.Fields) :: .ro (SlL e_Field A3 c3 i_p0.Product.Fields) :: .ro (SlL eu8 A4 c4 i_p0.Multi) :: R) (fun o2 => o1 = .inr o2) ?_ ?_
 ·refine St.block ?_
  refine St.seq ?_
  refine St.region ?_
  iterate 3 refine St.p rfl rfl ?_
  refine St.loadB 0 rfl rfl (.tail _ (.head _)) rfl rfl ?_
  obtain ⟨r1, hr1, hj1⟩ := bnd_e hj1
  refine St.call (c_ref17_area hr1) ent51 rfl rfl rfl (fun _ w => Sat.dup (G := [.ro (SlL e_Field A1 c1 i_p0.Chassis.Fields)]) rfl ⟨(.tail _ (.tail _ (.tail _ (.head _)))), trivial⟩ w) ?_
  rintro _ _ ⟨A6, c6, rfl, rfl⟩
  refine St.asrt (F' := .res (OwnL eu8 5 A6 c6 r1.1) :: .res (Box g3 5 [.int .u8 1, .int .u8 0, .int .u8 0, .int .u8 0, .int .u8 0, .int .u8 0, .int .u8 0]) :: .res (Box g2 69 [.bool i_p0.Chassis.Present, .int .u8 i_p0.Chassis.Code, .int .u32 i_p0.Chassis.Minutes, .slice A1 i_p0.Chassis.Fields.length c1, .bool i_p0.Board.Present, .int .u8 i_p0.Board.Code, .int .u32 i_p0.Board.Minutes, .slice A2 i_p0.Board.Fields.length c2, .bool i_p0.Product.Present, .int .u8 i_p0.Product.Code, .int .u32 i_p0.Product.Minutes, .slice A3 i_p0.Product.Fields.length c3]) :: .res (Box g1 28 (bx_T_Info i_p0 A1 c1 A2 c2 A3 c3 A4 c4)) :: .ro (SlL e_Field A1 c1 i_p0.Chassis.Fields) :: .ro (SlL e_Field A2 c2 i_p0.Board.Fields) :: .ro (SlL e_Field A3 c3 i_p0.Product.Fields) :: .ro (SlL eu8 A4 c4 i_p0.Multi) :: R) (fun _ w => w) ?_
  iterate 5 refine St.p rfl rfl ?_
  refine St.done ?_
  refine St.thenN ?_
  refine St.prune (Γ' := [(1, _), (4, _), (5, _), (6, _), (7, _), (8, _), (9, _)]) ⟨rfl, rfl, rfl, rfl, rfl, rfl, rfl, trivial⟩ (.k (.k (.k (.k (.k (.k (.k (.k .z)))))))) ?_
  refine St.seq ?_
  refine St.seq ?_
  refine St.region ?_
  refine St.p rfl rfl ?_
  refine St.p rfl rfl ?_
  refine St.done ?_
  refine St.thenN ?_
  refine St.prune (Γ' := [(1, _), (4, _), (5, _), (6, _), (7, _), (8, _), (31, _)]) ⟨rfl, rfl, rfl, rfl, rfl, rfl, rfl, trivial⟩ (.k (.k (.k (.k (.k (.k (.k (.k .z)))))))) ?_
  refine St.cond _ rfl (fun hb1 => ?_) (fun hb1 => ?_)
  ·replace hj1 := bif_t hb1 hj1
   refine St.seq ?_
   refine St.region ?_
   refine St.p rfl rfl ?_
   refine St.p rfl rfl ?_
   refine St.done ?_
   refine St.thenN ?_
   refine St.prune (Γ' := [(2, _), (3, _)]) ⟨rfl, rfl, trivial⟩ (.d (.d (.d (.d (.d (.d (.d (.d .z)))))))) ?_
   refine St.ret ?_
   repeat (first | refine St.thenR ?_ | refine St.blkR ?_)
   refine St.asrt (fun _ w => w.nilL eu8 5) ?_
   injection hj1 with hj1
   subst hj1
   have h : some _ = some _ := h
   injection h with h
   subst h
   exact St.finR Tryd.results36 (.tmp rfl (.tmp rfl .nil)) rfl [.res (OwnL eu8 5 none 0 ([] : List Int))] ⟨none, 0, rfl, rfl⟩ (fun _ w => ((.k .z) : Keep _ _).sat w)
  ·replace hj1 := bif_f hb1 hj1
   refine St.skip ?_
   refine St.thenN ?_
   refine St.prune (Γ' := [(1, _), (4, _), (5, _), (6, _), (7, _), (8, _)]) ⟨rfl, rfl, rfl, rfl, rfl, rfl, trivial⟩ (.k (.k (.k (.k (.k (.k (.k (.k .z)))))))) ?_
   refine St.seq ?_
   refine St.seq ?_
   refine St.region ?_
   iterate 3 refine St.p rfl rfl ?_
   refine St.done ?_
   refine St.thenN ?_
   refine St.prune (Γ' := [(1, _), (4, _), (5, _), (6, _), (7, _), (8, _), (34, _)]) ⟨rfl, rfl, rfl, rfl, rfl, rfl, rfl, trivial⟩ (.k (.k (.k (.k (.k (.k (.k (.k .z)))))))) ?_
   refine St.cond _ rfl (fun hb2 => ?_) (fun hb2 => ?_)
   ·replace hj1 := bif_t hb2 hj1
    refine St.region ?_
    iterate 8 refine St.p rfl rfl ?_
    refine St.ixB 2 rfl rfl rfl rfl rfl rfl rfl rfl rfl rfl ?_
    refine St.store 2 rfl rfl rfl rfl rfl rfl (.s .z) rfl ?_
    refine St.done ?_
    refine St.thenN ?_
    refine St.prune (Γ' := [(1, _), (4, _), (5, _), (6, _), (7, _), (8, _)]) ⟨rfl, rfl, rfl, rfl, rfl, rfl, trivial⟩ (.k (.k (.k (.k (.k (.k (.k (.k .z)))))))) ?_
    refine St.region ?_
    refine St.p rfl rfl ?_
    refine St.p rfl rfl ?_
    refine St.asrt (fun _ w => (w.front (.s .z)).meltL) ?_
    refine St.asrt (fun _ w => w.nilL eu8 5) ?_
    obtain ⟨l1, hl1, hj1⟩ := bnd_e hj1
    refine St.app (E := eu8) hl1 rfl rfl rfl .z rfl rfl rfl rfl rfl rfl rfl rfl (srcL (.tail _ (.head _))) rfl rfl fun A7 c7 => ?_
    refine St.p rfl rfl ?_
    refine St.done ?_
    refine St.blkN ?_
    injection hj1 with hj1
    subst hj1
    refine St.thenN ?_
    exact St.hereI (l1, IntKind.wrap .u8 (IntKind.wrap .i64 ((8 : Int).tdiv 8))) (A7, c7) rfl ⟨rfl, rfl, rfl, rfl, rfl, trivial⟩ (fun _ w => ((.k (.d (.k (.k (.k (.k (.k (.k (.k .z))))))))) : Keep _ _).sat w)
   ·replace hj1 := bif_f hb2 hj1
    refine St.skip ?_
    refine St.thenN ?_
    refine St.prune (Γ' := [(1, _), (4, _), (5, _), (6, _), (7, _), (8, _)]) ⟨rfl, rfl, rfl, rfl, rfl, rfl, trivial⟩ (.k (.k (.k (.k (.k (.k (.k (.k .z)))))))) ?_
    refine St.region ?_
    refine St.p rfl rfl ?_
    refine St.p rfl rfl ?_
    refine St.asrt (fun _ w => (w.front .z).meltL) ?_
    refine St.asrt (fun _ w => w.nilL eu8 5) ?_
    obtain ⟨l2, hl2, hj1⟩ := bnd_e hj1
    refine St.app (E := eu8) hl2 rfl rfl rfl .z rfl rfl rfl rfl rfl rfl rfl rfl (srcL (.tail _ (.head _))) rfl rfl fun A8 c8 => ?_
    refine St.p rfl rfl ?_
    refine St.done ?_
    refine St.blkN ?_
    injection hj1 with hj1
    subst hj1
    refine St.thenN ?_
    exact St.hereI (l2, 0) (A8, c8) rfl ⟨rfl, rfl, rfl, rfl, rfl, trivial⟩ (fun _ w => ((.k (.d (.k (.k (.k (.k (.k (.k (.k .z))))))))) : Keep _ _).sat w)
 ·rintro o2 ⟨A5, c5⟩ ho
  subst ho
  have h : _ = some _ := h
  refine St.region ?_
  iterate 3 refine St.p rfl rfl ?_
  refine St.done ?_
  refine St.thenN ?_
  refine St.round ?_
  refine St.prune (Γ' := [(1, _), (4, _), (5, _), (6, _), (7, _)]) ⟨rfl, rfl, rfl, rfl, rfl, trivial⟩ (.k (.k (.k (.k (.k (.k (.k (.k .z)))))))) ?_
  refine St.seq ?_
  refine St.seq ?_
  refine St.region ?_
  refine St.p rfl rfl ?_
  refine St.p rfl rfl ?_
  refine St.done ?_
  refine St.thenN ?_
  refine St.prune (Γ' := [(1, _), (4, _), (5, _), (6, _), (7, _), (19, _)]) ⟨rfl, rfl, rfl, rfl, rfl, rfl, trivial⟩ (.k (.k (.k (.k (.k (.k (.k (.k .z)))))))) ?_
  refine St.condT rfl ?_
  refine St.skip ?_
  refine St.thenN ?_
  refine St.prune (Γ' := [(1, _), (4, _), (5, _), (6, _), (7, _)]) ⟨rfl, rfl, rfl, rfl, rfl, trivial⟩ (.k (.k (.k (.k (.k (.k (.k (.k .z)))))))) ?_
  refine St.seq ?_
  obtain ⟨o3, hj2, h⟩ := bnd_e h
  refine St.cutI (fun (o4 : List Int × Int) (e2 : Option Addr × Nat) => [(1, .pointer (some ⟨g1, 0, none⟩)), (4, .pointer (some ⟨g2, 0, none⟩)), (5, .slice (some ⟨g3, 0, none⟩) 7 7), (6, .slice e2.1 o4.1.length e2.2), (7, .int .i64 1)]) (fun o4 e2 => .res (OwnL eu8 5 e2.1 e2.2 o4.1) :: .res (Box g3 5 [.int .u8 1, .int .u8 0, .int .u8 o2.2, .int .u8 o4.2, .int .u8 0, .int .u8 0, .int .u8 0]) :: .res (Box g2 69 [.bool i_p0.Chassis.Present, .int .u8 i_p0.Chassis.Code, .int .u32 i_p0.Chassis.Minutes, .slice A1 i_p0.Chassis.Fields.length c1, .bool i_p0.Board.Present, .int .u8 i_p0.Board.Code, .int .u32 i_p0.Board.Minutes, .slice A2 i_p0.Board.Fields.length c2, .bool i_p0.Product.Present, .int .u8 i_p0.Product.Code, .int .u32 i_p0.Product.Minutes, .slice A3 i_p0.Product.Fields.length c3]) :: .res (Box g1 28 (bx_T_Info i_p0 A1 c1 A2 c2 A3 c3 A4 c4)) :: .ro (SlL e_Field A1 c1 i_p0.Chassis.Fields) :: .ro (SlL e_Field A2 c2 i_p0.Board.Fields) :: .ro (SlL e_Field A3 c3 i_p0.Product.Fields) :: .ro (SlL eu8 A4 c4 i_p0.Multi) :: R) (fun o4 => o3 = .inr o4) ?_ ?_
  ·refine St.block ?_
   refine St.seq ?_
   refine St.region ?_
   iterate 3 refine St.p rfl rfl ?_
   refine St.loadB 4 rfl rfl (.tail _ (.tail _ (.head _))) rfl rfl ?_
   obtain ⟨r2, hr2, hj2⟩ := bnd_e hj2
   refine St.call (c_ref17_area hr2) ent51 rfl rfl rfl (fun _ w => Sat.dup (G := [.ro (SlL e_Field A2 c2 i_p0.Board.Fields)]) rfl ⟨(.tail _ (.tail _ (.tail _ (.tail _ (.tail _ (.head _)))))), trivial⟩ w) ?_
   rintro _ _ ⟨A10, c10, rfl, rfl⟩
   refine St.asrt (F' := .res (OwnL eu8 5 A10 c10 r2.1) :: .res (OwnL eu8 5 A5 c5 o2.1) :: .res (Box g3 5 [.int .u8 1, .int .u8 0, .int .u8 o2.2, .int .u8 0, .int .u8 0, .int .u8 0, .int .u8 0]) :: .res (Box g2 69 [.bool i_p0.Chassis.Present, .int .u8 i_p0.Chassis.Code, .int .u32 i_p0.Chassis.Minutes, .slice A1 i_p0.Chassis.Fields.length c1, .bool i_p0.Board.Present, .int .u8 i_p0.Board.Code, .int .u32 i_p0.Board.Minutes, .slice A2 i_p0.Board.Fields.length c2, .bool i_p0.Product.Present, .int .u8 i_p0.Product.Code, .int .u32 i_p0.Product.Minutes, .slice A3 i_p0.Product.Fields.length c3]) :: .res (Box g1 28 (bx_T_Info i_p0 A1 c1 A2 c2 A3 c3 A4 c4)) :: .ro (SlL e_Field A1 c1 i_p0.Chassis.Fields) :: .ro (SlL e_Field A2 c2 i_p0.Board.Fields) :: .ro (SlL e_Field A3 c3 i_p0.Product.Fields) :: .ro (SlL eu8 A4 c4 i_p0.Multi) :: R) (fun _ w => w) ?_
   iterate 5 refine St.p rfl rfl ?_
   refine St.done ?_
   refine St.thenN ?_
   refine St.prune (Γ' := [(1, _), (4, _), (5, _), (6, _), (7, _), (8, _), (9, _)]) ⟨rfl, rfl, rfl, rfl, rfl, rfl, rfl, trivial⟩ (.k (.k (.k (.k (.k (.k (.k (.k (.k .z))))))))) ?_
   refine St.seq ?_
   refine St.seq ?_
   refine St.region ?_
   refine St.p rfl rfl ?_
   refine St.p rfl rfl ?_
   refine St.done ?_
   refine St.thenN ?_
   refine St.prune (Γ' := [(1, _), (4, _), (5, _), (6, _), (7, _), (8, _), (31, _)]) ⟨rfl, rfl, rfl, rfl, rfl, rfl, rfl, trivial⟩ (.k (.k (.k (.k (.k (.k (.k (.k (.k .z))))))))) ?_
   refine St.cond _ rfl (fun hb3 => ?_) (fun hb3 => ?_)
   ·replace hj2 := bif_t hb3 hj2
    refine St.seq ?_
    refine St.region ?_
    refine St.p rfl rfl ?_
    refine St.p rfl rfl ?_
    refine St.done ?_
    refine St.thenN ?_
    refine St.prune (Γ' := [(2, _), (3, _)]) ⟨rfl, rfl, trivial⟩ (.d (.d (.d (.d (.d (.d (.d (.d (.d .z))))))))) ?_
    refine St.ret ?_
    repeat (first | refine St.thenR ?_ | refine St.blkR ?_)
    refine St.asrt (fun _ w => w.nilL eu8 5) ?_
    injection hj2 with hj2
    subst hj2
    have h : some _ = some _ := h
    injection h with h
    subst h
    exact St.finR Tryd.results36 (.tmp rfl (.tmp rfl .nil)) rfl [.res (OwnL eu8 5 none 0 ([] : List Int))] ⟨none, 0, rfl, rfl⟩ (fun _ w => ((.k .z) : Keep _ _).sat w)
   ·replace hj2 := bif_f hb3 hj2
    refine St.skip ?_
    refine St.thenN ?_
    refine St.prune (Γ' := [(1, _), (4, _), (5, _), (6, _), (7, _), (8, _)]) ⟨rfl, rfl, rfl, rfl, rfl, rfl, trivial⟩ (.k (.k (.k (.k (.k (.k (.k (.k (.k .z))))))))) ?_
    refine St.seq ?_
    refine St.seq ?_
    refine St.region ?_
    iterate 3 refine St.p rfl rfl ?_
    refine St.done ?_
    refine St.thenN ?_
    refine St.prune (Γ' := [(1, _), (4, _), (5, _), (6, _), (7, _), (8, _), (34, _)]) ⟨rfl, rfl, rfl, rfl, rfl, rfl, rfl, trivial⟩ (.k (.k (.k (.k (.k (.k (.k (.k (.k .z))))))))) ?_
    refine St.cond _ rfl (fun hb4 => ?_) (fun hb4 => ?_)
    ·replace hj2 := bif_t hb4 hj2
     refine St.region ?_
     iterate 8 refine St.p rfl rfl ?_
     refine St.ixB 3 rfl rfl rfl rfl rfl rfl rfl rfl rfl rfl ?_
     refine St.store 3 rfl rfl rfl rfl rfl rfl (.s (.s .z)) rfl ?_
     refine St.done ?_
     refine St.thenN ?_
     refine St.prune (Γ' := [(1, _), (4, _), (5, _), (6, _), (7, _), (8, _)]) ⟨rfl, rfl, rfl, rfl, rfl, rfl, trivial⟩ (.k (.k (.k (.k (.k (.k (.k (.k (.k .z))))))))) ?_
     refine St.region ?_
     refine St.p rfl rfl ?_
     refine St.p rfl rfl ?_
     refine St.asrt (fun _ w => (w.front (.s .z)).meltL) ?_
     obtain ⟨l3, hl3, hj2⟩ := bnd_e hj2
     refine St.app (E := eu8) hl3 rfl rfl rfl (.s (.s .z)) rfl rfl rfl rfl rfl rfl rfl rfl (srcL (.head _)) rfl rfl fun A11 c11 => ?_
     refine St.p rfl rfl ?_
     refine St.done ?_
     refine St.blkN ?_
     injection hj2 with hj2
     subst hj2
     refine St.thenN ?_
     exact St.hereI (l3, IntKind.wrap .u8 (IntKind.wrap .i64 ((IntKind.wrap .i64 (8 + (o2.1.length : Int))).tdiv 8))) (A11, c11) rfl ⟨rfl, rfl, rfl, rfl, rfl, trivial⟩ (fun _ w => ((.k (.d (.k (.k (.k (.k (.k (.k (.k .z))))))))) : Keep _ _).sat w)
    ·replace hj2 := bif_f hb4 hj2
     refine St.skip ?_
     refine St.thenN ?_
     refine St.prune (Γ' := [(1, _), (4, _), (5, _), (6, _), (7, _), (8, _)]) ⟨rfl, rfl, rfl, rfl, rfl, rfl, trivial⟩ (.k (.k (.k (.k (.k (.k (.k (.k (.k .z))))))))) ?_
     refine St.region ?_
     refine St.p rfl rfl ?_
     refine St.p rfl rfl ?_
     refine St.asrt (fun _ w => (w.front .z).meltL) ?_
     obtain ⟨l4, hl4, hj2⟩ := bnd_e hj2
     refine St.app (E := eu8) hl4 rfl rfl rfl (.s .z) rfl rfl rfl rfl rfl rfl rfl rfl (srcL (.head _)) rfl rfl fun A12 c12 => ?_
     refine St.p rfl rfl ?_
     refine St.done ?_
     refine St.blkN ?_
     injection hj2 with hj2
     subst hj2
     refine St.thenN ?_
     exact St.hereI (l4, 0) (A12, c12) rfl ⟨rfl, rfl, rfl, rfl, rfl, trivial⟩ (fun _ w => ((.k (.d (.k (.k (.k (.k (.k (.k (.k .z))))))))) : Keep _ _).sat w)
  ·rintro o4 ⟨A9, c9⟩ ho
   subst ho
   have h : _ = some _ := h
   refine St.region ?_
   iterate 3 refine St.p rfl rfl ?_
   refine St.done ?_
   refine St.thenN ?_
   refine St.round ?_
   refine St.prune (Γ' := [(1, _), (4, _), (5, _), (6, _), (7, _)]) ⟨rfl, rfl, rfl, rfl, rfl, trivial⟩ (.k (.k (.k (.k (.k (.k (.k (.k .z)))))))) ?_
   refine St.seq ?_
   refine St.seq ?_
   refine St.region ?_
   refine St.p rfl rfl ?_
   refine St.p rfl rfl ?_
   refine St.done ?_
   refine St.thenN ?_
   refine St.prune (Γ' := [(1, _), (4, _), (5, _), (6, _), (7, _), (19, _)]) ⟨rfl, rfl, rfl, rfl, rfl, rfl, trivial⟩ (.k (.k (.k (.k (.k (.k (.k (.k .z)))))))) ?_
   refine St.condT rfl ?_
   refine St.skip ?_
   refine St.thenN ?_
   refine St.prune (Γ' := [(1, _), (4, _), (5, _), (6, _), (7, _)]) ⟨rfl, rfl, rfl, rfl, rfl, trivial⟩ (.k (.k (.k (.k (.k (.k (.k (.k .z)))))))) ?_
   refine St.seq ?_
   obtain ⟨o5, hj3, h⟩ := bnd_e h
   refine St.cutI (fun (o6 : List Int × Int) (e3 : Option Addr × Nat) => [(1, .pointer (some ⟨g1, 0, none⟩)), (4, .pointer (some ⟨g2, 0, none⟩)), (5, .slice (some ⟨g3, 0, none⟩) 7 7), (6, .slice e3.1 o6.1.length e3.2), (7, .int .i64 2)]) (fun o6 e3 => .res (OwnL eu8 5 e3.1 e3.2 o6.1) :: .res (Box g3 5 [.int .u8 1, .int .u8 0, .int .u8 o2.2, .int .u8 o4.2, .int .u8 o6.2, .int .u8 0, .int .u8 0]) :: .res (Box g2 69 [.bool i_p0.Chassis.Present, .int .u8 i_p0.Chassis.Code, .int .u32 i_p0.Chassis.Minutes, .slice A1 i_p0.Chassis.Fields.length c1, .bool i_p0.Board.Present, .int .u8 i_p0.Board.Code, .int .u32 i_p0.Board.Minutes, .slice A2 i_p0.Board.Fields.length c2, .bool i_p0.Product.Present, .int .u8 i_p0.Product.Code, .int .u32 i_p0.Product.Minutes, .slice A3 i_p0.Product.Fields.length c3]) :: .res (Box g1 28 (bx_T_Info i_p0 A1 c1 A2 c2 A3 c3 A4 c4)) :: .ro (SlL e_Field A1 c1 i_p0.Chassis.Fields) :: .ro (SlL e_Field A2 c2 i_p0.Board.Fields) :: .ro (SlL e_Field A3 c3 i_p0.Product.Fields) :: .ro (SlL eu8 A4 c4 i_p0.Multi) :: R) (fun o6 => o5 = .inr o6) ?_ ?_
   ·refine St.block ?_
    refine St.seq ?_
    refine St.region ?_
    iterate 3 refine St.p rfl rfl ?_
    refine St.loadB 8 rfl rfl (.tail _ (.tail _ (.head _))) rfl rfl ?_
    obtain ⟨r3, hr3, hj3⟩ := bnd_e hj3
    refine St.call (c_ref17_area hr3) ent51 rfl rfl rfl (fun _ w => Sat.dup (G := [.ro (SlL e_Field A3 c3 i_p0.Product.Fields)]) rfl ⟨(.tail _ (.tail _ (.tail _ (.tail _ (.tail _ (.tail _ (.head _))))))), trivial⟩ w) ?_
    rintro _ _ ⟨A14, c14, rfl, rfl⟩
    refine St.asrt (F' := .res (OwnL eu8 5 A14 c14 r3.1) :: .res (OwnL eu8 5 A9 c9 o4.1) :: .res (Box g3 5 [.int .u8 1, .int .u8 0, .int .u8 o2.2, .int .u8 o4.2, .int .u8 0, .int .u8 0, .int .u8 0]) :: .res (Box g2 69 [.bool i_p0.Chassis.Present, .int .u8 i_p0.Chassis.Code, .int .u32 i_p0.Chassis.Minutes, .slice A1 i_p0.Chassis.Fields.length c1, .bool i_p0.Board.Present, .int .u8 i_p0.Board.Code, .int .u32 i_p0.Board.Minutes, .slice A2 i_p0.Board.Fields.length c2, .bool i_p0.Product.Present, .int .u8 i_p0.Product.Code, .int .u32 i_p0.Product.Minutes, .slice A3 i_p0.Product.Fields.length c3]) :: .res (Box g1 28 (bx_T_Info i_p0 A1 c1 A2 c2 A3 c3 A4 c4)) :: .ro (SlL e_Field A1 c1 i_p0.Chassis.Fields) :: .ro (SlL e_Field A2 c2 i_p0.Board.Fields) :: .ro (SlL e_Field A3 c3 i_p0.Product.Fields) :: .ro (SlL eu8 A4 c4 i_p0.Multi) :: R) (fun _ w => w) ?_
    iterate 5 refine St.p rfl rfl ?_
    refine St.done ?_
    refine St.thenN ?_
    refine St.prune (Γ' := [(1, _), (4, _), (5, _), (6, _), (7, _), (8, _), (9, _)]) ⟨rfl, rfl, rfl, rfl, rfl, rfl, rfl, trivial⟩ (.k (.k (.k (.k (.k (.k (.k (.k (.k .z))))))))) ?_
    refine St.seq ?_
    refine St.seq ?_
    refine St.region ?_
    refine St.p rfl rfl ?_
    refine St.p rfl rfl ?_
    refine St.done ?_
    refine St.thenN ?_
    refine St.prune (Γ' := [(1, _), (4, _), (5, _), (6, _), (7, _), (8, _), (31, _)]) ⟨rfl, rfl, rfl, rfl, rfl, rfl, rfl, trivial⟩ (.k (.k (.k (.k (.k (.k (.k (.k (.k .z))))))))) ?_
    refine St.cond _ rfl (fun hb5 => ?_) (fun hb5 => ?_)
    ·replace hj3 := bif_t hb5 hj3
     refine St.seq ?_
     refine St.region ?_
     refine St.p rfl rfl ?_
     refine St.p rfl rfl ?_
     refine St.done ?_
     refine St.thenN ?_
     refine St.prune (Γ' := [(2, _), (3, _)]) ⟨rfl, rfl, trivial⟩ (.d (.d (.d (.d (.d (.d (.d (.d (.d .z))))))))) ?_
     refine St.ret ?_
     repeat (first | refine St.thenR ?_ | refine St.blkR ?_)
     refine St.asrt (fun _ w => w.nilL eu8 5) ?_
     injection hj3 with hj3
     subst hj3
     have h : some _ = some _ := h
     injection h with h
     subst h
     exact St.finR Tryd.results36 (.tmp rfl (.tmp rfl .nil)) rfl [.res (OwnL eu8 5 none 0 ([] : List Int))] ⟨none, 0, rfl, rfl⟩ (fun _ w => ((.k .z) : Keep _ _).sat w)
    ·replace hj3 := bif_f hb5 hj3
     refine St.skip ?_
     refine St.thenN ?_
     refine St.prune (Γ' := [(1, _), (4, _), (5, _), (6, _), (7, _), (8, _)]) ⟨rfl, rfl, rfl, rfl, rfl, rfl, trivial⟩ (.k (.k (.k (.k (.k (.k (.k (.k (.k .z))))))))) ?_
     refine St.seq ?_
     refine St.seq ?_
     refine St.region ?_
     iterate 3 refine St.p rfl rfl ?_
     refine St.done ?_
     refine St.thenN ?_
     refine St.prune (Γ' := [(1, _), (4, _), (5, _), (6, _), (7, _), (8, _), (34, _)]) ⟨rfl, rfl, rfl, rfl, rfl, rfl, rfl, trivial⟩ (.k (.k (.k (.k (.k (.k (.k (.k (.k .z))))))))) ?_
     refine St.cond _ rfl (fun hb6 => ?_) (fun hb6 => ?_)
     ·replace hj3 := bif_t hb6 hj3
      refine St.region ?_
      iterate 8 refine St.p rfl rfl ?_
      refine St.ixB 4 rfl rfl rfl rfl rfl rfl rfl rfl rfl rfl ?_
      refine St.store 4 rfl rfl rfl rfl rfl rfl (.s (.s .z)) rfl ?_
      refine St.done ?_
      refine St.thenN ?_
      refine St.prune (Γ' := [(1, _), (4, _), (5, _), (6, _), (7, _), (8, _)]) ⟨rfl, rfl, rfl, rfl, rfl, rfl, trivial⟩ (.k (.k (.k (.k (.k (.k (.k (.k (.k .z))))))))) ?_
      refine St.region ?_
      refine St.p rfl rfl ?_
      refine St.p rfl rfl ?_
      refine St.asrt (fun _ w => (w.front (.s .z)).meltL) ?_
      obtain ⟨l5, hl5, hj3⟩ := bnd_e hj3
      refine St.app (E := eu8) hl5 rfl rfl rfl (.s (.s .z)) rfl rfl rfl rfl rfl rfl rfl rfl (srcL (.head _)) rfl rfl fun A15 c15 => ?_
      refine St.p rfl rfl ?_
      refine St.done ?_
      refine St.blkN ?_
      injection hj3 with hj3
      subst hj3
      refine St.thenN ?_
      exact St.hereI (l5, IntKind.wrap .u8 (IntKind.wrap .i64 ((IntKind.wrap .i64 (8 + (o4.1.length : Int))).tdiv 8))) (A15, c15) rfl ⟨rfl, rfl, rfl, rfl, rfl, trivial⟩ (fun _ w => ((.k (.d (.k (.k (.k (.k (.k (.k (.k .z))))))))) : Keep _ _).sat w)
     ·replace hj3 := bif_f hb6 hj3
      refine St.skip ?_
      refine St.thenN ?_
      refine St.prune (Γ' := [(1, _), (4, _), (5, _), (6, _), (7, _), (8, _)]) ⟨rfl, rfl, rfl, rfl, rfl, rfl, trivial⟩ (.k (.k (.k (.k (.k (.k (.k (.k (.k .z))))))))) ?_
      refine St.region ?_
      refine St.p rfl rfl ?_
      refine St.p rfl rfl ?_
      refine St.asrt (fun _ w => (w.front .z).meltL) ?_
      obtain ⟨l6, hl6, hj3⟩ := bnd_e hj3
      refine St.app (E := eu8) hl6 rfl rfl rfl (.s .z) rfl rfl rfl rfl rfl rfl rfl rfl (srcL (.head _)) rfl rfl fun A16 c16 => ?_
      refine St.p rfl rfl ?_
      refine St.done ?_
      refine St.blkN ?_
      injection hj3 with hj3
      subst hj3
      refine St.thenN ?_
      exact St.hereI (l6, 0) (A16, c16) rfl ⟨rfl, rfl, rfl, rfl, rfl, trivial⟩ (fun _ w => ((.k (.d (.k (.k (.k (.k (.k (.k (.k .z))))))))) : Keep _ _).sat w)
   ·rintro o6 ⟨A13, c13⟩ ho
    subst ho
    have h : _ = some _ := h
    refine St.region ?_
    iterate 3 refine St.p rfl rfl ?_
    refine St.done ?_
    refine St.thenN ?_
    refine St.round ?_
    refine St.prune (Γ' := [(1, _), (4, _), (5, _), (6, _), (7, _)]) ⟨rfl, rfl, rfl, rfl, rfl, trivial⟩ (.k (.k (.k (.k (.k (.k (.k (.k .z)))))))) ?_
    refine St.seq ?_
    refine St.seq ?_
    refine St.region ?_
    refine St.p rfl rfl ?_
    refine St.p rfl rfl ?_
    refine St.done ?_
    refine St.thenN ?_
    refine St.prune (Γ' := [(1, _), (4, _), (5, _), (6, _), (7, _), (19, _)]) ⟨rfl, rfl, rfl, rfl, rfl, rfl, trivial⟩ (.k (.k (.k (.k (.k (.k (.k (.k .z)))))))) ?_
    refine St.condF rfl ?_
    refine St.exit ?_
    repeat (first | refine St.thenX ?_ | refine St.blkMiss rfl ?_)
    refine St.blkHit ?_
    refine St.thenN ?_
    refine St.prune (Γ' := [(1, _), (5, _), (6, _)]) ⟨rfl, rfl, rfl, trivial⟩ (.k (.k (.d (.k (.k (.k (.k (.k .z)))))))) ?_
    refine St.seq ?_
    refine St.seq ?_
    obtain ⟨o7, hj4, h⟩ := bnd_e h
    refine St.cutE (fun (e4 : Unit) => [(1, .pointer (some ⟨g1, 0, none⟩)), (5, .slice (some ⟨g3, 0, none⟩) 7 7), (6, .slice A13 o6.1.length c13), (60, .bool o7)]) (fun e4 => .res (OwnL eu8 5 A13 c13 o6.1) :: .res (Box g3 5 [.int .u8 1, .int .u8 0, .int .u8 o2.2, .int .u8 o4.2, .int .u8 o6.2, .int .u8 0, .int .u8 0]) :: .res (Box g1 28 (bx_T_Info i_p0 A1 c1 A2 c2 A3 c3 A4 c4)) :: .ro (SlL e_Field A1 c1 i_p0.Chassis.Fields) :: .ro (SlL e_Field A2 c2 i_p0.Board.Fields) :: .ro (SlL e_Field A3 c3 i_p0.Product.Fields) :: .ro (SlL eu8 A4 c4 i_p0.Multi) :: R) ?_ ?_
    ·refine St.region ?_
     refine St.p rfl rfl ?_
     refine St.loadB 12 rfl rfl (.tail _ (.tail _ (.head _))) rfl rfl ?_
     iterate 3 refine St.p rfl rfl ?_
     refine St.gSplit (dj := 51) _ rfl (fun hb7 => ?_) (fun hb7 => ?_)
     ·replace hj4 := bif_t hb7 hj4
      refine St.gOff (dj := 51) rfl rfl rfl rfl ?_
      refine St.gOff (dj := 51) rfl rfl rfl rfl ?_
      refine St.gOff (dj := 51) rfl rfl rfl rfl ?_
      refine St.gOff (dj := 51) rfl rfl rfl rfl ?_
      refine St.gOff (dj := 51) rfl rfl rfl rfl ?_
      refine St.gOff (dj := 51) rfl rfl rfl rfl ?_
      refine St.gOff (dj := 51) rfl rfl rfl rfl ?_
      refine St.gOff (dj := 51) rfl rfl rfl rfl ?_
      refine St.p rfl rfl ?_
      refine St.done ?_
      injection hj4 with hj4
      subst hj4
      refine St.thenN ?_
      exact St.hereE () ⟨rfl, rfl, rfl, rfl, trivial⟩ (fun _ w => ((.k (.k (.k (.k (.k (.k (.k .z))))))) : Keep _ _).sat w)
     ·replace hj4 := bif_f hb7 hj4
      refine St.gOn (dj := 51) rfl rfl ?_
      refine St.p rfl rfl ?_
      refine St.gOn (dj := 51) rfl rfl ?_
      refine St.p rfl rfl ?_
      refine St.gOn (dj := 51) rfl rfl ?_
      refine St.p rfl rfl ?_
      refine St.gOn (dj := 51) rfl rfl ?_
      refine St.p rfl rfl ?_
      refine St.gOn (dj := 51) rfl rfl ?_
      refine St.loadB 12 rfl rfl (.tail _ (.tail _ (.head _))) rfl rfl ?_
      refine St.gOn (dj := 51) rfl rfl ?_
      refine St.p rfl rfl ?_
      refine St.gOn (dj := 51) rfl rfl ?_
      refine St.p rfl rfl ?_
      refine St.gOn (dj := 51) rfl rfl ?_
      refine St.p rfl rfl ?_
      refine St.p rfl rfl ?_
      refine St.done ?_
      injection hj4 with hj4
      subst hj4
      refine St.thenN ?_
      exact St.hereE () ⟨rfl, rfl, rfl, rfl, trivial⟩ (fun _ w => ((.k (.k (.k (.k (.k (.k (.k .z))))))) : Keep _ _).sat w)
    ·rintro e4
     refine St.cond _ rfl (fun hb8 => ?_) (fun hb8 => ?_)
     ·replace h := bif_t hb8 h
      refine St.seq ?_
      refine St.region ?_
      refine St.p rfl rfl ?_
      refine St.p rfl rfl ?_
      refine St.done ?_
      refine St.thenN ?_
      refine St.prune (Γ' := [(2, _), (3, _)]) ⟨rfl, rfl, trivial⟩ (.d (.d (.d (.d (.d (.d (.d .z))))))) ?_
      refine St.ret ?_
      repeat (first | refine St.thenR ?_ | refine St.blkR ?_)
      refine St.asrt (fun _ w => w.nilL eu8 5) ?_
      injection h with h
      subst h
      exact St.finR Tryd.results36 (.tmp rfl (.tmp rfl .nil)) rfl [.res (OwnL eu8 5 none 0 ([] : List Int))] ⟨none, 0, rfl, rfl⟩ (fun _ w => ((.k .z) : Keep _ _).sat w)
     ·replace h := bif_f hb8 h
      refine St.skip ?_
      refine St.thenN ?_
      refine St.prune (Γ' := [(1, _), (5, _), (6, _)]) ⟨rfl, rfl, rfl, trivial⟩ (.k (.k (.k (.k (.k (.k (.k .z))))))) ?_
      refine St.seq ?_
      refine St.seq ?_
      refine St.region ?_
      refine St.p rfl rfl ?_
      refine St.loadB 12 rfl rfl (.tail _ (.tail _ (.head _))) rfl rfl ?_
      refine St.p rfl rfl ?_
      refine St.p rfl rfl ?_
      refine St.done ?_
      refine St.thenN ?_
      refine St.prune (Γ' := [(1, _), (5, _), (6, _), (64, _)]) ⟨rfl, rfl, rfl, rfl, trivial⟩ (.k (.k (.k (.k (.k (.k (.k .z))))))) ?_
      refine St.cond _ rfl (fun hb9 => ?_) (fun hb9 => ?_)
      ·replace h := bif_t hb9 h
       refine St.region ?_
       iterate 6 refine St.p rfl rfl ?_
       refine St.ixB 5 rfl rfl rfl rfl rfl rfl rfl rfl rfl rfl ?_
       refine St.store 5 rfl rfl rfl rfl rfl rfl (.s .z) rfl ?_
       refine St.done ?_
       refine St.thenN ?_
       refine St.prune (Γ' := [(1, _), (5, _), (6, _)]) ⟨rfl, rfl, rfl, trivial⟩ (.k (.k (.k (.k (.k (.k (.k .z))))))) ?_
       refine St.seq ?_
       refine St.regionX (iL [(.fl, 0), (.fl, 2), (.fl, 4), (.fl, 5), (.ef, 1), (.ef, 3), (.ef, 6), (.fl, 7), (.fl, 8)] .nil) (.res (Box g1 28 (bx_T_Info i_p0 A1 c1 A2 c2 A3 c3 A4 c4)) :: .ro (SlL e_Field A1 c1 i_p0.Chassis.Fields) :: .ro (SlL e_Field A2 c2 i_p0.Board.Fields) :: .ro (SlL e_Field A3 c3 i_p0.Product.Fields) :: .ro (SlL eu8 A4 c4 i_p0.Multi) :: R) mixed (by kernel_rfl) (fun _ w => ((.d (.d (.k (.k (.k (.k (.k .z))))))) : Keep _ _).sat w) ?_
       refine St.xfl (fun _ h => h) (Rd.p rfl) rfl ?_
       refine St.xfl (fun _ h => h) (Rd.p rfl) rfl ?_
       refine St.xfl (fun _ h => h) (Rd.p rfl) rfl ?_
       refine St.xfl (fun _ h => h) (Rd.loadB 12 rfl (.head _) rfl rfl) rfl ?_
       refine St.xef ?_
       refine St.asrt (fun _ w => (w.front .z).litL (E := eu8) (e := 5) [1, 0, o2.2, o4.2, o6.2, IntKind.wrap .u8 (IntKind.wrap .i64 ((IntKind.wrap .i64 (8 + (o6.1.length : Int))).tdiv 8)), 0] rfl rfl) ?_
       refine St.asrt (fun _ w => (w.front .z).meltL) ?_
       obtain ⟨r4, hr4, h⟩ := bnd_e h
       refine St.call (c_ref01_Seal8 hr4) ent52 rfl rfl rfl (fun _ w => Sat.dup (G := [.ro (SlL eu8 (some ⟨g3, 0, none⟩) ([1, 0, o2.2, o4.2, o6.2, IntKind.wrap .u8 (IntKind.wrap .i64 ((IntKind.wrap .i64 (8 + (o6.1.length : Int))).tdiv 8)), 0] : List Int).length ([1, 0, o2.2, o4.2, o6.2, IntKind.wrap .u8 (IntKind.wrap .i64 ((IntKind.wrap .i64 (8 + (o6.1.length : Int))).tdiv 8)), 0]))]) rfl ⟨(.head _), trivial⟩ w) ?_
       rintro _ _ ⟨A17, c17, rfl, rfl⟩
       refine St.asrt (F' := .res (OwnL eu8 5 A17 c17 r4) :: .ro (SlL eu8 (some ⟨g3, 0, none⟩) ([1, 0, o2.2, o4.2, o6.2, IntKind.wrap .u8 (IntKind.wrap .i64 ((IntKind.wrap .i64 (8 + (o6.1.length : Int))).tdiv 8)), 0] : List Int).length ([1, 0, o2.2, o4.2, o6.2, IntKind.wrap .u8 (IntKind.wrap .i64 ((IntKind.wrap .i64 (8 + (o6.1.length : Int))).tdiv 8)), 0])) :: .res (OwnL eu8 5 A13 c13 o6.1) :: .res (Box g1 28 (bx_T_Info i_p0 A1 c1 A2 c2 A3 c3 A4 c4)) :: .ro (SlL e_Field A1 c1 i_p0.Chassis.Fields) :: .ro (SlL e_Field A2 c2 i_p0.Board.Fields) :: .ro (SlL e_Field A3 c3 i_p0.Product.Fields) :: .ro (SlL eu8 A4 c4 i_p0.Multi) :: R) (fun _ w => w) ?_
       refine St.xk (fun _ w => ((.d (.d (.d (.k (.k (.k (.k (.k .z)))))))) : Keep _ _).sat w) ?_
       refine St.xef ?_
       refine St.asrt (fun _ w => (w.front (.s (.s .z))).meltL) ?_
       obtain ⟨l7, hl7, h⟩ := bnd_e h
       refine St.app (E := eu8) hl7 rfl rfl rfl (.s .z) rfl rfl rfl rfl rfl rfl rfl rfl (srcL (.head _)) rfl rfl fun A18 c18 => ?_
       refine St.xk (fun _ w => ((.d (.d (.d (.k (.k (.k (.k (.k .z)))))))) : Keep _ _).sat w) ?_
       refine St.xef ?_
       obtain ⟨l8, hl8, h⟩ := bnd_e h
       refine St.app (E := eu8) hl8 rfl rfl rfl .z rfl rfl rfl rfl rfl rfl rfl rfl (srcL (.tail _ (.tail _ (.tail _ (.tail _ (.tail _ (.tail _ (.tail _ (.head _))))))))) rfl rfl fun A19 c19 => ?_
       refine St.xk (fun _ w => ((.d (.d (.d (.k (.k (.k (.k (.k .z)))))))) : Keep _ _).sat w) ?_
       refine St.xfl (fun _ h => h) (Rd.p rfl) rfl ?_
       refine St.xfl (fun _ h => h) (Rd.p rfl) rfl ?_
       refine St.xdone ?_
       refine St.thenN ?_
       refine St.prune (Γ' := [(2, _), (3, _)]) ⟨rfl, rfl, trivial⟩ (.k (.d (.d (.d (.d (.d (.d (.d .z)))))))) ?_
       refine St.ret ?_
       repeat (first | refine St.thenR ?_ | refine St.blkR ?_)
       injection h with h
       subst h
       exact St.finR Tryd.results36 (.tmp rfl (.tmp rfl .nil)) rfl [.res (OwnL eu8 5 A19 c19 l8)] ⟨A19, c19, rfl, rfl⟩ (fun _ w => ((.k .z) : Keep _ _).sat w)
      ·replace h := bif_f hb9 h
       refine St.skip ?_
       refine St.thenN ?_
       refine St.prune (Γ' := [(1, _), (5, _), (6, _)]) ⟨rfl, rfl, rfl, trivial⟩ (.k (.k (.k (.k (.k (.k (.k .z))))))) ?_
       refine St.seq ?_
       refine St.regionX (iL [(.fl, 0), (.fl, 2), (.fl, 4), (.fl, 5), (.ef, 1), (.ef, 3), (.ef, 6), (.fl, 7), (.fl, 8)] .nil) (.res (Box g1 28 (bx_T_Info i_p0 A1 c1 A2 c2 A3 c3 A4 c4)) :: .ro (SlL e_Field A1 c1 i_p0.Chassis.Fields) :: .ro (SlL e_Field A2 c2 i_p0.Board.Fields) :: .ro (SlL e_Field A3 c3 i_p0.Product.Fields) :: .ro (SlL eu8 A4 c4 i_p0.Multi) :: R) mixed (by kernel_rfl) (fun _ w => ((.d (.d (.k (.k (.k (.k (.k .z))))))) : Keep _ _).sat w) ?_
       refine St.xfl (fun _ h => h) (Rd.p rfl) rfl ?_
       refine St.xfl (fun _ h => h) (Rd.p rfl) rfl ?_
       refine St.xfl (fun _ h => h) (Rd.p rfl) rfl ?_
       refine St.xfl (fun _ h => h) (Rd.loadB 12 rfl (.head _) rfl rfl) rfl ?_
       refine St.xef ?_
       refine St.asrt (fun _ w => (w.front (.s .z)).litL (E := eu8) (e := 5) [1, 0, o2.2, o4.2, o6.2, 0, 0] rfl rfl) ?_
       refine St.asrt (fun _ w => (w.front .z).meltL) ?_
       obtain ⟨r5, hr5, h⟩ := bnd_e h
       refine St.call (c_ref01_Seal8 hr5) ent52 rfl rfl rfl (fun _ w => Sat.dup (G := [.ro (SlL eu8 (some ⟨g3, 0, none⟩) ([1, 0, o2.2, o4.2, o6.2, 0, 0] : List Int).length ([1, 0, o2.2, o4.2, o6.2, 0, 0]))]) rfl ⟨(.head _), trivial⟩ w) ?_
       rintro _ _ ⟨A20, c20, rfl, rfl⟩
       refine St.asrt (F' := .res (OwnL eu8 5 A20 c20 r5) :: .ro (SlL eu8 (some ⟨g3, 0, none⟩) ([1, 0, o2.2, o4.2, o6.2, 0, 0] : List Int).length ([1, 0, o2.2, o4.2, o6.2, 0, 0])) :: .res (OwnL eu8 5 A13 c13 o6.1) :: .res (Box g1 28 (bx_T_Info i_p0 A1 c1 A2 c2 A3 c3 A4 c4)) :: .ro (SlL e_Field A1 c1 i_p0.Chassis.Fields) :: .ro (SlL e_Field A2 c2 i_p0.Board.Fields) :: .ro (SlL e_Field A3 c3 i_p0.Product.Fields) :: .ro (SlL eu8 A4 c4 i_p0.Multi) :: R) (fun _ w => w) ?_
       refine St.xk (fun _ w => ((.d (.d (.d (.k (.k (.k (.k (.k .z)))))))) : Keep _ _).sat w) ?_
       refine St.xef ?_
       refine St.asrt (fun _ w => (w.front (.s (.s .z))).meltL) ?_
       obtain ⟨l9, hl9, h⟩ := bnd_e h
       refine St.app (E := eu8) hl9 rfl rfl rfl (.s .z) rfl rfl rfl rfl rfl rfl rfl rfl (srcL (.head _)) rfl rfl fun A21 c21 => ?_
       refine St.xk (fun _ w => ((.d (.d (.d (.k (.k (.k (.k (.k .z)))))))) : Keep _ _).sat w) ?_
       refine St.xef ?_
       obtain ⟨l10, hl10, h⟩ := bnd_e h
       refine St.app (E := eu8) hl10 rfl rfl rfl .z rfl rfl rfl rfl rfl rfl rfl rfl (srcL (.tail _ (.tail _ (.tail _ (.tail _ (.tail _ (.tail _ (.tail _ (.head _))))))))) rfl rfl fun A22 c22 => ?_
       refine St.xk (fun _ w => ((.d (.d (.d (.k (.k (.k (.k (.k .z)))))))) : Keep _ _).sat w) ?_
       refine St.xfl (fun _ h => h) (Rd.p rfl) rfl ?_
       refine St.xfl (fun _ h => h) (Rd.p rfl) rfl ?_
       refine St.xdone ?_
       refine St.thenN ?_
       refine St.prune (Γ' := [(2, _), (3, _)]) ⟨rfl, rfl, trivial⟩ (.k (.d (.d (.d (.d (.d (.d (.d .z)))))))) ?_
       refine St.ret ?_
       repeat (first | refine St.thenR ?_ | refine St.blkR ?_)
       injection h with h
       subst h
       exact St.finR Tryd.results36 (.tmp rfl (.tmp rfl .nil)) rfl [.res (OwnL eu8 5 A22 c22 l10)] ⟨A22, c22, rfl, rfl⟩ (fun _ w => ((.k .z) : Keep _ _).sat w)

theorem ent17 : Ent Tryd.prog 17 := ⟨_, Tryd.func17, by kernel_rfl, by kernel_rfl⟩

noncomputable def m_ref17_Valid (i_p0 : T_Info) : Option Bool :=
 bnd (m_ref17_bytes i_p0) fun r1 => some r1.2

theorem c_ref17_Valid {i_p0 : T_Info} {A1 : Option Addr} {c1 : Nat} {A2 : Option Addr} {c2 : Nat} {A3 : Option Addr} {c3 : Nat} {A4 : Option Addr} {c4 : Nat} {r : Bool} (h : m_ref17_Valid i_p0 = some r) :
  Fun Tryd.prog 17 [.agg (bx_T_Info i_p0 A1 c1 A2 c2 A3 c3 A4 c4).toArray] [.ro (SlL e_Field A1 c1 i_p0.Chassis.Fields), .ro (SlL e_Field A2 c2 i_p0.Board.Fields), .ro (SlL e_Field A3 c3 i_p0.Product.Fields), .ro (SlL eu8 A4 c4 i_p0.Multi)] (Val (.bool r)) := by
 unfold m_ref17_Valid at h
 refine Fun.intro Tryd.func17 rfl rfl rfl fun w R => ?_
 refine St.seq ?_
 refine St.region ?_
 refine St.box rfl rfl fun g1 => ?_
 refine St.p rfl rfl ?_
 refine St.done ?_
 refine St.thenN ?_
 refine St.prune (Γ' := [(1, _)]) ⟨rfl, trivial⟩ (.k (.k (.k (.k (.k .z))))) ?_
 refine St.seq ?_
 refine St.region ?_
 refine St.loadB 0 rfl rfl (.head _) rfl rfl ?_
 obtain ⟨r1, hr1, h⟩ := bnd_e h
 refine St.call (c_ref17_bytes hr1) ent36 rfl rfl rfl (fun _ w => Sat.dup (G := [.ro (SlL e_Field A1 c1 i_p0.Chassis.Fields), .ro (SlL e_Field A2 c2 i_p0.Board.Fields), .ro (SlL e_Field A3 c3 i_p0.Product.Fields), .ro (SlL eu8 A4 c4 i_p0.Multi)]) rfl ⟨(.tail _ (.head _)), (.tail _ (.tail _ (.head _))), (.tail _ (.tail _ (.tail _ (.head _)))), (.tail _ (.tail _ (.tail _ (.tail _ (.head _))))), trivial⟩ w) ?_
 rintro _ _ ⟨A5, c5, rfl, rfl⟩
 refine St.asrt (F' := .res (OwnL eu8 5 A5 c5 r1.1) :: .res (Box g1 28 (bx_T_Info i_p0 A1 c1 A2 c2 A3 c3 A4 c4)) :: .ro (SlL e_Field A1 c1 i_p0.Chassis.Fields) :: .ro (SlL e_Field A2 c2 i_p0.Board.Fields) :: .ro (SlL e_Field A3 c3 i_p0.Product.Fields) :: .ro (SlL eu8 A4 c4 i_p0.Multi) :: R) (fun _ w => w) ?_
 iterate 5 refine St.p rfl rfl ?_
 refine St.done ?_
 refine St.thenN ?_
 refine St.prune (Γ' := [(4, _)]) ⟨rfl, trivial⟩ (.d (.d (.d (.d (.d (.d .z)))))) ?_
 refine St.seq ?_
 refine St.region ?_
 refine St.p rfl rfl ?_
 refine St.p rfl rfl ?_
 refine St.done ?_
 refine St.thenN ?_
 refine St.prune (Γ' := [(2, _)]) ⟨rfl, trivial⟩ .z ?_
 refine St.ret ?_
 repeat (first | refine St.thenR ?_ | refine St.blkR ?_)
 injection h with h
 subst h
 exact St.finR Tryd.results17 (.tmp rfl .nil) rfl [] ⟨rfl, rfl⟩ (fun _ w => (.z : Keep _ _).sat w)

theorem ent12 : Ent Tryd.prog 12 := ⟨_, Tryd.func12, by kernel_rfl, by kernel_rfl⟩

noncomputable def m_made_Dice_Info (d_p0 : T_Dice) : Option (T_Dice × T_Info) :=
 bnd (m_made_Dice_Area d_p0 2 false) fun r1 => bnd (m_made_Dice_Area r1.1 5 true) fun r2 => bnd (m_made_Dice_Area r2.1 7 false) fun r3 => bnd (m_made_Dice_Bytes r3.1 20) fun r4 => bnd (m_ref17_Valid (⟨r1.2, r2.2, r3.2, r4.2⟩ : T_Info)) fun r5 => bif !r5 then (some (r4.1, (⟨r1.2, (⟨false, 0, 0, []⟩ : T_Area), (⟨false, 0, 0, []⟩ : T_Area), r4.2⟩ : T_Info))) else (some (r4.1, (⟨r1.2, r2.2, r3.2, r4.2⟩ : T_Info)))

theorem c_made_Dice_Info {d_p0 : T_Dice} {A1 : Option Addr} {c1 : Nat} {gb1 : Nat} {r : (T_Dice × T_Info)} (h : m_made_Dice_Info d_p0 = some r) :
  Fun Tryd.prog 12 [.pointer (some ⟨gb1, 0, none⟩)] [.ro (SlL ei64 A1 c1 d_p0.L), .res (Box gb1 62 [.slice A1 d_p0.L.length c1, .int .i64 d_p0.At])] (fun v_ F_ => ∃ (A1 : Option Addr) (c1 : Nat) (A2 : Option Addr) (c2 : Nat) (A3 : Option Addr) (c3 : Nat) (A4 : Option Addr) (c4 : Nat) (A5 : Option Addr) (c5 : Nat), v_ = .agg (bx_T_Info r.2 A2 c2 A3 c3 A4 c4 A5 c5).toArray ∧ F_ = [.ro (SlL ei64 A1 c1 r.1.L), .ro (SlL e_Field A2 c2 r.2.Chassis.Fields), .ro (SlL e_Field A3 c3 r.2.Board.Fields), .ro (SlL e_Field A4 c4 r.2.Product.Fields), .ro (SlL eu8 A5 c5 r.2.Multi), .res (Box gb1 62 [.slice A1 r.1.L.length c1, .int .i64 r.1.At])]) := by
 unfold m_made_Dice_Info at h
 refine Fun.intro Tryd.func12 rfl rfl rfl fun w R => ?_
 refine St.seq ?_
 refine St.region ?_
 refine St.alloc rfl rfl fun g1 => ?_
 refine St.done ?_
 refine St.thenN ?_
 refine St.seq ?_
 refine St.region ?_
 refine St.p rfl rfl ?_
 obtain ⟨r1, hr1, h⟩ := bnd_e h
 refine St.call (c_made_Dice_Area hr1) ent32 rfl rfl rfl (fun _ w => Sat.dup (G := [.ro (SlL ei64 A1 c1 d_p0.L)]) rfl ⟨(.tail _ (.tail _ (.head _))), trivial⟩ (w.front (.s (.s .z)))) ?_
 rintro _ _ ⟨A2, c2, A3, c3, rfl, rfl⟩
 refine St.asrt (F' := .ro (SlL ei64 A2 c2 r1.1.L) :: .ro (SlL e_Field A3 c3 r1.2.Fields) :: .res (Box gb1 62 [.slice A2 r1.1.L.length c2, .int .i64 r1.1.At]) :: .res (Box g1 28 [.bool false, .int .u8 0, .int .u32 0, .slice none 0 0, .bool false, .int .u8 0, .int .u32 0, .slice none 0 0, .bool false, .int .u8 0, .int .u32 0, .slice none 0 0, .slice none 0 0]) :: .ro (SlL ei64 A1 c1 d_p0.L) :: R) (fun _ w => w) ?_
 refine St.p rfl rfl ?_
 obtain ⟨r2, hr2, h⟩ := bnd_e h
 refine St.call (c_made_Dice_Area hr2) ent32 rfl rfl rfl (fun _ w => Sat.dup (G := [.ro (SlL ei64 A2 c2 r1.1.L)]) rfl ⟨(.tail _ (.head _)), trivial⟩ (w.front (.s (.s .z)))) ?_
 rintro _ _ ⟨A4, c4, A5, c5, rfl, rfl⟩
 refine St.asrt (F' := .ro (SlL ei64 A4 c4 r2.1.L) :: .ro (SlL e_Field A5 c5 r2.2.Fields) :: .res (Box gb1 62 [.slice A4 r2.1.L.length c4, .int .i64 r2.1.At]) :: .ro (SlL ei64 A2 c2 r1.1.L) :: .ro (SlL e_Field A3 c3 r1.2.Fields) :: .res (Box g1 28 [.bool false, .int .u8 0, .int .u32 0, .slice none 0 0, .bool false, .int .u8 0, .int .u32 0, .slice none 0 0, .bool false, .int .u8 0, .int .u32 0, .slice none 0 0, .slice none 0 0]) :: .ro (SlL ei64 A1 c1 d_p0.L) :: R) (fun _ w => w) ?_
 refine St.p rfl rfl ?_
 obtain ⟨r3, hr3, h⟩ := bnd_e h
 refine St.call (c_made_Dice_Area hr3) ent32 rfl rfl rfl (fun _ w => Sat.dup (G := [.ro (SlL ei64 A4 c4 r2.1.L)]) rfl ⟨(.tail _ (.head _)), trivial⟩ (w.front (.s (.s .z)))) ?_
 rintro _ _ ⟨A6, c6, A7, c7, rfl, rfl⟩
 refine St.asrt (F' := .ro (SlL ei64 A6 c6 r3.1.L) :: .ro (SlL e_Field A7 c7 r3.2.Fields) :: .res (Box gb1 62 [.slice A6 r3.1.L.length c6, .int .i64 r3.1.At]) :: .ro (SlL ei64 A4 c4 r2.1.L) :: .ro (SlL e_Field A5 c5 r2.2.Fields) :: .ro (SlL ei64 A2 c2 r1.1.L) :: .ro (SlL e_Field A3 c3 r1.2.Fields) :: .res (Box g1 28 [.bool false, .int .u8 0, .int .u32 0, .slice none 0 0, .bool false, .int .u8 0, .int .u32 0, .slice none 0 0, .bool false, .int .u8 0, .int .u32 0, .slice none 0 0, .slice none 0 0]) :: .ro (SlL ei64 A1 c1 d_p0.L) :: R) (fun _ w => w) ?_
 refine St.p rfl rfl ?_
 obtain ⟨r4, hr4, h⟩ := bnd_e h
 refine St.call (c_made_Dice_Bytes hr4) ent33 rfl rfl rfl (fun _ w => Sat.dup (G := [.ro (SlL ei64 A6 c6 r3.1.L)]) rfl ⟨(.tail _ (.head _)), trivial⟩ (w.front (.s (.s .z)))) ?_
 rintro _ _ ⟨A8, c8, A9, c9, rfl, rfl⟩
 refine St.asrt (F' := .ro (SlL ei64 A8 c8 r4.1.L) :: .res (Box gb1 62 [.slice A8 r4.1.L.length c8, .int .i64 r4.1.At]) :: .res (OwnL eu8 5 A9 c9 r4.2) :: .ro (SlL ei64 A6 c6 r3.1.L) :: .ro (SlL e_Field A7 c7 r3.2.Fields) :: .ro (SlL ei64 A4 c4 r2.1.L) :: .ro (SlL e_Field A5 c5 r2.2.Fields) :: .ro (SlL ei64 A2 c2 r1.1.L) :: .ro (SlL e_Field A3 c3 r1.2.Fields) :: .res (Box g1 28 [.bool false, .int .u8 0, .int .u32 0, .slice none 0 0, .bool false, .int .u8 0, .int .u32 0, .slice none 0 0, .bool false, .int .u8 0, .int .u32 0, .slice none 0 0, .slice none 0 0]) :: .ro (SlL ei64 A1 c1 d_p0.L) :: R) (fun _ w => w) ?_
 refine St.p rfl rfl ?_
 refine St.alloc rfl rfl fun g2 => ?_
 refine St.store 0 rfl rfl rfl rfl rfl rfl .z rfl ?_
 refine St.done ?_
 refine St.thenN ?_
 refine St.prune (Γ' := [(2, _), (3, _)]) ⟨rfl, rfl, trivial⟩ (.k (.k (.k (.k (.d (.k (.d (.k (.d (.k (.k (.d .z)))))))))))) ?_
 refine St.seq ?_
 refine St.seq ?_
 refine St.region ?_
 refine St.loadB 0 rfl rfl (.head _) rfl rfl ?_
 refine St.asrt (fun _ w => (w.front (.s (.s (.s .z)))).meltL) ?_
 obtain ⟨r5, hr5, h⟩ := bnd_e h
 refine St.callV (c_ref17_Valid hr5) ent17 rfl rfl rfl rfl ⟨(.tail _ (.tail _ (.tail _ (.tail _ (.tail _ (.tail _ (.head _))))))), (.tail _ (.tail _ (.tail _ (.tail _ (.tail _ (.head _)))))), (.tail _ (.tail _ (.tail _ (.tail _ (.head _))))), (.head _), trivial⟩ ?_
 refine St.p rfl rfl ?_
 refine St.done ?_
 refine St.thenN ?_
 refine St.prune (Γ' := [(2, _), (3, _), (15, _)]) ⟨rfl, rfl, rfl, trivial⟩ (.k (.k (.k (.k (.k (.k (.k (.k .z)))))))) ?_
 refine St.cond _ rfl (fun hb1 => ?_) (fun hb1 => ?_)
 ·replace h := bif_t hb1 h
  refine St.region ?_
  iterate 3 refine St.p rfl rfl ?_
  refine St.store 4 rfl rfl rfl rfl rfl rfl (.s .z) rfl ?_
  refine St.p rfl rfl ?_
  refine St.store 8 rfl rfl rfl rfl rfl rfl .z rfl ?_
  refine St.done ?_
  refine St.thenN ?_
  refine St.prune (Γ' := [(2, _), (3, _)]) ⟨rfl, rfl, trivial⟩ (.k (.k (.k (.k (.d (.d (.k (.k .z)))))))) ?_
  refine St.seq ?_
  refine St.region ?_
  refine St.loadB 0 rfl rfl (.head _) rfl rfl ?_
  refine St.store 0 rfl rfl rfl rfl rfl rfl (.s (.s (.s (.s (.s .z))))) rfl ?_
  refine St.done ?_
  refine St.thenN ?_
  refine St.prune (Γ' := [(2, _)]) ⟨rfl, trivial⟩ (.k (.d (.k (.k (.k (.k .z)))))) ?_
  refine St.ret ?_
  repeat (first | refine St.thenR ?_ | refine St.blkR ?_)
  refine St.asrt (fun _ w => w.nilSl (cod e_Field)) ?_
  refine St.asrt (fun _ w => w.nilSl (cod e_Field)) ?_
  injection h with h
  subst h
  exact St.finR Tryd.results12 (.cell rfl (.tail _ (.tail _ (.head _))) rfl .nil) rfl [.ro (SlL ei64 A8 c8 r4.1.L), .ro (SlL e_Field A3 c3 r1.2.Fields), .ro (SlL e_Field none 0 ([] : List T_Field)), .ro (SlL e_Field none 0 ([] : List T_Field)), .ro (SlL eu8 A9 c9 r4.2), .res (Box gb1 62 [.slice A8 r4.1.L.length c8, .int .i64 r4.1.At])] ⟨A8, c8, A3, c3, none, 0, none, 0, A9, c9, rfl, rfl⟩ (fun _ w => ((.k (.k (.k (.k (.k (.k (.d (.d (.d (.d (.d (.d .z)))))))))))) : Keep _ _).sat (Sat.dup (G := [.ro (SlL ei64 A8 c8 r4.1.L), .ro (SlL e_Field A3 c3 r1.2.Fields), .ro (SlL e_Field none 0 ([] : List T_Field)), .ro (SlL e_Field none 0 ([] : List T_Field)), .ro (SlL eu8 A9 c9 r4.2)]) rfl ⟨(.tail _ (.tail _ (.tail _ (.tail _ (.tail _ (.head _)))))), (.tail _ (.tail _ (.tail _ (.tail _ (.tail _ (.tail _ (.head _))))))), (.tail _ (.head _)), (.tail _ (.head _)), (.tail _ (.tail _ (.tail _ (.tail _ (.head _))))), trivial⟩ (w.front (.s (.s (.s (.s (.s .z))))))))
 ·replace h := bif_f hb1 h
  refine St.skip ?_
  refine St.thenN ?_
  refine St.prune (Γ' := [(2, _), (3, _)]) ⟨rfl, rfl, trivial⟩ (.k (.k (.k (.k (.k (.k (.k (.k .z)))))))) ?_
  refine St.seq ?_
  refine St.region ?_
  refine St.loadB 0 rfl rfl (.tail _ (.head _)) rfl rfl ?_
  refine St.store 0 rfl rfl rfl rfl rfl rfl (.s (.s (.s (.s (.s (.s (.s .z))))))) rfl ?_
  refine St.done ?_
  refine St.thenN ?_
  refine St.prune (Γ' := [(2, _)]) ⟨rfl, trivial⟩ (.k (.k (.d (.k (.k (.k (.k (.k .z)))))))) ?_
  refine St.ret ?_
  repeat (first | refine St.thenR ?_ | refine St.blkR ?_)
  injection h with h
  subst h
  exact St.finR Tryd.results12 (.cell rfl (.head _) rfl .nil) rfl [.ro (SlL ei64 A8 c8 r4.1.L), .ro (SlL e_Field A3 c3 r1.2.Fields), .ro (SlL e_Field A5 c5 r2.2.Fields), .ro (SlL e_Field A7 c7 r3.2.Fields), .ro (SlL eu8 A9 c9 r4.2), .res (Box gb1 62 [.slice A8 r4.1.L.length c8, .int .i64 r4.1.At])] ⟨A8, c8, A3, c3, A5, c5, A7, c7, A9, c9, rfl, rfl⟩ (fun _ w => ((.k (.k (.k (.k (.k (.k (.d (.d (.d (.d (.d (.d .z)))))))))))) : Keep _ _).sat (Sat.dup (G := [.ro (SlL ei64 A8 c8 r4.1.L), .ro (SlL e_Field A3 c3 r1.2.Fields), .ro (SlL e_Field A5 c5 r2.2.Fields), .ro (SlL e_Field A7 c7 r3.2.Fields), .ro (SlL eu8 A9 c9 r4.2)]) rfl ⟨(.tail _ (.tail _ (.tail _ (.head _)))), (.tail _ (.tail _ (.tail _ (.tail _ (.tail _ (.tail _ (.head _))))))), (.tail _ (.tail _ (.tail _ (.tail _ (.tail _ (.head _)))))), (.tail _ (.tail _ (.tail _ (.tail _ (.head _))))), (.tail _ (.tail _ (.head _))), trivial⟩ (w.front (.s (.s (.s .z))))))

theorem ent15 : Ent Tryd.prog 15 := ⟨_, Tryd.func15, by kernel_rfl, by kernel_rfl⟩

noncomputable def m_ref17_Encode (i_p0 : T_Info) : Option ((List Int) × Int) :=
 bnd (m_ref17_bytes i_p0) fun r1 => bif !r1.2 then (some ([], 1)) else (some (r1.1, 0))

theorem c_ref17_Encode {i_p0 : T_Info} {A1 : Option Addr} {c1 : Nat} {A2 : Option Addr} {c2 : Nat} {A3 : Option Addr} {c3 : Nat} {A4 : Option Addr} {c4 : Nat} {r : ((List Int) × Int)} (h : m_ref17_Encode i_p0 = some r) :
  Fun Tryd.prog 15 [.agg (bx_T_Info i_p0 A1 c1 A2 c2 A3 c3 A4 c4).toArray] [.ro (SlL e_Field A1 c1 i_p0.Chassis.Fields), .ro (SlL e_Field A2 c2 i_p0.Board.Fields), .ro (SlL e_Field A3 c3 i_p0.Product.Fields), .ro (SlL eu8 A4 c4 i_p0.Multi)] (fun v_ F_ => ∃ (A1 : Option Addr) (c1 : Nat), v_ = .tuple #[.slice A1 r.1.length c1, .int .i64 r.2] ∧ F_ = [.res (OwnL eu8 5 A1 c1 r.1)]) := by
 unfold m_ref17_Encode at h
 refine Fun.intro Tryd.func15 rfl rfl rfl fun w R => ?_
 refine St.seq ?_
 refine St.region ?_
 refine St.box rfl rfl fun g1 => ?_
 refine St.p rfl rfl ?_
 refine St.p rfl rfl ?_
 refine St.done ?_
 refine St.thenN ?_
 refine St.prune (Γ' := [(1, _)]) ⟨rfl, trivial⟩ (.k (.k (.k (.k (.k .z))))) ?_
 refine St.seq ?_
 refine St.region ?_
 refine St.loadB 0 rfl rfl (.head _) rfl rfl ?_
 obtain ⟨r1, hr1, h⟩ := bnd_e h
 refine St.call (c_ref17_bytes hr1) ent36 rfl rfl rfl (fun _ w => Sat.dup (G := [.ro (SlL e_Field A1 c1 i_p0.Chassis.Fields), .ro (SlL e_Field A2 c2 i_p0.Board.Fields), .ro (SlL e_Field A3 c3 i_p0.Product.Fields), .ro (SlL eu8 A4 c4 i_p0.Multi)]) rfl ⟨(.tail _ (.head _)), (.tail _ (.tail _ (.head _))), (.tail _ (.tail _ (.tail _ (.head _)))), (.tail _ (.tail _ (.tail _ (.tail _ (.head _))))), trivial⟩ w) ?_
 rintro _ _ ⟨A5, c5, rfl, rfl⟩
 refine St.asrt (F' := .res (OwnL eu8 5 A5 c5 r1.1) :: .res (Box g1 28 (bx_T_Info i_p0 A1 c1 A2 c2 A3 c3 A4 c4)) :: .ro (SlL e_Field A1 c1 i_p0.Chassis.Fields) :: .ro (SlL e_Field A2 c2 i_p0.Board.Fields) :: .ro (SlL e_Field A3 c3 i_p0.Product.Fields) :: .ro (SlL eu8 A4 c4 i_p0.Multi) :: R) (fun _ w => w) ?_
 iterate 5 refine St.p rfl rfl ?_
 refine St.done ?_
 refine St.thenN ?_
 refine St.prune (Γ' := [(4, _), (5, _)]) ⟨rfl, rfl, trivial⟩ (.k (.d (.d (.d (.d (.d .z)))))) ?_
 refine St.seq ?_
 refine St.seq ?_
 refine St.region ?_
 refine St.p rfl rfl ?_
 refine St.p rfl rfl ?_
 refine St.done ?_
 refine St.thenN ?_
 refine St.prune (Γ' := [(4, _), (12, _)]) ⟨rfl, rfl, trivial⟩ (.k .z) ?_
 refine St.cond _ rfl (fun hb1 => ?_) (fun hb1 => ?_)
 ·replace h := bif_t hb1 h
  refine St.seq ?_
  refine St.region ?_
  refine St.p rfl rfl ?_
  refine St.p rfl rfl ?_
  refine St.done ?_
  refine St.thenN ?_
  refine St.prune (Γ' := [(2, _), (3, _)]) ⟨rfl, rfl, trivial⟩ (.d .z) ?_
  refine St.ret ?_
  repeat (first | refine St.thenR ?_ | refine St.blkR ?_)
  refine St.asrt (fun _ w => w.nilL eu8 5) ?_
  injection h with h
  subst h
  exact St.finR Tryd.results15 (.tmp rfl (.tmp rfl .nil)) rfl [.res (OwnL eu8 5 none 0 ([] : List Int))] ⟨none, 0, rfl, rfl⟩ (fun _ w => ((.k .z) : Keep _ _).sat w)
 ·replace h := bif_f hb1 h
  refine St.skip ?_
  refine St.thenN ?_
  refine St.prune (Γ' := [(4, _)]) ⟨rfl, trivial⟩ (.k .z) ?_
  refine St.seq ?_
  refine St.region ?_
  iterate 3 refine St.p rfl rfl ?_
  refine St.done ?_
  refine St.thenN ?_
  refine St.prune (Γ' := [(2, _), (3, _)]) ⟨rfl, rfl, trivial⟩ (.k .z) ?_
  refine St.ret ?_
  repeat (first | refine St.thenR ?_ | refine St.blkR ?_)
  injection h with h
  subst h
  exact St.finR Tryd.results15 (.tmp rfl (.tmp rfl .nil)) rfl [.res (OwnL eu8 5 A5 c5 r1.1)] ⟨A5, c5, rfl, rfl⟩ (fun _ w => ((.k .z) : Keep _ _).sat w)

theorem ent26 : Ent Tryd.prog 26 := ⟨_, Tryd.func26, by kernel_rfl, by kernel_rfl⟩

noncomputable def m_law17_seal (b_p0 : (List Int)) (at_p1 : Int) : Option (List Int) :=
 bnd (sub b_p0 0 7) fun l1 => bnd (m_ref01_Sum8 l1) fun r1 => bnd (elt b_p0 7) fun x1 => bnd (setE b_p0 7 r1) fun l2 => bif decide ((IntKind.wrap .i64 (at_p1 + 2)) ≤ (l2.length : Int)) then (bnd (elt l2 (IntKind.wrap .i64 (at_p1 + 1))) fun x2 => bnd ((bif decide ((IntKind.wrap .i64 (8 * (IntKind.wrap .i64 x2))) > 0) then (some (decide ((IntKind.wrap .i64 (at_p1 + (IntKind.wrap .i64 (8 * (IntKind.wrap .i64 x2))))) ≤ (l2.length : Int)))) else (some false) : Option Bool)) fun o1 => bif o1 then (bnd (sub l2 at_p1 (IntKind.wrap .i64 ((IntKind.wrap .i64 (at_p1 + (IntKind.wrap .i64 (8 * (IntKind.wrap .i64 x2))))) - 1))) fun l3 => bnd (m_ref01_Sum8 l3) fun r2 => bnd (elt l2 (IntKind.wrap .i64 ((IntKind.wrap .i64 (at_p1 + (IntKind.wrap .i64 (8 * (IntKind.wrap .i64 x2))))) - 1))) fun x3 => bnd (setE l2 (IntKind.wrap .i64 ((IntKind.wrap .i64 (at_p1 + (IntKind.wrap .i64 (8 * (IntKind.wrap .i64 x2))))) - 1)) r2) fun l4 => some l4) else (some l2)) else (some l2)

theorem c_law17_seal {b_p0 : (List Int)} {at_p1 : Int} {A1 : Option Addr} {c1 : Nat} {r : (List Int)} (h : m_law17_seal b_p0 at_p1 = some r) :
  Fun Tryd.prog 26 [.slice A1 b_p0.length c1, .int .i64 at_p1] [.res (OwnL eu8 5 A1 c1 b_p0)] (fun v_ F_ => v_ = .tuple #[] ∧ F_ = [.res (OwnL eu8 5 A1 c1 r)]) := by
 unfold m_law17_seal at h
 refine Fun.intro Tryd.func26 rfl rfl rfl fun w R => ?_
 refine St.seq ?_
 refine St.region ?_
 refine St.p rfl rfl ?_
 refine St.p rfl rfl ?_
 obtain ⟨l1, hl1, h⟩ := bnd_e h
 refine St.view (E := eu8) rfl rfl (.head _) rfl rfl rfl rfl rfl rfl rfl hl1 fun A2 c2 hv1 => ?_
 obtain ⟨r1, hr1, h⟩ := bnd_e h
 refine St.callL (c_ref01_Sum8 hr1) ent30 rfl rfl rfl rfl (Asks.view hv1 Asks.nil) (fun _ _ h => by rw [h.2]; exact True.intro) ?_
 rintro _ _ ⟨rfl, rfl⟩
 refine St.asrt (F' := .res (OwnL eu8 5 A1 c1 b_p0) :: R) (fun _ w => w) ?_
 obtain ⟨x1, hx1, h⟩ := bnd_e h
 refine St.ixO hx1 rfl rfl rfl (.head _) rfl rfl rfl rfl rfl fun g1 hA => ?_
 subst hA
 obtain ⟨l2, hl2, h⟩ := bnd_e h
 refine St.stO 0 hx1 hl2 rfl rfl .z rfl rfl rfl rfl rfl ?_
 refine St.slots (Γ' := [(0, .slice (some ⟨g1, 0, none⟩) l2.length c1), (1, _), (5, .slice (some ⟨g1, 0, none⟩) l2.length c1), (6, .slice (some ⟨g1, 0, none⟩) l2.length c1), (7, _), (8, _), (9, _)]) ⟨sl_len hl2, rfl, sl_len hl2, sl_len hl2, rfl, rfl, rfl, trivial⟩ ?_
 refine St.done ?_
 refine St.thenN ?_
 refine St.prune (Γ' := [(0, _), (1, _)]) ⟨rfl, rfl, trivial⟩ (.k .z) ?_
 refine St.seq ?_
 refine St.region ?_
 iterate 5 refine St.p rfl rfl ?_
 refine St.done ?_
 refine St.thenN ?_
 refine St.prune (Γ' := [(0, _), (1, _), (14, _)]) ⟨rfl, rfl, rfl, trivial⟩ (.k .z) ?_
 refine St.cond _ rfl (fun hb1 => ?_) (fun hb1 => ?_)
 ·replace h := bif_t hb1 h
  refine St.seq ?_
  refine St.region ?_
  iterate 3 refine St.p rfl rfl ?_
  obtain ⟨x2, hx2, h⟩ := bnd_e h
  refine St.ixO hx2 rfl rfl rfl (.head _) rfl rfl rfl rfl rfl fun g2 hA => ?_
  cases hA
  refine St.ldO 0 hx2 rfl rfl (.head _) rfl rfl ?_
  iterate 3 refine St.p rfl rfl ?_
  refine St.done ?_
  refine St.thenN ?_
  refine St.prune (Γ' := [(0, _), (1, _), (4, _)]) ⟨rfl, rfl, rfl, trivial⟩ (.k .z) ?_
  refine St.seq ?_
  obtain ⟨o1, hj1, h⟩ := bnd_e h
  refine St.cutE (fun (e1 : Unit) => [(0, .slice (some ⟨g1, 0, none⟩) l2.length c1), (1, .int .i64 at_p1), (4, .int .i64 (IntKind.wrap .i64 (8 * (IntKind.wrap .i64 x2)))), (31, .bool o1)]) (fun e1 => .res (OwnL eu8 5 (some ⟨g1, 0, none⟩) c1 l2) :: R) ?_ ?_
  ·refine St.region ?_
   iterate 3 refine St.p rfl rfl ?_
   refine St.gSplit (dj := 24) _ rfl (fun hb2 => ?_) (fun hb2 => ?_)
   ·replace hj1 := bif_t hb2 hj1
    refine St.gOn (dj := 24) rfl rfl ?_
    refine St.p rfl rfl ?_
    refine St.gOn (dj := 24) rfl rfl ?_
    refine St.p rfl rfl ?_
    refine St.gOn (dj := 24) rfl rfl ?_
    refine St.p rfl rfl ?_
    refine St.gOn (dj := 24) rfl rfl ?_
    refine St.p rfl rfl ?_
    refine St.gOn (dj := 24) rfl rfl ?_
    refine St.p rfl rfl ?_
    refine St.gOn (dj := 24) rfl rfl ?_
    refine St.p rfl rfl ?_
    refine St.p rfl rfl ?_
    refine St.done ?_
    injection hj1 with hj1
    subst hj1
    refine St.thenN ?_
    exact St.hereE () ⟨rfl, rfl, rfl, rfl, trivial⟩ (fun _ w => ((.k .z) : Keep _ _).sat w)
   ·replace hj1 := bif_f hb2 hj1
    refine St.gOff (dj := 24) rfl rfl rfl rfl ?_
    refine St.gOff (dj := 24) rfl rfl rfl rfl ?_
    refine St.gOff (dj := 24) rfl rfl rfl rfl ?_
    refine St.gOff (dj := 24) rfl rfl rfl rfl ?_
    refine St.gOff (dj := 24) rfl rfl rfl rfl ?_
    refine St.gOff (dj := 24) rfl rfl rfl rfl ?_
    refine St.p rfl rfl ?_
    refine St.done ?_
    injection hj1 with hj1
    subst hj1
    refine St.thenN ?_
    exact St.hereE () ⟨rfl, rfl, rfl, rfl, trivial⟩ (fun _ w => ((.k .z) : Keep _ _).sat w)
  ·rintro e1
   refine St.cond _ rfl (fun hb3 => ?_) (fun hb3 => ?_)
   ·replace h := bif_t hb3 h
    refine St.region ?_
    iterate 11 refine St.p rfl rfl ?_
    obtain ⟨l3, hl3, h⟩ := bnd_e h
    refine St.view (E := eu8) rfl rfl (.head _) rfl rfl rfl rfl rfl rfl rfl hl3 fun A3 c3 hv2 => ?_
    obtain ⟨r2, hr2, h⟩ := bnd_e h
    refine St.callL (c_ref01_Sum8 hr2) ent30 rfl rfl rfl rfl (Asks.view hv2 Asks.nil) (fun _ _ h => by rw [h.2]; exact True.intro) ?_
    rintro _ _ ⟨rfl, rfl⟩
    refine St.asrt (F' := .res (OwnL eu8 5 (some ⟨g1, 0, none⟩) c1 l2) :: R) (fun _ w => w) ?_
    obtain ⟨x3, hx3, h⟩ := bnd_e h
    refine St.ixO hx3 rfl rfl rfl (.head _) rfl rfl rfl rfl rfl fun g3 hA => ?_
    cases hA
    obtain ⟨l4, hl4, h⟩ := bnd_e h
    refine St.stO 0 hx3 hl4 rfl rfl .z rfl rfl rfl rfl rfl ?_
    refine St.slots (Γ' := [(0, .slice (some ⟨g1, 0, none⟩) l4.length c1), (1, _), (4, _), (31, _), (32, .slice (some ⟨g1, 0, none⟩) l4.length c1), (33, _), (34, _), (35, _), (36, _), (37, .slice (some ⟨g1, 0, none⟩) l4.length c1), (38, _), (39, _), (40, _), (41, _), (42, _), (43, _), (44, _), (45, _)]) ⟨sl_len hl4, rfl, rfl, rfl, sl_len hl4, rfl, rfl, rfl, rfl, sl_len hl4, rfl, rfl, rfl, rfl, rfl, rfl, rfl, rfl, trivial⟩ ?_
    refine St.done ?_
    injection h with h
    subst h
    exact St.finN' Tryd.results26 .nil rfl [.res (OwnL eu8 5 (some ⟨g1, 0, none⟩) c1 l4)] ⟨rfl, rfl⟩ (fun _ w => ((.k .z) : Keep _ _).sat w)
   ·replace h := bif_f hb3 h
    refine St.skip ?_
    injection h with h
    subst h
    exact St.finN' Tryd.results26 .nil rfl [.res (OwnL eu8 5 (some ⟨g1, 0, none⟩) c1 l2)] ⟨rfl, rfl⟩ (fun _ w => ((.k .z) : Keep _ _).sat w)
 ·replace h := bif_f hb1 h
  refine St.skip ?_
  injection h with h
  subst h
  exact St.finN' Tryd.results26 .nil rfl [.res (OwnL eu8 5 (some ⟨g1, 0, none⟩) c1 l2)] ⟨rfl, rfl⟩ (fun _ w => ((.k .z) : Keep _ _).sat w)

theorem ent56 : Ent Tryd.prog 56 := ⟨_, Tryd.func56, by kernel_rfl, by kernel_rfl⟩

noncomputable def m_checksum_Open8 (b_p0 : (List Int)) : Option ((List Int) × Int) :=
 bif ((b_p0.length : Int) == 0) then (some ([], 4)) else (bnd (m_checksum_Sum8 b_p0) fun r1 => bif (r1 != 0) then (some ([], 5)) else (bnd (sub b_p0 0 (IntKind.wrap .i64 ((b_p0.length : Int) - 1))) fun l1 => bnd (m_slices_Clone__byte_byte l1) fun r2 => some (r2, 0)))

theorem c_checksum_Open8 {b_p0 : (List Int)} {A1 : Option Addr} {c1 : Nat} {r : ((List Int) × Int)} (h : m_checksum_Open8 b_p0 = some r) :
  Fun Tryd.prog 56 [.slice A1 b_p0.length c1] [.ro (SlL eu8 A1 c1 b_p0)] (fun v_ F_ => ∃ (A1 : Option Addr) (c1 : Nat), v_ = .tuple #[.slice A1 r.1.length c1, .int .i64 r.2] ∧ F_ = [.res (OwnL eu8 5 A1 c1 r.1)]) := by
 unfold m_checksum_Open8 at h
 refine Fun.intro Tryd.func56 rfl rfl rfl fun w R => ?_
 refine St.seq ?_
 refine St.region ?_
 refine St.p rfl rfl ?_
 refine St.p rfl rfl ?_
 refine St.done ?_
 refine St.thenN ?_
 refine St.prune (Γ' := [(0, _)]) ⟨rfl, trivial⟩ (.k .z) ?_
 refine St.seq ?_
 refine St.block ?_
 refine St.seq ?_
 refine St.region ?_
 iterate 4 refine St.p rfl rfl ?_
 refine St.done ?_
 refine St.thenN ?_
 refine St.prune (Γ' := [(0, _), (4, _)]) ⟨rfl, rfl, trivial⟩ (.k .z) ?_
 refine St.cond _ rfl (fun hb1 => ?_) (fun hb1 => ?_)
 ·replace h := bif_t hb1 h
  refine St.seq ?_
  refine St.region ?_
  refine St.p rfl rfl ?_
  refine St.p rfl rfl ?_
  refine St.done ?_
  refine St.thenN ?_
  refine St.prune (Γ' := [(2, _), (3, _)]) ⟨rfl, rfl, trivial⟩ (.d .z) ?_
  refine St.ret ?_
  repeat (first | refine St.thenR ?_ | refine St.blkR ?_)
  refine St.asrt (fun _ w => w.nilL eu8 5) ?_
  injection h with h
  subst h
  exact St.finR Tryd.results56 (.tmp rfl (.tmp rfl .nil)) rfl [.res (OwnL eu8 5 none 0 ([] : List Int))] ⟨none, 0, rfl, rfl⟩ (fun _ w => ((.k .z) : Keep _ _).sat w)
 ·replace h := bif_f hb1 h
  refine St.seq ?_
  refine St.region ?_
  refine St.p rfl rfl ?_
  obtain ⟨r1, hr1, h⟩ := bnd_e h
  refine St.callV (c_checksum_Sum8 hr1) ent39 rfl rfl rfl rfl ⟨(.head _), trivial⟩ ?_
  refine St.p rfl rfl ?_
  refine St.p rfl rfl ?_
  refine St.done ?_
  refine St.thenN ?_
  refine St.prune (Γ' := [(0, _), (8, _)]) ⟨rfl, rfl, trivial⟩ (.k .z) ?_
  refine St.cond _ rfl (fun hb2 => ?_) (fun hb2 => ?_)
  ·replace h := bif_t hb2 h
   refine St.seq ?_
   refine St.region ?_
   refine St.p rfl rfl ?_
   refine St.p rfl rfl ?_
   refine St.done ?_
   refine St.thenN ?_
   refine St.prune (Γ' := [(2, _), (3, _)]) ⟨rfl, rfl, trivial⟩ (.d .z) ?_
   refine St.ret ?_
   repeat (first | refine St.thenR ?_ | refine St.blkR ?_)
   refine St.asrt (fun _ w => w.nilL eu8 5) ?_
   injection h with h
   subst h
   exact St.finR Tryd.results56 (.tmp rfl (.tmp rfl .nil)) rfl [.res (OwnL eu8 5 none 0 ([] : List Int))] ⟨none, 0, rfl, rfl⟩ (fun _ w => ((.k .z) : Keep _ _).sat w)
  ·replace h := bif_f hb2 h
   refine St.skip ?_
   refine St.blkN ?_
   refine St.thenN ?_
   refine St.prune (Γ' := [(0, _)]) ⟨rfl, trivial⟩ (.k .z) ?_
   refine St.seq ?_
   refine St.region ?_
   iterate 4 refine St.p rfl rfl ?_
   obtain ⟨l1, hl1, h⟩ := bnd_e h
   refine St.sub (E := (cod eu8)) rfl rfl (.head _) rfl rfl rfl rfl rfl rfl rfl hl1 fun A2 c2 => ?_
   obtain ⟨r2, hr2, h⟩ := bnd_e h
   refine St.call (c_slices_Clone__byte_byte hr2) ent41 rfl rfl rfl (fun _ w => Sat.dup (G := [.ro (SlL eu8 A2 c2 l1)]) rfl ⟨(.head _), trivial⟩ w) ?_
   rintro _ _ ⟨A3, c3, rfl, rfl⟩
   refine St.asrt (F' := .res (OwnL eu8 5 A3 c3 r2) :: .ro (SlL eu8 A2 c2 l1) :: .ro (SlL eu8 A1 c1 b_p0) :: R) (fun _ w => w) ?_
   refine St.p rfl rfl ?_
   refine St.p rfl rfl ?_
   refine St.done ?_
   refine St.thenN ?_
   refine St.prune (Γ' := [(2, _), (3, _)]) ⟨rfl, rfl, trivial⟩ (.k (.d (.d .z))) ?_
   refine St.ret ?_
   repeat (first | refine St.thenR ?_ | refine St.blkR ?_)
   injection h with h
   subst h
   exact St.finR Tryd.results56 (.tmp rfl (.tmp rfl .nil)) rfl [.res (OwnL eu8 5 A3 c3 r2)] ⟨A3, c3, rfl, rfl⟩ (fun _ w => ((.k .z) : Keep _ _).sat w)

theorem ent58 : Ent Tryd.prog 58 := ⟨_, Tryd.func58, by kernel_rfl, by kernel_rfl⟩

noncomputable def m_unitinfo_fieldsAt (k_p0 : Int) : Option Int :=
 bif (k_p0 == 1) then (some 6) else (some 3)

theorem c_unitinfo_fieldsAt {k_p0 : Int} {r : Int} (h : m_unitinfo_fieldsAt k_p0 = some r) :
  Fun Tryd.prog 58 [.int .i64 k_p0] [] (Val (.int .i64 r)) := by
 unfold m_unitinfo_fieldsAt at h
 refine Fun.intro Tryd.func58 rfl rfl rfl fun w R => ?_
 refine St.seq ?_
 refine St.region ?_
 refine St.p rfl rfl ?_
 refine St.done ?_
 refine St.thenN ?_
 refine St.prune (Γ' := [(0, _)]) ⟨rfl, trivial⟩ .z ?_
 refine St.seq ?_
 refine St.seq ?_
 refine St.region ?_
 refine St.p rfl rfl ?_
 refine St.p rfl rfl ?_
 refine St.done ?_
 refine St.thenN ?_
 refine St.prune (Γ' := [(4, _)]) ⟨rfl, trivial⟩ .z ?_
 refine St.cond _ rfl (fun hb1 => ?_) (fun hb1 => ?_)
 ·replace h := bif_t hb1 h
  refine St.seq ?_
  refine St.region ?_
  refine St.p rfl rfl ?_
  refine St.done ?_
  refine St.thenN ?_
  refine St.prune (Γ' := [(2, _)]) ⟨rfl, trivial⟩ .z ?_
  refine St.ret ?_
  repeat (first | refine St.thenR ?_ | refine St.blkR ?_)
  injection h with h
  subst h
  exact St.finR Tryd.results58 (.tmp rfl .nil) rfl [] ⟨rfl, rfl⟩ (fun _ w => (.z : Keep _ _).sat w)
 ·replace h := bif_f hb1 h
  refine St.skip ?_
  refine St.thenN ?_
  refine St.prune (Γ' := []) trivial .z ?_
  refine St.seq ?_
  refine St.region ?_
  refine St.p rfl rfl ?_
  refine St.done ?_
  refine St.thenN ?_
  refine St.ret ?_
  repeat (first | refine St.thenR ?_ | refine St.blkR ?_)
  injection h with h
  subst h
  exact St.finR Tryd.results58 (.tmp rfl .nil) rfl [] ⟨rfl, rfl⟩ (fun _ w => (.z : Keep _ _).sat w)

theorem ent89 : Ent Tryd.prog 89 := ⟨_, Tryd.func89, by kernel_rfl, by kernel_rfl⟩

noncomputable def m_fields_decimal (b_p0 : (List Int)) : Option (ByteArray × Bool) :=
 bnd (loopM (τ := (ByteArray × Bool) ⊕ List Int) (fun (s1 : List Int × Int) => bif decide (s1.2 < (b_p0.length : Int)) then (bnd (elt b_p0 s1.2) fun x1 => bif decide ((IntKind.wrap .i64 (iShr .u8 x1 4)) ≥ 13) then (some (.done (.inl (⟨#[]⟩, false)))) else (bnd (eltS (⟨#[48, 49, 50, 51, 52, 53, 54, 55, 56, 57, 32, 45, 46]⟩) (iShr .u8 x1 4)) fun y1 => bnd (app 1 s1.1 [y1]) fun l1 => bif decide ((IntKind.wrap .i64 (iAnd .u8 x1 15)) ≥ 13) then (some (.done (.inl (⟨#[]⟩, false)))) else (bnd (eltS (⟨#[48, 49, 50, 51, 52, 53, 54, 55, 56, 57, 32, 45, 46]⟩) (iAnd .u8 x1 15)) fun y2 => bnd (app 1 l1 [y2]) fun l2 => some (.next (l2, IntKind.wrap .i64 (s1.2 + 1)))))) else (some (.done (.inr s1.1)))) ([], 0)) fun o1 => retOr o1 fun o2 => some (strOf o2, true)

theorem c_fields_decimal {b_p0 : (List Int)} {A1 : Option Addr} {c1 : Nat} {r : (ByteArray × Bool)} (h : m_fields_decimal b_p0 = some r) :
  Fun Tryd.prog 89 [.slice A1 b_p0.length c1] [.ro (SlL eu8 A1 c1 b_p0)] (Val (.tuple #[.string r.1, .bool r.2])) := by
 unfold m_fields_decimal at h
 refine Fun.intro Tryd.func89 rfl rfl rfl fun w R => ?_
 refine St.seq ?_
 refine St.region ?_
 refine St.p rfl rfl ?_
 refine St.p rfl rfl ?_
 refine St.done ?_
 refine St.thenN ?_
 refine St.prune (Γ' := [(0, _)]) ⟨rfl, trivial⟩ (.k .z) ?_
 refine St.seq ?_
 refine St.region ?_
 refine St.p rfl rfl ?_
 refine St.done ?_
 refine St.thenN ?_
 refine St.seq ?_
 refine St.seq ?_
 refine St.region ?_
 iterate 3 refine St.p rfl rfl ?_
 refine St.done ?_
 refine St.thenN ?_
 refine St.prune (Γ' := [(4, _), (9, _), (10, _), (11, _)]) ⟨rfl, rfl, rfl, rfl, trivial⟩ (.k .z) ?_
 refine St.asrt (fun _ w => w.nilL eu8 5) ?_
 obtain ⟨o1, hl1, h⟩ := bnd_e h
 refine St.cutI (fun (o2 : List Int) (e2 : Option Addr × Nat) => [(4, .slice e2.1 o2.length e2.2)]) (fun o2 e2 => .res (OwnL eu8 5 e2.1 e2.2 o2) :: R) (fun o2 => o1 = .inr o2) ?_ ?_
 ·refine St.block ?_
  refine St.loop hl1 (fun (s1 : List Int × Int) (e1 : Option Addr × Nat) => [(4, .slice e1.1 s1.1.length e1.2), (9, .slice A1 b_p0.length c1), (10, .int .i64 (b_p0.length : Int)), (11, .int .i64 s1.2)]) (fun s1 e1 => .res (OwnL eu8 5 e1.1 e1.2 s1.1) :: .ro (SlL eu8 A1 c1 b_p0) :: R) (fun _ _ => True) (none, 0) trivial ⟨rfl, rfl, rfl, rfl, trivial⟩ (fun _ w => ((.k (.k .z)) : Keep _ _).sat w) ?_
  rintro s1 ⟨A2, c2⟩ - hit1
  obtain ⟨st1, hm1, hd1⟩ := iter_e hit1
  have h1 := hm1
  refine St.seq ?_
  refine St.region ?_
  refine St.p rfl rfl ?_
  refine St.done ?_
  refine St.thenN ?_
  refine St.seq ?_
  refine St.cond _ rfl (fun hb1 => ?_) (fun hb1 => ?_)
  ·replace h1 := bif_t hb1 h1
   refine St.skip ?_
   refine St.thenN ?_
   refine St.prune (Γ' := [(4, _), (9, _), (10, _), (11, _)]) ⟨rfl, rfl, rfl, rfl, trivial⟩ (.k (.k .z)) ?_
   refine St.seq ?_
   refine St.block ?_
   refine St.seq ?_
   refine St.region ?_
   obtain ⟨x1, hx1, h1⟩ := bnd_e h1
   refine St.ixL hx1 rfl rfl rfl (.tail _ (.head _)) rfl rfl rfl rfl rfl fun b1 ob1 => ?_
   refine St.load ob1 0 rfl rfl (.head _) rfl rfl ?_
   refine St.p rfl rfl ?_
   refine St.done ?_
   refine St.thenN ?_
   refine St.prune (Γ' := [(4, _), (6, _), (9, _), (10, _), (11, _)]) ⟨rfl, rfl, rfl, rfl, rfl, trivial⟩ (.d (.k (.k .z))) ?_
   refine St.seq ?_
   refine St.region ?_
   iterate 4 refine St.p rfl rfl ?_
   refine St.buildSlice rfl rfl rfl rfl rfl rfl rfl rfl fun g1 => ?_
   refine St.p rfl rfl ?_
   refine St.p rfl rfl ?_
   refine St.done ?_
   refine St.thenN ?_
   refine St.prune (Γ' := [(4, _), (9, _), (10, _), (11, _), (19, _), (20, _), (21, _)]) ⟨rfl, rfl, rfl, rfl, rfl, rfl, rfl, trivial⟩ (.k (.k (.k .z))) ?_
   refine St.block ?_
   refine St.rounds 9 ?_
   refine St.round ?_
   refine St.seq ?_
   refine St.region ?_
   refine St.p rfl rfl ?_
   refine St.done ?_
   refine St.thenN ?_
   refine St.seq ?_
   refine St.condT rfl ?_
   refine St.skip ?_
   refine St.thenN ?_
   refine St.prune (Γ' := [(4, _), (9, _), (10, _), (11, _), (19, _), (20, _), (21, _)]) ⟨rfl, rfl, rfl, rfl, rfl, rfl, rfl, trivial⟩ (.k (.k (.k .z))) ?_
   refine St.seq ?_
   refine St.block ?_
   refine St.seq ?_
   refine St.region ?_
   refine St.ixB 0 rfl rfl rfl rfl rfl rfl rfl rfl rfl rfl ?_
   refine St.loadB 0 rfl rfl (.head _) rfl rfl ?_
   refine St.p rfl rfl ?_
   refine St.done ?_
   refine St.thenN ?_
   refine St.prune (Γ' := [(4, _), (8, _), (9, _), (10, _), (11, _), (19, _), (20, _), (21, _)]) ⟨rfl, rfl, rfl, rfl, rfl, rfl, rfl, rfl, trivial⟩ (.k (.k (.k .z))) ?_
   refine St.seq ?_
   refine St.seq ?_
   refine St.region ?_
   iterate 3 refine St.p rfl rfl ?_
   refine St.done ?_
   refine St.thenN ?_
   refine St.prune (Γ' := [(4, _), (8, _), (9, _), (10, _), (11, _), (19, _), (20, _), (21, _), (27, _)]) ⟨rfl, rfl, rfl, rfl, rfl, rfl, rfl, rfl, rfl, trivial⟩ (.k (.k (.k .z))) ?_
   refine St.cond _ rfl (fun hb2 => ?_) (fun hb2 => ?_)
   ·replace h1 := bif_t hb2 h1
    refine St.seq ?_
    refine St.region ?_
    refine St.p rfl rfl ?_
    refine St.p rfl rfl ?_
    refine St.done ?_
    refine St.thenN ?_
    refine St.prune (Γ' := [(2, _), (3, _)]) ⟨rfl, rfl, trivial⟩ (.d (.d (.d .z))) ?_
    refine St.ret ?_
    repeat (first | refine St.thenR ?_ | refine St.blkR ?_)
    injection h1 with h1
    subst h1
    have ho := hd1 _ rfl
    subst ho
    have h : some _ = some _ := h
    injection h with h
    subst h
    exact St.finR Tryd.results89 (.tmp rfl (.tmp rfl .nil)) rfl [] ⟨rfl, rfl⟩ (fun _ w => (.z : Keep _ _).sat w)
   ·replace h1 := bif_f hb2 h1
    refine St.skip ?_
    refine St.thenN ?_
    refine St.prune (Γ' := [(4, _), (8, _), (9, _), (10, _), (11, _), (19, _), (20, _), (21, _)]) ⟨rfl, rfl, rfl, rfl, rfl, rfl, rfl, rfl, trivial⟩ (.k (.k (.k .z))) ?_
    refine St.region ?_
    refine St.p rfl rfl ?_
    refine St.p rfl rfl ?_
    obtain ⟨y1, hy1, h1⟩ := bnd_e h1
    refine St.eltS rfl rfl rfl rfl rfl hy1 ?_
    refine St.buildSlice rfl rfl rfl rfl rfl rfl rfl rfl fun g2 => ?_
    obtain ⟨l1, hl1, h1⟩ := bnd_e h1
    refine St.app (E := eu8) hl1 rfl rfl rfl (.s (.s .z)) rfl rfl rfl rfl rfl rfl rfl rfl (srcB (.head _) rfl rfl) rfl rfl fun A4 c4 => ?_
    refine St.p rfl rfl ?_
    refine St.done ?_
    refine St.blkN ?_
    refine St.thenN ?_
    refine St.prune (Γ' := [(4, _), (9, _), (10, _), (11, _), (19, _), (20, _), (21, _)]) ⟨rfl, rfl, rfl, rfl, rfl, rfl, rfl, trivial⟩ (.k (.d (.k (.k .z)))) ?_
    refine St.region ?_
    refine St.p rfl rfl ?_
    refine St.p rfl rfl ?_
    refine St.done ?_
    refine St.thenN ?_
    refine St.round ?_
    refine St.prune (Γ' := [(4, _), (9, _), (10, _), (11, _), (19, _), (20, _), (21, _)]) ⟨rfl, rfl, rfl, rfl, rfl, rfl, rfl, trivial⟩ (.k (.k (.k .z))) ?_
    refine St.seq ?_
    refine St.region ?_
    refine St.p rfl rfl ?_
    refine St.done ?_
    refine St.thenN ?_
    refine St.seq ?_
    refine St.condT rfl ?_
    refine St.skip ?_
    refine St.thenN ?_
    refine St.prune (Γ' := [(4, _), (9, _), (10, _), (11, _), (19, _), (20, _), (21, _)]) ⟨rfl, rfl, rfl, rfl, rfl, rfl, rfl, trivial⟩ (.k (.k (.k .z))) ?_
    refine St.seq ?_
    refine St.block ?_
    refine St.seq ?_
    refine St.region ?_
    refine St.ixB 1 rfl rfl rfl rfl rfl rfl rfl rfl rfl rfl ?_
    refine St.loadB 1 rfl rfl (.tail _ (.head _)) rfl rfl ?_
    refine St.p rfl rfl ?_
    refine St.done ?_
    refine St.thenN ?_
    refine St.prune (Γ' := [(4, _), (8, _), (9, _), (10, _), (11, _), (19, _), (20, _), (21, _)]) ⟨rfl, rfl, rfl, rfl, rfl, rfl, rfl, rfl, trivial⟩ (.k (.k (.k .z))) ?_
    refine St.seq ?_
    refine St.seq ?_
    refine St.region ?_
    iterate 3 refine St.p rfl rfl ?_
    refine St.done ?_
    refine St.thenN ?_
    refine St.prune (Γ' := [(4, _), (8, _), (9, _), (10, _), (11, _), (19, _), (20, _), (21, _), (27, _)]) ⟨rfl, rfl, rfl, rfl, rfl, rfl, rfl, rfl, rfl, trivial⟩ (.k (.k (.k .z))) ?_
    refine St.cond _ rfl (fun hb3 => ?_) (fun hb3 => ?_)
    ·replace h1 := bif_t hb3 h1
     refine St.seq ?_
     refine St.region ?_
     refine St.p rfl rfl ?_
     refine St.p rfl rfl ?_
     refine St.done ?_
     refine St.thenN ?_
     refine St.prune (Γ' := [(2, _), (3, _)]) ⟨rfl, rfl, trivial⟩ (.d (.d (.d .z))) ?_
     refine St.ret ?_
     repeat (first | refine St.thenR ?_ | refine St.blkR ?_)
     injection h1 with h1
     subst h1
     have ho := hd1 _ rfl
     subst ho
     have h : some _ = some _ := h
     injection h with h
     subst h
     exact St.finR Tryd.results89 (.tmp rfl (.tmp rfl .nil)) rfl [] ⟨rfl, rfl⟩ (fun _ w => (.z : Keep _ _).sat w)
    ·replace h1 := bif_f hb3 h1
     refine St.skip ?_
     refine St.thenN ?_
     refine St.prune (Γ' := [(4, _), (8, _), (9, _), (10, _), (11, _), (19, _), (20, _), (21, _)]) ⟨rfl, rfl, rfl, rfl, rfl, rfl, rfl, rfl, trivial⟩ (.k (.k (.k .z))) ?_
     refine St.region ?_
     refine St.p rfl rfl ?_
     refine St.p rfl rfl ?_
     obtain ⟨y2, hy2, h1⟩ := bnd_e h1
     refine St.eltS rfl rfl rfl rfl rfl hy2 ?_
     refine St.buildSlice rfl rfl rfl rfl rfl rfl rfl rfl fun g3 => ?_
     obtain ⟨l2, hl2, h1⟩ := bnd_e h1
     refine St.app (E := eu8) hl2 rfl rfl rfl (.s .z) rfl rfl rfl rfl rfl rfl rfl rfl (srcB (.head _) rfl rfl) rfl rfl fun A5 c5 => ?_
     refine St.p rfl rfl ?_
     refine St.done ?_
     refine St.blkN ?_
     refine St.thenN ?_
     refine St.prune (Γ' := [(4, _), (9, _), (10, _), (11, _), (19, _), (20, _), (21, _)]) ⟨rfl, rfl, rfl, rfl, rfl, rfl, rfl, trivial⟩ (.k (.d (.k (.k .z)))) ?_
     refine St.region ?_
     refine St.p rfl rfl ?_
     refine St.p rfl rfl ?_
     refine St.done ?_
     refine St.thenN ?_
     refine St.round ?_
     refine St.prune (Γ' := [(4, _), (9, _), (10, _), (11, _), (19, _), (20, _), (21, _)]) ⟨rfl, rfl, rfl, rfl, rfl, rfl, rfl, trivial⟩ (.k (.k (.k .z))) ?_
     refine St.seq ?_
     refine St.region ?_
     refine St.p rfl rfl ?_
     refine St.done ?_
     refine St.thenN ?_
     refine St.seq ?_
     refine St.condF rfl ?_
     refine St.exit ?_
     repeat (first | refine St.thenX ?_ | refine St.blkMiss rfl ?_)
     refine St.blkHit ?_
     refine St.blkN ?_
     refine St.thenN ?_
     refine St.prune (Γ' := [(4, _), (9, _), (10, _), (11, _)]) ⟨rfl, rfl, rfl, rfl, trivial⟩ (.k (.d (.k .z))) ?_
     refine St.region ?_
     refine St.p rfl rfl ?_
     refine St.p rfl rfl ?_
     refine St.done ?_
     injection h1 with h1
     subst h1
     refine St.thenN ?_
     exact St.again _ (A5, c5) hm1 trivial ⟨rfl, rfl, rfl, rfl, trivial⟩ (fun _ w => ((.k (.k .z)) : Keep _ _).sat w)
  ·replace h1 := bif_f hb1 h1
   refine St.exit ?_
   repeat (first | refine St.thenX ?_ | refine St.blkMiss rfl ?_)
   refine St.blkHit ?_
   injection h1 with h1
   subst h1
   have ho := hd1 _ rfl
   subst ho
   refine St.thenN ?_
   exact St.hereI s1.1 (A2, c2) rfl ⟨rfl, trivial⟩ (fun _ w => ((.k (.d .z)) : Keep _ _).sat w)
 ·rintro o2 ⟨A3, c3⟩ ho
  subst ho
  have h : _ = some _ := h
  refine St.seq ?_
  refine St.region ?_
  refine St.p rfl rfl ?_
  refine St.asrt (fun _ w => (w.front .z).meltL) ?_
  refine St.b2s rfl rfl rfl rfl rfl rfl rfl rfl rfl (srcL (E := eu8) (.head _)) ?_
  refine St.p rfl rfl ?_
  refine St.p rfl rfl ?_
  refine St.done ?_
  refine St.thenN ?_
  refine St.prune (Γ' := [(2, _), (3, _)]) ⟨rfl, rfl, trivial⟩ (.d .z) ?_
  refine St.ret ?_
  repeat (first | refine St.thenR ?_ | refine St.blkR ?_)
  injection h with h
  subst h
  exact St.finR Tryd.results89 (.tmp rfl (.tmp rfl .nil)) rfl [] ⟨rfl, rfl⟩ (fun _ w => (.z : Keep _ _).sat w)

theorem ent90 : Ent Tryd.prog 90 := ⟨_, Tryd.func90, by kernel_rfl, by kernel_rfl⟩

noncomputable def m_fields_unpack (b_p0 : (List Int)) : Option (ByteArray × Bool) :=
 bnd (loopM (τ := List Int × Int) (fun (s1 : List Int × Int × Int × Int) => bif decide (s1.2.2.2 < (b_p0.length : Int)) then (bnd (elt b_p0 s1.2.2.2) fun x1 => bnd (shlM .i64 (IntKind.wrap .i64 x1) s1.2.2.1) fun q1 => bnd (loopM (τ := List Int × Int × Int) (fun (s2 : List Int × Int × Int) => bif decide (s2.2.2 ≥ 6) then (bnd (app 1 s2.1 [IntKind.wrap .u8 (IntKind.wrap .i64 ((iAnd .i64 s2.2.1 63) + 32))]) fun l1 => some (.next (l1, iShr .i64 s2.2.1 6, IntKind.wrap .i64 (s2.2.2 - 6)))) else (some (.done (s2.1, s2.2.1, s2.2.2)))) (s1.1, iOr .i64 s1.2.1 q1, IntKind.wrap .i64 (s1.2.2.1 + 8))) fun o2 => some (.next (o2.1, o2.2.1, o2.2.2, IntKind.wrap .i64 (s1.2.2.2 + 1)))) else (some (.done (s1.1, s1.2.1)))) ([], 0, 0, 0)) fun o1 => some (strOf o1.1, (o1.2 == 0))

theorem c_fields_unpack {b_p0 : (List Int)} {A1 : Option Addr} {c1 : Nat} {r : (ByteArray × Bool)} (h : m_fields_unpack b_p0 = some r) :
  Fun Tryd.prog 90 [.slice A1 b_p0.length c1] [.ro (SlL eu8 A1 c1 b_p0)] (Val (.tuple #[.string r.1, .bool r.2])) := by
 unfold m_fields_unpack at h
 refine Fun.intro Tryd.func90 rfl rfl rfl fun w R => ?_
 refine St.seq ?_
 refine St.region ?_
 refine St.p rfl rfl ?_
 refine St.p rfl rfl ?_
 refine St.done ?_
 refine St.thenN ?_
 refine St.prune (Γ' := [(0, _)]) ⟨rfl, trivial⟩ (.k .z) ?_
 refine St.seq ?_
 refine St.region ?_
 refine St.p rfl rfl ?_
 refine St.done ?_
 refine St.thenN ?_
 refine St.seq ?_
 refine St.region ?_
 refine St.p rfl rfl ?_
 refine St.p rfl rfl ?_
 refine St.done ?_
 refine St.thenN ?_
 refine St.seq ?_
 refine St.seq ?_
 refine St.region ?_
 iterate 3 refine St.p rfl rfl ?_
 refine St.done ?_
 refine St.thenN ?_
 refine St.prune (Γ' := [(4, _), (5, _), (6, _), (9, _), (10, _), (11, _)]) ⟨rfl, rfl, rfl, rfl, rfl, rfl, trivial⟩ (.k .z) ?_
 refine St.asrt (fun _ w => w.nilL eu8 5) ?_
 obtain ⟨o1, hl1, h⟩ := bnd_e h
 refine St.cutE (fun (e2 : Option Addr × Nat) => [(4, .slice e2.1 o1.1.length e2.2), (5, .int .i64 o1.2)]) (fun e2 => .res (OwnL eu8 5 e2.1 e2.2 o1.1) :: R) ?_ ?_
 ·refine St.block ?_
  refine St.loop hl1 (fun (s1 : List Int × Int × Int × Int) (e1 : Option Addr × Nat) => [(4, .slice e1.1 s1.1.length e1.2), (5, .int .i64 s1.2.1), (6, .int .i64 s1.2.2.1), (9, .slice A1 b_p0.length c1), (10, .int .i64 (b_p0.length : Int)), (11, .int .i64 s1.2.2.2)]) (fun s1 e1 => .res (OwnL eu8 5 e1.1 e1.2 s1.1) :: .ro (SlL eu8 A1 c1 b_p0) :: R) (fun _ _ => True) (none, 0) trivial ⟨rfl, rfl, rfl, rfl, rfl, rfl, trivial⟩ (fun _ w => ((.k (.k .z)) : Keep _ _).sat w) ?_
  rintro s1 ⟨A2, c2⟩ - hit1
  obtain ⟨st1, hm1, hd1⟩ := iter_e hit1
  have h1 := hm1
  refine St.seq ?_
  refine St.region ?_
  refine St.p rfl rfl ?_
  refine St.done ?_
  refine St.thenN ?_
  refine St.seq ?_
  refine St.cond _ rfl (fun hb1 => ?_) (fun hb1 => ?_)
  ·replace h1 := bif_t hb1 h1
   refine St.skip ?_
   refine St.thenN ?_
   refine St.prune (Γ' := [(4, _), (5, _), (6, _), (9, _), (10, _), (11, _)]) ⟨rfl, rfl, rfl, rfl, rfl, rfl, trivial⟩ (.k (.k .z)) ?_
   refine St.seq ?_
   refine St.block ?_
   refine St.seq ?_
   refine St.region ?_
   obtain ⟨x1, hx1, h1⟩ := bnd_e h1
   refine St.ixL hx1 rfl rfl rfl (.tail _ (.head _)) rfl rfl rfl rfl rfl fun b1 ob1 => ?_
   refine St.load ob1 0 rfl rfl (.head _) rfl rfl ?_
   refine St.p rfl rfl ?_
   refine St.done ?_
   refine St.thenN ?_
   refine St.prune (Γ' := [(4, _), (5, _), (6, _), (8, _), (9, _), (10, _), (11, _)]) ⟨rfl, rfl, rfl, rfl, rfl, rfl, rfl, trivial⟩ (.d (.k (.k .z))) ?_
   refine St.seq ?_
   refine St.region ?_
   iterate 4 refine St.p rfl rfl ?_
   obtain ⟨q1, hq1, h1⟩ := bnd_e h1
   refine St.shl rfl rfl rfl hq1 ?_
   iterate 5 refine St.p rfl rfl ?_
   refine St.done ?_
   refine St.thenN ?_
   refine St.prune (Γ' := [(4, _), (5, _), (6, _), (9, _), (10, _), (11, _)]) ⟨rfl, rfl, rfl, rfl, rfl, rfl, trivial⟩ (.k (.k .z)) ?_
   obtain ⟨o2, hl2, h1⟩ := bnd_e h1
   refine St.selfThen ?_
   refine St.cutE (fun (e4 : Option Addr × Nat) => [(4, .slice e4.1 o2.1.length e4.2), (5, .int .i64 o2.2.1), (6, .int .i64 o2.2.2), (9, .slice A1 b_p0.length c1), (10, .int .i64 (b_p0.length : Int)), (11, .int .i64 s1.2.2.2)]) (fun e4 => .res (OwnL eu8 5 e4.1 e4.2 o2.1) :: .ro (SlL eu8 A1 c1 b_p0) :: R) ?_ ?_
   ·refine St.block ?_
    refine St.loop hl2 (fun (s2 : List Int × Int × Int) (e3 : Option Addr × Nat) => [(4, .slice e3.1 s2.1.length e3.2), (5, .int .i64 s2.2.1), (6, .int .i64 s2.2.2), (9, .slice A1 b_p0.length c1), (10, .int .i64 (b_p0.length : Int)), (11, .int .i64 s1.2.2.2)]) (fun s2 e3 => .res (OwnL eu8 5 e3.1 e3.2 s2.1) :: .ro (SlL eu8 A1 c1 b_p0) :: R) (fun _ _ => True) (A2, c2) trivial ⟨rfl, rfl, rfl, rfl, rfl, rfl, trivial⟩ (fun _ w => ((.k (.k .z)) : Keep _ _).sat w) ?_
    rintro s2 ⟨A4, c4⟩ - hit2
    obtain ⟨st2, hm2, hd2⟩ := iter_e hit2
    have h2 := hm2
    refine St.seq ?_
    refine St.seq ?_
    refine St.region ?_
    refine St.p rfl rfl ?_
    refine St.p rfl rfl ?_
    refine St.done ?_
    refine St.thenN ?_
    refine St.prune (Γ' := [(4, _), (5, _), (6, _), (9, _), (10, _), (11, _), (24, _)]) ⟨rfl, rfl, rfl, rfl, rfl, rfl, rfl, trivial⟩ (.k (.k .z)) ?_
    refine St.cond _ rfl (fun hb2 => ?_) (fun hb2 => ?_)
    ·replace h2 := bif_t hb2 h2
     refine St.skip ?_
     refine St.thenN ?_
     refine St.prune (Γ' := [(4, _), (5, _), (6, _), (9, _), (10, _), (11, _)]) ⟨rfl, rfl, rfl, rfl, rfl, rfl, trivial⟩ (.k (.k .z)) ?_
     refine St.block ?_
     refine St.seq ?_
     refine St.region ?_
     iterate 5 refine St.p rfl rfl ?_
     refine St.buildSlice rfl rfl rfl rfl rfl rfl rfl rfl fun g1 => ?_
     obtain ⟨l1, hl1, h2⟩ := bnd_e h2
     refine St.app (E := eu8) hl1 rfl rfl rfl (.s .z) rfl rfl rfl rfl rfl rfl rfl rfl (srcB (.head _) rfl rfl) rfl rfl fun A6 c6 => ?_
     refine St.p rfl rfl ?_
     refine St.done ?_
     refine St.thenN ?_
     refine St.prune (Γ' := [(4, _), (5, _), (6, _), (9, _), (10, _), (11, _)]) ⟨rfl, rfl, rfl, rfl, rfl, rfl, trivial⟩ (.k (.d (.k .z))) ?_
     refine St.region ?_
     iterate 6 refine St.p rfl rfl ?_
     refine St.done ?_
     refine St.blkN ?_
     injection h2 with h2
     subst h2
     refine St.thenN ?_
     exact St.again _ (A6, c6) hm2 trivial ⟨rfl, rfl, rfl, rfl, rfl, rfl, trivial⟩ (fun _ w => ((.k (.k .z)) : Keep _ _).sat w)
    ·replace h2 := bif_f hb2 h2
     refine St.exit ?_
     repeat (first | refine St.thenX ?_ | refine St.blkMiss rfl ?_)
     refine St.blkHit ?_
     injection h2 with h2
     subst h2
     have ho := hd2 _ rfl
     subst ho
     refine St.thenN ?_
     exact St.hereE (A4, c4) ⟨rfl, rfl, rfl, rfl, rfl, rfl, trivial⟩ (fun _ w => ((.k (.k .z)) : Keep _ _).sat w)
   ·rintro ⟨A5, c5⟩
    refine St.blkN ?_
    refine St.thenN ?_
    refine St.region ?_
    refine St.p rfl rfl ?_
    refine St.p rfl rfl ?_
    refine St.done ?_
    injection h1 with h1
    subst h1
    refine St.thenN ?_
    exact St.again _ (A5, c5) hm1 trivial ⟨rfl, rfl, rfl, rfl, rfl, rfl, trivial⟩ (fun _ w => ((.k (.k .z)) : Keep _ _).sat w)
  ·replace h1 := bif_f hb1 h1
   refine St.exit ?_
   repeat (first | refine St.thenX ?_ | refine St.blkMiss rfl ?_)
   refine St.blkHit ?_
   injection h1 with h1
   subst h1
   have ho := hd1 _ rfl
   subst ho
   refine St.thenN ?_
   exact St.hereE (A2, c2) ⟨rfl, rfl, trivial⟩ (fun _ w => ((.k (.d .z)) : Keep _ _).sat w)
 ·rintro ⟨A3, c3⟩
  refine St.seq ?_
  refine St.region ?_
  refine St.p rfl rfl ?_
  refine St.asrt (fun _ w => (w.front .z).meltL) ?_
  refine St.b2s rfl rfl rfl rfl rfl rfl rfl rfl rfl (srcL (E := eu8) (.head _)) ?_
  iterate 4 refine St.p rfl rfl ?_
  refine St.done ?_
  refine St.thenN ?_
  refine St.prune (Γ' := [(2, _), (3, _)]) ⟨rfl, rfl, trivial⟩ (.d .z) ?_
  refine St.ret ?_
  repeat (first | refine St.thenR ?_ | refine St.blkR ?_)
  injection h with h
  subst h
  exact St.finR Tryd.results90 (.tmp rfl (.tmp rfl .nil)) rfl [] ⟨rfl, rfl⟩ (fun _ w => (.z : Keep _ _).sat w)

theorem ent75 : Ent Tryd.prog 75 := ⟨_, Tryd.func75, by kernel_rfl, by kernel_rfl⟩

noncomputable def m_fields_Decode (b_p0 : (List Int)) : Option (T_Field × Int × Bool × Int) :=
 bif ((b_p0.length : Int) == 0) then (some ((⟨0, ⟨#[]⟩⟩ : T_Field), 0, false, 4)) else (bnd (elt b_p0 0) fun x1 => bif (x1 == 193) then (some ((⟨0, ⟨#[]⟩⟩ : T_Field), 1, true, 0)) else (bif decide ((b_p0.length : Int) < (IntKind.wrap .i64 (1 + (IntKind.wrap .i64 (iAnd .u8 x1 63))))) then (some ((⟨0, ⟨#[]⟩⟩ : T_Field), 0, false, 4)) else (bnd (elt b_p0 0) fun x2 => bnd (sub b_p0 1 (IntKind.wrap .i64 (1 + (IntKind.wrap .i64 (iAnd .u8 x1 63))))) fun l1 => bnd ((bif ((IntKind.wrap .i64 (iShr .u8 x2 6)) == 1) then (bnd (sub b_p0 1 (IntKind.wrap .i64 (1 + (IntKind.wrap .i64 (iAnd .u8 x1 63))))) fun l2 => bnd (m_fields_decimal l2) fun r1 => some (r1.2, r1.1)) else (bif ((IntKind.wrap .i64 (iShr .u8 x2 6)) == 2) then (bnd (sub b_p0 1 (IntKind.wrap .i64 (1 + (IntKind.wrap .i64 (iAnd .u8 x1 63))))) fun l3 => bnd (m_fields_unpack l3) fun r2 => some (r2.2, r2.1)) else (some (true, strOf l1))) : Option (Bool × ByteArray))) fun o1 => bif !o1.1 then (some ((⟨0, ⟨#[]⟩⟩ : T_Field), 0, false, 6)) else (some ((⟨IntKind.wrap .i64 (iShr .u8 x2 6), o1.2⟩ : T_Field), IntKind.wrap .i64 (1 + (IntKind.wrap .i64 (iAnd .u8 x1 63))), false, 0)))))

theorem c_fields_Decode {b_p0 : (List Int)} {A1 : Option Addr} {c1 : Nat} {r : (T_Field × Int × Bool × Int)} (h : m_fields_Decode b_p0 = some r) :
  Fun Tryd.prog 75 [.slice A1 b_p0.length c1] [.ro (SlL eu8 A1 c1 b_p0)] (Val (.tuple #[.agg #[.int .i64 r.1.Kind, .string r.1.Value], .int .i64 r.2.1, .bool r.2.2.1, .int .i64 r.2.2.2])) := by
 unfold m_fields_Decode at h
 refine Fun.intro Tryd.func75 rfl rfl rfl fun w R => ?_
 refine St.seq ?_
 refine St.region ?_
 refine St.alloc rfl rfl fun g1 => ?_
 iterate 3 refine St.p rfl rfl ?_
 refine St.done ?_
 refine St.thenN ?_
 refine St.prune (Γ' := [(0, _), (2, _)]) ⟨rfl, rfl, trivial⟩ (.k (.k .z)) ?_
 refine St.seq ?_
 refine St.block ?_
 refine St.seq ?_
 refine St.region ?_
 iterate 4 refine St.p rfl rfl ?_
 refine St.done ?_
 refine St.thenN ?_
 refine St.prune (Γ' := [(0, _), (2, _), (7, _)]) ⟨rfl, rfl, rfl, trivial⟩ (.k (.k .z)) ?_
 refine St.cond _ rfl (fun hb1 => ?_) (fun hb1 => ?_)
 ·replace h := bif_t hb1 h
  refine St.seq ?_
  refine St.region ?_
  refine St.p rfl rfl ?_
  refine St.store 0 rfl rfl rfl rfl rfl rfl .z rfl ?_
  iterate 3 refine St.p rfl rfl ?_
  refine St.done ?_
  refine St.thenN ?_
  refine St.prune (Γ' := [(2, _), (3, _), (4, _), (5, _)]) ⟨rfl, rfl, rfl, rfl, trivial⟩ (.k (.d .z)) ?_
  refine St.ret ?_
  repeat (first | refine St.thenR ?_ | refine St.blkR ?_)
  injection h with h
  subst h
  exact St.finR Tryd.results75 (.cell rfl (.head _) rfl (.tmp rfl (.tmp rfl (.tmp rfl .nil)))) rfl [] ⟨rfl, rfl⟩ (fun _ w => ((.d .z) : Keep _ _).sat w)
 ·replace h := bif_f hb1 h
  refine St.seq ?_
  refine St.region ?_
  refine St.p rfl rfl ?_
  obtain ⟨x1, hx1, h⟩ := bnd_e h
  refine St.ixL hx1 rfl rfl rfl (.tail _ (.head _)) rfl rfl rfl rfl rfl fun b1 ob1 => ?_
  refine St.load ob1 0 rfl rfl (.head _) rfl rfl ?_
  refine St.p rfl rfl ?_
  refine St.p rfl rfl ?_
  refine St.done ?_
  refine St.thenN ?_
  refine St.prune (Γ' := [(0, _), (2, _), (12, _)]) ⟨rfl, rfl, rfl, trivial⟩ (.d (.k (.k .z))) ?_
  refine St.cond _ rfl (fun hb2 => ?_) (fun hb2 => ?_)
  ·replace h := bif_t hb2 h
   refine St.seq ?_
   refine St.region ?_
   refine St.p rfl rfl ?_
   refine St.store 0 rfl rfl rfl rfl rfl rfl .z rfl ?_
   iterate 3 refine St.p rfl rfl ?_
   refine St.done ?_
   refine St.thenN ?_
   refine St.prune (Γ' := [(2, _), (3, _), (4, _), (5, _)]) ⟨rfl, rfl, rfl, rfl, trivial⟩ (.k (.d .z)) ?_
   refine St.ret ?_
   repeat (first | refine St.thenR ?_ | refine St.blkR ?_)
   injection h with h
   subst h
   exact St.finR Tryd.results75 (.cell rfl (.head _) rfl (.tmp rfl (.tmp rfl (.tmp rfl .nil)))) rfl [] ⟨rfl, rfl⟩ (fun _ w => ((.d .z) : Keep _ _).sat w)
  ·replace h := bif_f hb2 h
   refine St.skip ?_
   refine St.blkN ?_
   refine St.thenN ?_
   refine St.prune (Γ' := [(0, _), (2, _)]) ⟨rfl, rfl, trivial⟩ (.k (.k .z)) ?_
   refine St.seq ?_
   refine St.region ?_
   refine St.p rfl rfl ?_
   refine St.ixL hx1 rfl rfl rfl (.tail _ (.head _)) rfl rfl rfl rfl rfl fun b2 ob2 => ?_
   refine St.load ob2 0 rfl rfl (.head _) rfl rfl ?_
   iterate 4 refine St.p rfl rfl ?_
   refine St.done ?_
   refine St.thenN ?_
   refine St.prune (Γ' := [(0, _), (2, _), (3, _)]) ⟨rfl, rfl, rfl, trivial⟩ (.d (.k (.k .z))) ?_
   refine St.seq ?_
   refine St.seq ?_
   refine St.region ?_
   iterate 4 refine St.p rfl rfl ?_
   refine St.done ?_
   refine St.thenN ?_
   refine St.prune (Γ' := [(0, _), (2, _), (3, _), (27, _)]) ⟨rfl, rfl, rfl, rfl, trivial⟩ (.k (.k .z)) ?_
   refine St.cond _ rfl (fun hb3 => ?_) (fun hb3 => ?_)
   ·replace h := bif_t hb3 h
    refine St.seq ?_
    refine St.region ?_
    refine St.p rfl rfl ?_
    refine St.store 0 rfl rfl rfl rfl rfl rfl .z rfl ?_
    iterate 3 refine St.p rfl rfl ?_
    refine St.done ?_
    refine St.thenN ?_
    refine St.prune (Γ' := [(2, _), (3, _), (4, _), (5, _)]) ⟨rfl, rfl, rfl, rfl, trivial⟩ (.k (.d .z)) ?_
    refine St.ret ?_
    repeat (first | refine St.thenR ?_ | refine St.blkR ?_)
    injection h with h
    subst h
    exact St.finR Tryd.results75 (.cell rfl (.head _) rfl (.tmp rfl (.tmp rfl (.tmp rfl .nil)))) rfl [] ⟨rfl, rfl⟩ (fun _ w => ((.d .z) : Keep _ _).sat w)
   ·replace h := bif_f hb3 h
    refine St.skip ?_
    refine St.thenN ?_
    refine St.prune (Γ' := [(0, _), (2, _), (3, _)]) ⟨rfl, rfl, rfl, trivial⟩ (.k (.k .z)) ?_
    refine St.seq ?_
    refine St.regionX (iL [(.fl, 0), (.fx, 1), (.fx, 2), (.fl, 3), (.fl, 4), (.fl, 5), (.fl, 6), (.fx, 7), (.fx, 8), (.fl, 9), (.ef, 10)] .nil) (.ro (SlL eu8 A1 c1 b_p0) :: R) mixed (by kernel_rfl) (fun _ w => ((.d (.k .z)) : Keep _ _).sat w) ?_
    refine St.xfl (fun _ h => h) (Rd.p rfl) rfl ?_
    obtain ⟨x2, hx2, h⟩ := bnd_e h
    refine St.openA (.tail _ (.head _)) hx2 fun b3 ob3 hqb3 => ?_
    refine St.asrt (fun _ w => Sat.addC hqb3 (.tail _ (.head _)) hx2 w) ?_
    have hc1 := fun w h => Sat.addC hqb3 (.head _) hx2 ((fun (w : World) (h : Sat (.ro (SlL eu8 A1 c1 b_p0) :: R) w) => h) w h)
    refine St.xfx (Rd.ixL (E := eu8) hqb3 hx2 rfl rfl rfl rfl rfl rfl rfl) rfl ?_
    refine St.xfx (Rd.load ob3 0 rfl (.head _) rfl rfl) rfl ?_
    refine St.xfl (fun _ h => h) (Rd.p rfl) rfl ?_
    refine St.xfl (fun _ h => h) (Rd.p rfl) rfl ?_
    refine St.xfl (fun _ h => h) (Rd.p rfl) rfl ?_
    refine St.xfl (fun _ h => h) (Rd.p rfl) rfl ?_
    obtain ⟨l1, hl1, h⟩ := bnd_e h
    refine St.openS (.tail _ (.tail _ (.head _))) hl1 fun A2 c2 hS1 => ?_
    have hc2 := fun w h => Sat.addS hS1 (.tail _ (.head _)) hl1 (hc1 w h)
    refine St.xfx (Rd.sub hS1 hl1 (.tail _ (.tail _ (.tail _ (.head _)))) rfl rfl rfl rfl rfl rfl rfl rfl) rfl ?_
    refine St.xfx (Rd.b2s (.head _) rfl rfl rfl rfl rfl rfl rfl rfl) rfl ?_
    refine St.xfl (fun _ h => h) (Rd.p rfl) rfl ?_
    refine St.xef ?_
    refine St.store 0 rfl rfl rfl rfl rfl rfl (.s (.s .z)) rfl ?_
    refine St.xk (fun _ w => ((.d (.d (.d (.k .z)))) : Keep _ _).sat w) ?_
    refine St.xdone ?_
    refine St.thenN ?_
    refine St.prune (Γ' := [(0, _), (2, _), (3, _)]) ⟨rfl, rfl, rfl, trivial⟩ (.k (.d (.d (.k .z)))) ?_
    refine St.seq ?_
    refine St.region ?_
    refine St.p rfl rfl ?_
    refine St.done ?_
    refine St.thenN ?_
    refine St.seq ?_
    obtain ⟨o1, hj1, h⟩ := bnd_e h
    refine St.cutE (fun (e1 : Unit) => [(2, .pointer (some ⟨g1, 0, none⟩)), (3, .int .i64 (IntKind.wrap .i64 (1 + (IntKind.wrap .i64 (iAnd .u8 x1 63))))), (6, .bool o1.1)]) (fun e1 => .res (Box g1 60 [.int .i64 (IntKind.wrap .i64 (iShr .u8 x2 6)), .string o1.2]) :: R) ?_ ?_
    ·refine St.seq ?_
     refine St.region ?_
     refine St.p rfl rfl ?_
     refine St.loadB 0 rfl rfl (.head _) rfl rfl ?_
     refine St.done ?_
     refine St.thenN ?_
     refine St.prune (Γ' := [(0, _), (2, _), (3, _), (6, _), (40, _)]) ⟨rfl, rfl, rfl, rfl, rfl, trivial⟩ (.k (.k .z)) ?_
     refine St.block ?_
     refine St.seq ?_
     refine St.region ?_
     refine St.p rfl rfl ?_
     refine St.p rfl rfl ?_
     refine St.done ?_
     refine St.thenN ?_
     refine St.prune (Γ' := [(0, _), (2, _), (3, _), (6, _), (40, _), (41, _)]) ⟨rfl, rfl, rfl, rfl, rfl, rfl, trivial⟩ (.k (.k .z)) ?_
     refine St.cond _ rfl (fun hb4 => ?_) (fun hb4 => ?_)
     ·replace hj1 := bif_t hb4 hj1
      refine St.region ?_
      refine St.p rfl rfl ?_
      refine St.p rfl rfl ?_
      obtain ⟨l2, hl2, hj1⟩ := bnd_e hj1
      refine St.sub (E := (cod eu8)) rfl rfl (.tail _ (.head _)) rfl rfl rfl rfl rfl rfl rfl hl2 fun A3 c3 => ?_
      obtain ⟨r1, hr1, hj1⟩ := bnd_e hj1
      refine St.callV (c_fields_decimal hr1) ent89 rfl rfl rfl rfl ⟨(.head _), trivial⟩ ?_
      iterate 4 refine St.p rfl rfl ?_
      refine St.store 1 rfl rfl rfl rfl rfl rfl (.s .z) rfl ?_
      refine St.p rfl rfl ?_
      refine St.done ?_
      refine St.blkN ?_
      injection hj1 with hj1
      subst hj1
      refine St.thenN ?_
      exact St.hereE () ⟨rfl, rfl, rfl, trivial⟩ (fun _ w => ((.k (.d (.d .z))) : Keep _ _).sat w)
     ·replace hj1 := bif_f hb4 hj1
      refine St.seq ?_
      refine St.region ?_
      refine St.p rfl rfl ?_
      refine St.p rfl rfl ?_
      refine St.done ?_
      refine St.thenN ?_
      refine St.prune (Γ' := [(0, _), (2, _), (3, _), (6, _), (51, _)]) ⟨rfl, rfl, rfl, rfl, rfl, trivial⟩ (.k (.k .z)) ?_
      refine St.cond _ rfl (fun hb5 => ?_) (fun hb5 => ?_)
      ·replace hj1 := bif_t hb5 hj1
       refine St.region ?_
       refine St.p rfl rfl ?_
       refine St.p rfl rfl ?_
       obtain ⟨l3, hl3, hj1⟩ := bnd_e hj1
       refine St.sub (E := (cod eu8)) rfl rfl (.tail _ (.head _)) rfl rfl rfl rfl rfl rfl rfl hl3 fun A4 c4 => ?_
       obtain ⟨r2, hr2, hj1⟩ := bnd_e hj1
       refine St.callV (c_fields_unpack hr2) ent90 rfl rfl rfl rfl ⟨(.head _), trivial⟩ ?_
       iterate 4 refine St.p rfl rfl ?_
       refine St.store 1 rfl rfl rfl rfl rfl rfl (.s .z) rfl ?_
       refine St.p rfl rfl ?_
       refine St.done ?_
       refine St.blkN ?_
       injection hj1 with hj1
       subst hj1
       refine St.thenN ?_
       exact St.hereE () ⟨rfl, rfl, rfl, trivial⟩ (fun _ w => ((.k (.d (.d .z))) : Keep _ _).sat w)
      ·replace hj1 := bif_f hb5 hj1
       refine St.skip ?_
       refine St.blkN ?_
       injection hj1 with hj1
       subst hj1
       refine St.thenN ?_
       exact St.hereE () ⟨rfl, rfl, rfl, trivial⟩ (fun _ w => ((.k (.d .z)) : Keep _ _).sat w)
    ·rintro e1
     refine St.seq ?_
     refine St.seq ?_
     refine St.region ?_
     refine St.p rfl rfl ?_
     refine St.p rfl rfl ?_
     refine St.done ?_
     refine St.thenN ?_
     refine St.prune (Γ' := [(2, _), (3, _), (62, _)]) ⟨rfl, rfl, rfl, trivial⟩ (.k .z) ?_
     refine St.cond _ rfl (fun hb6 => ?_) (fun hb6 => ?_)
     ·replace h := bif_t hb6 h
      refine St.seq ?_
      refine St.region ?_
      refine St.p rfl rfl ?_
      refine St.store 0 rfl rfl rfl rfl rfl rfl .z rfl ?_
      iterate 3 refine St.p rfl rfl ?_
      refine St.done ?_
      refine St.thenN ?_
      refine St.prune (Γ' := [(2, _), (3, _), (4, _), (5, _)]) ⟨rfl, rfl, rfl, rfl, trivial⟩ (.k .z) ?_
      refine St.ret ?_
      repeat (first | refine St.thenR ?_ | refine St.blkR ?_)
      injection h with h
      subst h
      exact St.finR Tryd.results75 (.cell rfl (.head _) rfl (.tmp rfl (.tmp rfl (.tmp rfl .nil)))) rfl [] ⟨rfl, rfl⟩ (fun _ w => ((.d .z) : Keep _ _).sat w)
     ·replace h := bif_f hb6 h
      refine St.skip ?_
      refine St.thenN ?_
      refine St.prune (Γ' := [(2, _), (3, _)]) ⟨rfl, rfl, trivial⟩ (.k .z) ?_
      refine St.seq ?_
      refine St.region ?_
      refine St.loadB 0 rfl rfl (.head _) rfl rfl ?_
      refine St.p rfl rfl ?_
      refine St.store 0 rfl rfl rfl rfl rfl rfl .z rfl ?_
      iterate 3 refine St.p rfl rfl ?_
      refine St.done ?_
      refine St.thenN ?_
      refine St.prune (Γ' := [(2, _), (3, _), (4, _), (5, _)]) ⟨rfl, rfl, rfl, rfl, trivial⟩ (.k .z) ?_
      refine St.ret ?_
      repeat (first | refine St.thenR ?_ | refine St.blkR ?_)
      injection h with h
      subst h
      exact St.finR Tryd.results75 (.cell rfl (.head _) rfl (.tmp rfl (.tmp rfl (.tmp rfl .nil)))) rfl [] ⟨rfl, rfl⟩ (fun _ w => ((.d .z) : Keep _ _).sat w)

theorem ent57 : Ent Tryd.prog 57 := ⟨_, Tryd.func57, by kernel_rfl, by kernel_rfl⟩

noncomputable def m_fields_DecodeList (b_p0 : (List Int)) : Option ((List T_Field) × Int × Int) :=
 bnd (loopM (τ := ((List T_Field) × Int × Int) ⊕ Unit) (fun (s1 : List T_Field × Int) => bnd (sub b_p0 s1.2 (b_p0.length : Int)) fun l1 => bnd (m_fields_Decode l1) fun r1 => bif (r1.2.2.2 != 0) then (some (.done (.inl ([], 0, r1.2.2.2)))) else (bif r1.2.2.1 then (some (.done (.inl (s1.1, IntKind.wrap .i64 (s1.2 + r1.2.1), 0)))) else (bif ((s1.1.length : Int) == 16) then (some (.done (.inl ([], 0, 3)))) else (bnd (app 24 s1.1 [r1.1]) fun l2 => some (.next (l2, IntKind.wrap .i64 (s1.2 + r1.2.1))))))) ([], 0)) fun o1 => retOr o1 fun o2 => none

theorem c_fields_DecodeList {b_p0 : (List Int)} {A1 : Option Addr} {c1 : Nat} {r : ((List T_Field) × Int × Int)} (h : m_fields_DecodeList b_p0 = some r) :
  Fun Tryd.prog 57 [.slice A1 b_p0.length c1] [.ro (SlL eu8 A1 c1 b_p0)] (fun v_ F_ => ∃ (A1 : Option Addr) (c1 : Nat), v_ = .tuple #[.slice A1 r.1.length c1, .int .i64 r.2.1, .int .i64 r.2.2] ∧ F_ = [.res (OwnL e_Field 60 A1 c1 r.1)]) := by
 unfold m_fields_DecodeList at h
 refine Fun.intro Tryd.func57 rfl rfl rfl fun w R => ?_
 refine St.seq ?_
 refine St.region ?_
 iterate 3 refine St.p rfl rfl ?_
 refine St.done ?_
 refine St.thenN ?_
 refine St.prune (Γ' := [(0, _), (2, _), (3, _)]) ⟨rfl, rfl, rfl, trivial⟩ (.k .z) ?_
 refine St.asrt (fun _ w => w.nilL e_Field 60) ?_
 obtain ⟨o1, hl1, h⟩ := bnd_e h
 refine St.selfThen ?_
 refine St.cutI (fun (o2 : Unit) (e2 : Unit) => []) (fun o2 e2 => R) (fun o2 => o1 = .inr o2) ?_ ?_
 ·refine St.block ?_
  refine St.loop hl1 (fun (s1 : List T_Field × Int) (e1 : Option Addr × Nat) => [(0, .slice A1 b_p0.length c1), (2, .slice e1.1 s1.1.length e1.2), (3, .int .i64 s1.2)]) (fun s1 e1 => .res (OwnL e_Field 60 e1.1 e1.2 s1.1) :: .ro (SlL eu8 A1 c1 b_p0) :: R) (fun _ _ => True) (none, 0) trivial ⟨rfl, rfl, rfl, trivial⟩ (fun _ w => ((.k (.k .z)) : Keep _ _).sat w) ?_
  rintro s1 ⟨A2, c2⟩ - hit1
  obtain ⟨st1, hm1, hd1⟩ := iter_e hit1
  have h1 := hm1
  refine St.block ?_
  refine St.seq ?_
  refine St.region ?_
  refine St.p rfl rfl ?_
  refine St.p rfl rfl ?_
  obtain ⟨l1, hl1, h1⟩ := bnd_e h1
  refine St.sub (E := (cod eu8)) rfl rfl (.tail _ (.head _)) rfl rfl rfl rfl rfl rfl rfl hl1 fun A3 c3 => ?_
  obtain ⟨r1, hr1, h1⟩ := bnd_e h1
  refine St.callV (c_fields_Decode hr1) ent75 rfl rfl rfl rfl ⟨(.head _), trivial⟩ ?_
  iterate 5 refine St.p rfl rfl ?_
  refine St.alloc rfl rfl fun g1 => ?_
  refine St.store 0 rfl rfl rfl rfl rfl rfl .z rfl ?_
  iterate 3 refine St.p rfl rfl ?_
  refine St.done ?_
  refine St.thenN ?_
  refine St.prune (Γ' := [(0, _), (2, _), (3, _), (5, _), (6, _), (7, _), (8, _)]) ⟨rfl, rfl, rfl, rfl, rfl, rfl, rfl, trivial⟩ (.k (.d (.k (.k .z)))) ?_
  refine St.seq ?_
  refine St.block ?_
  refine St.seq ?_
  refine St.region ?_
  iterate 3 refine St.p rfl rfl ?_
  refine St.done ?_
  refine St.thenN ?_
  refine St.prune (Γ' := [(0, _), (2, _), (3, _), (5, _), (6, _), (7, _), (8, _), (18, _)]) ⟨rfl, rfl, rfl, rfl, rfl, rfl, rfl, rfl, trivial⟩ (.k (.k (.k .z))) ?_
  refine St.cond _ rfl (fun hb1 => ?_) (fun hb1 => ?_)
  ·replace h1 := bif_t hb1 h1
   refine St.seq ?_
   refine St.region ?_
   iterate 4 refine St.p rfl rfl ?_
   refine St.done ?_
   refine St.thenN ?_
   refine St.prune (Γ' := [(2, _), (3, _), (4, _)]) ⟨rfl, rfl, rfl, trivial⟩ (.d (.d (.d .z))) ?_
   refine St.ret ?_
   repeat (first | refine St.thenR ?_ | refine St.blkR ?_)
   refine St.asrt (fun _ w => w.nilL e_Field 60) ?_
   injection h1 with h1
   subst h1
   have ho := hd1 _ rfl
   subst ho
   have h : some _ = some _ := h
   injection h with h
   subst h
   exact St.finR Tryd.results57 (.tmp rfl (.tmp rfl (.tmp rfl .nil))) rfl [.res (OwnL e_Field 60 none 0 ([] : List T_Field))] ⟨none, 0, rfl, rfl⟩ (fun _ w => ((.k .z) : Keep _ _).sat w)
  ·replace h1 := bif_f hb1 h1
   refine St.seq ?_
   refine St.region ?_
   refine St.p rfl rfl ?_
   refine St.p rfl rfl ?_
   refine St.done ?_
   refine St.thenN ?_
   refine St.prune (Γ' := [(0, _), (2, _), (3, _), (5, _), (6, _), (22, _)]) ⟨rfl, rfl, rfl, rfl, rfl, rfl, trivial⟩ (.k (.k (.k .z))) ?_
   refine St.cond _ rfl (fun hb2 => ?_) (fun hb2 => ?_)
   ·replace h1 := bif_t hb2 h1
    refine St.seq ?_
    refine St.region ?_
    iterate 7 refine St.p rfl rfl ?_
    refine St.done ?_
    refine St.thenN ?_
    refine St.prune (Γ' := [(2, _), (3, _), (4, _)]) ⟨rfl, rfl, rfl, trivial⟩ (.d (.k (.d .z))) ?_
    refine St.ret ?_
    repeat (first | refine St.thenR ?_ | refine St.blkR ?_)
    injection h1 with h1
    subst h1
    have ho := hd1 _ rfl
    subst ho
    have h : some _ = some _ := h
    injection h with h
    subst h
    exact St.finR Tryd.results57 (.tmp rfl (.tmp rfl (.tmp rfl .nil))) rfl [.res (OwnL e_Field 60 A2 c2 s1.1)] ⟨A2, c2, rfl, rfl⟩ (fun _ w => ((.k .z) : Keep _ _).sat w)
   ·replace h1 := bif_f hb2 h1
    refine St.seq ?_
    refine St.region ?_
    iterate 4 refine St.p rfl rfl ?_
    refine St.done ?_
    refine St.thenN ?_
    refine St.prune (Γ' := [(0, _), (2, _), (3, _), (5, _), (6, _), (28, _)]) ⟨rfl, rfl, rfl, rfl, rfl, rfl, trivial⟩ (.k (.k (.k .z))) ?_
    refine St.cond _ rfl (fun hb3 => ?_) (fun hb3 => ?_)
    ·replace h1 := bif_t hb3 h1
     refine St.seq ?_
     refine St.region ?_
     iterate 3 refine St.p rfl rfl ?_
     refine St.done ?_
     refine St.thenN ?_
     refine St.prune (Γ' := [(2, _), (3, _), (4, _)]) ⟨rfl, rfl, rfl, trivial⟩ (.d (.d (.d .z))) ?_
     refine St.ret ?_
     repeat (first | refine St.thenR ?_ | refine St.blkR ?_)
     refine St.asrt (fun _ w => w.nilL e_Field 60) ?_
     injection h1 with h1
     subst h1
     have ho := hd1 _ rfl
     subst ho
     have h : some _ = some _ := h
     injection h with h
     subst h
     exact St.finR Tryd.results57 (.tmp rfl (.tmp rfl (.tmp rfl .nil))) rfl [.res (OwnL e_Field 60 none 0 ([] : List T_Field))] ⟨none, 0, rfl, rfl⟩ (fun _ w => ((.k .z) : Keep _ _).sat w)
    ·replace h1 := bif_f hb3 h1
     refine St.skip ?_
     refine St.blkN ?_
     refine St.thenN ?_
     refine St.prune (Γ' := [(0, _), (2, _), (3, _), (5, _), (6, _)]) ⟨rfl, rfl, rfl, rfl, rfl, trivial⟩ (.k (.k (.k .z))) ?_
     refine St.region ?_
     refine St.p rfl rfl ?_
     refine St.loadB 0 rfl rfl (.head _) rfl rfl ?_
     refine St.buildSlice rfl rfl rfl rfl rfl rfl rfl rfl fun g2 => ?_
     obtain ⟨l2, hl2, h1⟩ := bnd_e h1
     refine St.app (E := e_Field) hl2 rfl rfl rfl (.s (.s .z)) rfl rfl rfl rfl rfl rfl rfl rfl (srcB (.head _) rfl rfl) rfl rfl fun A4 c4 => ?_
     iterate 5 refine St.p rfl rfl ?_
     refine St.done ?_
     refine St.blkN ?_
     injection h1 with h1
     subst h1
     refine St.thenN ?_
     exact St.again _ (A4, c4) hm1 trivial ⟨rfl, rfl, rfl, trivial⟩ (fun _ w => ((.k (.d (.d (.k .z)))) : Keep _ _).sat w)
 ·rintro o2 e2 ho
  subst ho
  have h : _ = some _ := h
  have h : none = some _ := h
  cases h

theorem ent60 : Ent Tryd.prog 60 := ⟨_, Tryd.func60, by kernel_rfl, by kernel_rfl⟩

noncomputable def m_unitinfo_decodeArea_1 (x_p0 : Int) : Option Bool :=
 some (x_p0 != 0)

theorem c_unitinfo_decodeArea_1 {x_p0 : Int} {r : Bool} (h : m_unitinfo_decodeArea_1 x_p0 = some r) :
  Fun Tryd.prog 60 [.int .u8 x_p0] [] (Val (.bool r)) := by
 unfold m_unitinfo_decodeArea_1 at h
 refine Fun.intro Tryd.func60 rfl rfl rfl fun w R => ?_
 refine St.seq ?_
 refine St.region ?_
 refine St.p rfl rfl ?_
 refine St.done ?_
 refine St.thenN ?_
 refine St.prune (Γ' := [(0, _)]) ⟨rfl, trivial⟩ .z ?_
 refine St.seq ?_
 refine St.region ?_
 iterate 3 refine St.p rfl rfl ?_
 refine St.done ?_
 refine St.thenN ?_
 refine St.prune (Γ' := [(2, _)]) ⟨rfl, trivial⟩ .z ?_
 refine St.ret ?_
 repeat (first | refine St.thenR ?_ | refine St.blkR ?_)
 injection h with h
 subst h
 exact St.finR Tryd.results60 (.tmp rfl .nil) rfl [] ⟨rfl, rfl⟩ (fun _ w => (.z : Keep _ _).sat w)

theorem ent76 : Ent Tryd.prog 76 := ⟨_, Tryd.func76, by kernel_rfl, by kernel_rfl⟩

noncomputable def m_slices_IndexFunc__byte_byte_f60 (s_p0 : (List Int)) : Option Int :=
 bnd (loopM (τ := Int ⊕ Unit) (fun (s1 : Int) => bif decide (s1 < (s_p0.length : Int)) then (bnd (elt s_p0 s1) fun x1 => bnd (m_unitinfo_decodeArea_1 x1) fun r1 => bif r1 then (some (.done (.inl s1))) else (some (.next (IntKind.wrap .i64 (s1 + 1))))) else (some (.done (.inr ())))) 0) fun o1 => retOr o1 fun o2 => some (-1)

theorem c_slices_IndexFunc__byte_byte_f60 {s_p0 : (List Int)} {A1 : Option Addr} {c1 : Nat} {r : Int} (h : m_slices_IndexFunc__byte_byte_f60 s_p0 = some r) :
  Fun Tryd.prog 76 [.slice A1 s_p0.length c1, .func (.func 60) #[] #[]] [.ro (SlL eu8 A1 c1 s_p0)] (Val (.int .i64 r)) := by
 unfold m_slices_IndexFunc__byte_byte_f60 at h
 refine Fun.intro Tryd.func76 rfl rfl rfl fun w R => ?_
 refine St.seq ?_
 refine St.region ?_
 refine St.p rfl rfl ?_
 refine St.done ?_
 refine St.thenN ?_
 refine St.prune (Γ' := [(0, _), (1, _)]) ⟨rfl, rfl, trivial⟩ (.k .z) ?_
 refine St.seq ?_
 refine St.seq ?_
 refine St.region ?_
 iterate 3 refine St.p rfl rfl ?_
 refine St.done ?_
 refine St.thenN ?_
 refine St.prune (Γ' := [(0, _), (1, _), (7, _), (8, _)]) ⟨rfl, rfl, rfl, rfl, trivial⟩ (.k .z) ?_
 obtain ⟨o1, hl1, h⟩ := bnd_e h
 refine St.cutI (fun (o2 : Unit) (e2 : Unit) => []) (fun o2 e2 => R) (fun o2 => o1 = .inr o2) ?_ ?_
 ·refine St.block ?_
  refine St.loop hl1 (fun (s1 : Int) (e1 : Unit) => [(0, .slice A1 s_p0.length c1), (1, .func (.func 60) #[] #[]), (7, .int .i64 (s_p0.length : Int)), (8, .int .i64 s1)]) (fun s1 e1 => .ro (SlL eu8 A1 c1 s_p0) :: R) (fun _ _ => True) () trivial ⟨rfl, rfl, rfl, rfl, trivial⟩ (fun _ w => ((.k .z) : Keep _ _).sat w) ?_
  rintro s1 e1 - hit1
  obtain ⟨st1, hm1, hd1⟩ := iter_e hit1
  have h1 := hm1
  refine St.seq ?_
  refine St.region ?_
  refine St.p rfl rfl ?_
  refine St.done ?_
  refine St.thenN ?_
  refine St.seq ?_
  refine St.cond _ rfl (fun hb1 => ?_) (fun hb1 => ?_)
  ·replace h1 := bif_t hb1 h1
   refine St.skip ?_
   refine St.thenN ?_
   refine St.prune (Γ' := [(0, _), (1, _), (7, _), (8, _)]) ⟨rfl, rfl, rfl, rfl, trivial⟩ (.k .z) ?_
   refine St.seq ?_
   refine St.block ?_
   refine St.seq ?_
   refine St.region ?_
   refine St.p rfl rfl ?_
   refine St.p rfl rfl ?_
   refine St.done ?_
   refine St.thenN ?_
   refine St.prune (Γ' := [(0, _), (1, _), (5, _), (7, _), (8, _)]) ⟨rfl, rfl, rfl, rfl, rfl, trivial⟩ (.k .z) ?_
   refine St.seq ?_
   refine St.region ?_
   iterate 3 refine St.p rfl rfl ?_
   obtain ⟨x1, hx1, h1⟩ := bnd_e h1
   refine St.ixL hx1 rfl rfl rfl (.head _) rfl rfl rfl rfl rfl fun b1 ob1 => ?_
   refine St.load ob1 0 rfl rfl (.head _) rfl rfl ?_
   obtain ⟨r1, hr1, h1⟩ := bnd_e h1
   refine St.callV (c_unitinfo_decodeArea_1 hr1) ent60 rfl rfl rfl rfl trivial ?_
   refine St.done ?_
   refine St.thenN ?_
   refine St.prune (Γ' := [(0, _), (1, _), (5, _), (7, _), (8, _), (16, _)]) ⟨rfl, rfl, rfl, rfl, rfl, rfl, trivial⟩ (.d (.k .z)) ?_
   refine St.cond _ rfl (fun hb2 => ?_) (fun hb2 => ?_)
   ·replace h1 := bif_t hb2 h1
    refine St.seq ?_
    refine St.region ?_
    refine St.p rfl rfl ?_
    refine St.p rfl rfl ?_
    refine St.done ?_
    refine St.thenN ?_
    refine St.prune (Γ' := [(4, _)]) ⟨rfl, trivial⟩ (.d .z) ?_
    refine St.ret ?_
    repeat (first | refine St.thenR ?_ | refine St.blkR ?_)
    injection h1 with h1
    subst h1
    have ho := hd1 _ rfl
    subst ho
    have h : some _ = some _ := h
    injection h with h
    subst h
    exact St.finR Tryd.results76 (.tmp rfl .nil) rfl [] ⟨rfl, rfl⟩ (fun _ w => (.z : Keep _ _).sat w)
   ·replace h1 := bif_f hb2 h1
    refine St.skip ?_
    refine St.blkN ?_
    refine St.thenN ?_
    refine St.prune (Γ' := [(0, _), (1, _), (7, _), (8, _)]) ⟨rfl, rfl, rfl, rfl, trivial⟩ (.k .z) ?_
    refine St.region ?_
    refine St.p rfl rfl ?_
    refine St.p rfl rfl ?_
    refine St.done ?_
    injection h1 with h1
    subst h1
    refine St.thenN ?_
    exact St.again _ () hm1 trivial ⟨rfl, rfl, rfl, rfl, trivial⟩ (fun _ w => ((.k .z) : Keep _ _).sat w)
  ·replace h1 := bif_f hb1 h1
   refine St.exit ?_
   repeat (first | refine St.thenX ?_ | refine St.blkMiss rfl ?_)
   refine St.blkHit ?_
   injection h1 with h1
   subst h1
   have ho := hd1 _ rfl
   subst ho
   refine St.thenN ?_
   exact St.hereI () () rfl trivial (fun _ w => ((.d .z) : Keep _ _).sat w)
 ·rintro o2 e2 ho
  subst ho
  have h : _ = some _ := h
  refine St.seq ?_
  refine St.region ?_
  refine St.p rfl rfl ?_
  refine St.done ?_
  refine St.thenN ?_
  refine St.ret ?_
  repeat (first | refine St.thenR ?_ | refine St.blkR ?_)
  injection h with h
  subst h
  exact St.finR Tryd.results76 (.tmp rfl .nil) rfl [] ⟨rfl, rfl⟩ (fun _ w => (.z : Keep _ _).sat w)

theorem ent59 : Ent Tryd.prog 59 := ⟨_, Tryd.func59, by kernel_rfl, by kernel_rfl⟩

noncomputable def m_slices_ContainsFunc__byte_byte_f60 (s_p0 : (List Int)) : Option Bool :=
 bnd (m_slices_IndexFunc__byte_byte_f60 s_p0) fun r1 => some (decide (r1 ≥ 0))

theorem c_slices_ContainsFunc__byte_byte_f60 {s_p0 : (List Int)} {A1 : Option Addr} {c1 : Nat} {r : Bool} (h : m_slices_ContainsFunc__byte_byte_f60 s_p0 = some r) :
  Fun Tryd.prog 59 [.slice A1 s_p0.length c1, .func (.func 60) #[] #[]] [.ro (SlL eu8 A1 c1 s_p0)] (Val (.bool r)) := by
 unfold m_slices_ContainsFunc__byte_byte_f60 at h
 refine Fun.intro Tryd.func59 rfl rfl rfl fun w R => ?_
 refine St.seq ?_
 refine St.region ?_
 refine St.p rfl rfl ?_
 refine St.done ?_
 refine St.thenN ?_
 refine St.prune (Γ' := [(0, _), (1, _)]) ⟨rfl, rfl, trivial⟩ (.k .z) ?_
 refine St.seq ?_
 refine St.region ?_
 refine St.p rfl rfl ?_
 refine St.p rfl rfl ?_
 obtain ⟨r1, hr1, h⟩ := bnd_e h
 refine St.callV (c_slices_IndexFunc__byte_byte_f60 hr1) ent76 rfl rfl rfl rfl ⟨(.head _), trivial⟩ ?_
 refine St.p rfl rfl ?_
 refine St.p rfl rfl ?_
 refine St.done ?_
 refine St.thenN ?_
 refine St.prune (Γ' := [(4, _)]) ⟨rfl, trivial⟩ (.d .z) ?_
 refine St.ret ?_
 repeat (first | refine St.thenR ?_ | refine St.blkR ?_)
 injection h with h
 subst h
 exact St.finR Tryd.results59 (.tmp rfl .nil) rfl [] ⟨rfl, rfl⟩ (fun _ w => (.z : Keep _ _).sat w)

theorem ent40 : Ent Tryd.prog 40 := ⟨_, Tryd.func40, by kernel_rfl, by kernel_rfl⟩

noncomputable def m_unitinfo_decodeArea (b_p0 : (List Int)) (k_p1 : Int) : Option (T_Area × Int) :=
 bnd (elt b_p0 (IntKind.wrap .i64 (2 + k_p1))) fun x1 => bif ((IntKind.wrap .i64 (8 * (IntKind.wrap .i64 x1))) == 0) then (some ((⟨false, 0, 0, []⟩ : T_Area), 0)) else (bif decide ((b_p0.length : Int) < (IntKind.wrap .i64 ((IntKind.wrap .i64 (8 * (IntKind.wrap .i64 x1))) + 2))) then (some ((⟨false, 0, 0, []⟩ : T_Area), 4)) else (bnd ((bnd (elt b_p0 (IntKind.wrap .i64 (8 * (IntKind.wrap .i64 x1)))) fun x2 => bif (x2 != 1) then (some true) else (bnd (elt b_p0 (IntKind.wrap .i64 ((IntKind.wrap .i64 (8 * (IntKind.wrap .i64 x1))) + 1))) fun x3 => some (x3 == 0)) : Option Bool)) fun o1 => bif o1 then (some ((⟨false, 0, 0, []⟩ : T_Area), 6)) else (bnd (elt b_p0 (IntKind.wrap .i64 ((IntKind.wrap .i64 (8 * (IntKind.wrap .i64 x1))) + 1))) fun x4 => bif decide ((b_p0.length : Int) < (IntKind.wrap .i64 ((IntKind.wrap .i64 (8 * (IntKind.wrap .i64 x1))) + (IntKind.wrap .i64 (8 * (IntKind.wrap .i64 x4)))))) then (some ((⟨false, 0, 0, []⟩ : T_Area), 4)) else (bnd (sub b_p0 (IntKind.wrap .i64 (8 * (IntKind.wrap .i64 x1))) (IntKind.wrap .i64 ((IntKind.wrap .i64 (8 * (IntKind.wrap .i64 x1))) + (IntKind.wrap .i64 (8 * (IntKind.wrap .i64 x4)))))) fun l1 => bnd (m_checksum_Open8 l1) fun r1 => bif (r1.2 != 0) then (some ((⟨false, 0, 0, []⟩ : T_Area), r1.2)) else (bnd (m_unitinfo_fieldsAt k_p1) fun r2 => bnd (sub r1.1 r2 (r1.1.length : Int)) fun l2 => bnd (m_fields_DecodeList l2) fun r3 => bif (r3.2.2 != 0) then (some ((⟨false, 0, 0, []⟩ : T_Area), r3.2.2)) else (bnd (m_unitinfo_fieldsAt k_p1) fun r4 => bnd (sub r1.1 (IntKind.wrap .i64 (r4 + r3.2.1)) (r1.1.length : Int)) fun l3 => bnd (m_slices_ContainsFunc__byte_byte_f60 l3) fun r5 => bif r5 then (some ((⟨false, 0, 0, []⟩ : T_Area), 6)) else (bnd (elt r1.1 2) fun x5 => bif (k_p1 == 1) then (bnd (elt r1.1 3) fun x6 => bnd (elt r1.1 4) fun x7 => bnd (elt r1.1 5) fun x8 => some ((⟨true, x5, iOr .u32 (iOr .u32 (IntKind.wrap .u32 x6) (iShl .u32 (IntKind.wrap .u32 x7) 8)) (iShl .u32 (IntKind.wrap .u32 x8) 16), r3.1⟩ : T_Area), 0)) else (some ((⟨true, x5, 0, r3.1⟩ : T_Area), 0)))))))))

set_option maxHeartbeats 4000000 in
theorem c_unitinfo_decodeArea {b_p0 : (List Int)} {k_p1 : Int} {A1 : Option Addr} {c1 : Nat} {r : (T_Area × Int)} (h : m_unitinfo_decodeArea b_p0 k_p1 = some r) :
  Fun Tryd.prog 40 [.slice A1 b_p0.length c1, .int .i64 k_p1] [.ro (SlL eu8 A1 c1 b_p0)] (fun v_ F_ => ∃ (A1 : Option Addr) (c1 : Nat), v_ = .tuple #[.agg (bx_T_Area r.1 A1 c1).toArray, .int .i64 r.2] ∧ F_ = [.ro (SlL e_Field A1 c1 r.1.Fields)]) := by
 unfold m_unitinfo_decodeArea at h
 refine Fun.intro Tryd.func40 rfl rfl rfl fun w R => ?_
 refine St.seq ?_
 refine St.region ?_
 refine St.alloc rfl rfl fun g1 => ?_
 refine St.p rfl rfl ?_
 refine St.done ?_
 refine St.thenN ?_
 refine St.prune (Γ' := [(0, _), (1, _), (4, _)]) ⟨rfl, rfl, rfl, trivial⟩ (.k (.k .z)) ?_
 refine St.seq ?_
 refine St.region ?_
 iterate 3 refine St.p rfl rfl ?_
 obtain ⟨x1, hx1, h⟩ := bnd_e h
 refine St.ixL hx1 rfl rfl rfl (.tail _ (.head _)) rfl rfl rfl rfl rfl fun b1 ob1 => ?_
 refine St.load ob1 0 rfl rfl (.head _) rfl rfl ?_
 iterate 3 refine St.p rfl rfl ?_
 refine St.done ?_
 refine St.thenN ?_
 refine St.prune (Γ' := [(0, _), (1, _), (4, _), (6, _)]) ⟨rfl, rfl, rfl, rfl, trivial⟩ (.d (.k (.k .z))) ?_
 refine St.seq ?_
 refine St.block ?_
 refine St.seq ?_
 refine St.region ?_
 iterate 3 refine St.p rfl rfl ?_
 refine St.done ?_
 refine St.thenN ?_
 refine St.prune (Γ' := [(0, _), (1, _), (4, _), (6, _), (19, _)]) ⟨rfl, rfl, rfl, rfl, rfl, trivial⟩ (.k (.k .z)) ?_
 refine St.cond _ rfl (fun hb1 => ?_) (fun hb1 => ?_)
 ·replace h := bif_t hb1 h
  refine St.seq ?_
  refine St.region ?_
  refine St.p rfl rfl ?_
  refine St.store 0 rfl rfl rfl rfl rfl rfl .z rfl ?_
  refine St.p rfl rfl ?_
  refine St.done ?_
  refine St.thenN ?_
  refine St.prune (Γ' := [(4, _), (5, _)]) ⟨rfl, rfl, trivial⟩ (.k (.d .z)) ?_
  refine St.ret ?_
  repeat (first | refine St.thenR ?_ | refine St.blkR ?_)
  refine St.asrt (fun _ w => w.nilSl (cod e_Field)) ?_
  injection h with h
  subst h
  exact St.finR Tryd.results40 (.cell rfl (.tail _ (.head _)) rfl (.tmp rfl .nil)) rfl [.ro (SlL e_Field none 0 ([] : List T_Field))] ⟨none, 0, rfl, rfl⟩ (fun _ w => ((.k (.d (.d .z))) : Keep _ _).sat (Sat.dup (G := [.ro (SlL e_Field none 0 ([] : List T_Field))]) rfl ⟨(.head _), trivial⟩ w))
 ·replace h := bif_f hb1 h
  refine St.seq ?_
  refine St.region ?_
  iterate 6 refine St.p rfl rfl ?_
  refine St.done ?_
  refine St.thenN ?_
  refine St.prune (Γ' := [(0, _), (1, _), (4, _), (6, _), (23, _)]) ⟨rfl, rfl, rfl, rfl, rfl, trivial⟩ (.k (.k .z)) ?_
  refine St.cond _ rfl (fun hb2 => ?_) (fun hb2 => ?_)
  ·replace h := bif_t hb2 h
   refine St.seq ?_
   refine St.region ?_
   refine St.p rfl rfl ?_
   refine St.store 0 rfl rfl rfl rfl rfl rfl .z rfl ?_
   refine St.p rfl rfl ?_
   refine St.done ?_
   refine St.thenN ?_
   refine St.prune (Γ' := [(4, _), (5, _)]) ⟨rfl, rfl, trivial⟩ (.k (.d .z)) ?_
   refine St.ret ?_
   repeat (first | refine St.thenR ?_ | refine St.blkR ?_)
   refine St.asrt (fun _ w => w.nilSl (cod e_Field)) ?_
   injection h with h
   subst h
   exact St.finR Tryd.results40 (.cell rfl (.tail _ (.head _)) rfl (.tmp rfl .nil)) rfl [.ro (SlL e_Field none 0 ([] : List T_Field))] ⟨none, 0, rfl, rfl⟩ (fun _ w => ((.k (.d (.d .z))) : Keep _ _).sat (Sat.dup (G := [.ro (SlL e_Field none 0 ([] : List T_Field))]) rfl ⟨(.head _), trivial⟩ w))
  ·replace h := bif_f hb2 h
   refine St.seq ?_
   obtain ⟨o1, hj1, h⟩ := bnd_e h
   refine St.cutE (fun (e1 : Unit) => [(0, .slice A1 b_p0.length c1), (1, .int .i64 k_p1), (4, .pointer (some ⟨g1, 0, none⟩)), (6, .int .i64 (IntKind.wrap .i64 (8 * (IntKind.wrap .i64 x1)))), (30, .bool o1)]) (fun e1 => .res (Box g1 25 [.bool false, .int .u8 0, .int .u32 0, .slice none 0 0]) :: .ro (SlL eu8 A1 c1 b_p0) :: R) ?_ ?_
   ·refine St.region ?_
    refine St.p rfl rfl ?_
    refine St.p rfl rfl ?_
    obtain ⟨x2, hx2, hj1⟩ := bnd_e hj1
    refine St.ixL hx2 rfl rfl rfl (.tail _ (.head _)) rfl rfl rfl rfl rfl fun b2 ob2 => ?_
    refine St.load ob2 0 rfl rfl (.head _) rfl rfl ?_
    refine St.p rfl rfl ?_
    refine St.p rfl rfl ?_
    refine St.gSplit (dj := 36) _ rfl (fun hb3 => ?_) (fun hb3 => ?_)
    ·replace hj1 := bif_t hb3 hj1
     refine St.gOff (dj := 36) rfl rfl rfl rfl ?_
     refine St.gOff (dj := 36) rfl rfl rfl rfl ?_
     refine St.gOff (dj := 36) rfl rfl rfl rfl ?_
     refine St.gOff (dj := 36) rfl rfl rfl rfl ?_
     refine St.gOff (dj := 36) rfl rfl rfl rfl ?_
     refine St.gOff (dj := 36) rfl rfl rfl rfl ?_
     refine St.p rfl rfl ?_
     refine St.p rfl rfl ?_
     refine St.done ?_
     injection hj1 with hj1
     subst hj1
     refine St.thenN ?_
     exact St.hereE () ⟨rfl, rfl, rfl, rfl, rfl, trivial⟩ (fun _ w => ((.d (.k (.k .z))) : Keep _ _).sat w)
    ·replace hj1 := bif_f hb3 hj1
     refine St.gOn (dj := 36) rfl rfl ?_
     refine St.p rfl rfl ?_
     refine St.gOn (dj := 36) rfl rfl ?_
     refine St.p rfl rfl ?_
     refine St.gOn (dj := 36) rfl rfl ?_
     refine St.p rfl rfl ?_
     refine St.gOn (dj := 36) rfl rfl ?_
     obtain ⟨x3, hx3, hj1⟩ := bnd_e hj1
     refine St.ixL hx3 rfl rfl rfl (.tail _ (.tail _ (.head _))) rfl rfl rfl rfl rfl fun b3 ob3 => ?_
     refine St.gOn (dj := 36) rfl rfl ?_
     refine St.load ob3 0 rfl rfl (.head _) rfl rfl ?_
     refine St.gOn (dj := 36) rfl rfl ?_
     iterate 3 refine St.p rfl rfl ?_
     refine St.done ?_
     injection hj1 with hj1
     subst hj1
     refine St.thenN ?_
     exact St.hereE () ⟨rfl, rfl, rfl, rfl, rfl, trivial⟩ (fun _ w => ((.d (.d (.k (.k .z)))) : Keep _ _).sat w)
   ·rintro e1
    refine St.cond _ rfl (fun hb4 => ?_) (fun hb4 => ?_)
    ·replace h := bif_t hb4 h
     refine St.seq ?_
     refine St.region ?_
     refine St.p rfl rfl ?_
     refine St.store 0 rfl rfl rfl rfl rfl rfl .z rfl ?_
     refine St.p rfl rfl ?_
     refine St.done ?_
     refine St.thenN ?_
     refine St.prune (Γ' := [(4, _), (5, _)]) ⟨rfl, rfl, trivial⟩ (.k (.d .z)) ?_
     refine St.ret ?_
     repeat (first | refine St.thenR ?_ | refine St.blkR ?_)
     refine St.asrt (fun _ w => w.nilSl (cod e_Field)) ?_
     injection h with h
     subst h
     exact St.finR Tryd.results40 (.cell rfl (.tail _ (.head _)) rfl (.tmp rfl .nil)) rfl [.ro (SlL e_Field none 0 ([] : List T_Field))] ⟨none, 0, rfl, rfl⟩ (fun _ w => ((.k (.d (.d .z))) : Keep _ _).sat (Sat.dup (G := [.ro (SlL e_Field none 0 ([] : List T_Field))]) rfl ⟨(.head _), trivial⟩ w))
    ·replace h := bif_f hb4 h
     refine St.skip ?_
     refine St.blkN ?_
     refine St.thenN ?_
     refine St.prune (Γ' := [(0, _), (1, _), (4, _), (6, _)]) ⟨rfl, rfl, rfl, rfl, trivial⟩ (.k (.k .z)) ?_
     refine St.seq ?_
     refine St.region ?_
     iterate 4 refine St.p rfl rfl ?_
     obtain ⟨x4, hx4, h⟩ := bnd_e h
     refine St.ixL hx4 rfl rfl rfl (.tail _ (.head _)) rfl rfl rfl rfl rfl fun b4 ob4 => ?_
     refine St.load ob4 0 rfl rfl (.head _) rfl rfl ?_
     iterate 4 refine St.p rfl rfl ?_
     refine St.done ?_
     refine St.thenN ?_
     refine St.prune (Γ' := [(0, _), (1, _), (4, _), (6, _), (7, _)]) ⟨rfl, rfl, rfl, rfl, rfl, trivial⟩ (.d (.k (.k .z))) ?_
     refine St.seq ?_
     refine St.seq ?_
     refine St.region ?_
     iterate 4 refine St.p rfl rfl ?_
     refine St.done ?_
     refine St.thenN ?_
     refine St.prune (Γ' := [(0, _), (1, _), (4, _), (6, _), (7, _), (57, _)]) ⟨rfl, rfl, rfl, rfl, rfl, rfl, trivial⟩ (.k (.k .z)) ?_
     refine St.cond _ rfl (fun hb5 => ?_) (fun hb5 => ?_)
     ·replace h := bif_t hb5 h
      refine St.seq ?_
      refine St.region ?_
      refine St.p rfl rfl ?_
      refine St.store 0 rfl rfl rfl rfl rfl rfl .z rfl ?_
      refine St.p rfl rfl ?_
      refine St.done ?_
      refine St.thenN ?_
      refine St.prune (Γ' := [(4, _), (5, _)]) ⟨rfl, rfl, trivial⟩ (.k (.d .z)) ?_
      refine St.ret ?_
      repeat (first | refine St.thenR ?_ | refine St.blkR ?_)
      refine St.asrt (fun _ w => w.nilSl (cod e_Field)) ?_
      injection h with h
      subst h
      exact St.finR Tryd.results40 (.cell rfl (.tail _ (.head _)) rfl (.tmp rfl .nil)) rfl [.ro (SlL e_Field none 0 ([] : List T_Field))] ⟨none, 0, rfl, rfl⟩ (fun _ w => ((.k (.d (.d .z))) : Keep _ _).sat (Sat.dup (G := [.ro (SlL e_Field none 0 ([] : List T_Field))]) rfl ⟨(.head _), trivial⟩ w))
     ·replace h := bif_f hb5 h
      refine St.skip ?_
      refine St.thenN ?_
      refine St.prune (Γ' := [(0, _), (1, _), (4, _), (6, _), (7, _)]) ⟨rfl, rfl, rfl, rfl, rfl, trivial⟩ (.k (.k .z)) ?_
      refine St.seq ?_
      refine St.region ?_
      iterate 3 refine St.p rfl rfl ?_
      obtain ⟨l1, hl1, h⟩ := bnd_e h
      refine St.sub (E := (cod eu8)) rfl rfl (.tail _ (.head _)) rfl rfl rfl rfl rfl rfl rfl hl1 fun A2 c2 => ?_
      obtain ⟨r1, hr1, h⟩ := bnd_e h
      refine St.call (c_checksum_Open8 hr1) ent56 rfl rfl rfl (fun _ w => Sat.dup (G := [.ro (SlL eu8 A2 c2 l1)]) rfl ⟨(.head _), trivial⟩ w) ?_
      rintro _ _ ⟨A3, c3, rfl, rfl⟩
      refine St.asrt (F' := .res (OwnL eu8 5 A3 c3 r1.1) :: .ro (SlL eu8 A2 c2 l1) :: .res (Box g1 25 [.bool false, .int .u8 0, .int .u32 0, .slice none 0 0]) :: .ro (SlL eu8 A1 c1 b_p0) :: R) (fun _ w => w) ?_
      iterate 5 refine St.p rfl rfl ?_
      refine St.done ?_
      refine St.thenN ?_
      refine St.prune (Γ' := [(0, _), (1, _), (4, _), (8, _)]) ⟨rfl, rfl, rfl, rfl, trivial⟩ (.k (.d (.k (.d .z)))) ?_
      refine St.seq ?_
      refine St.seq ?_
      refine St.region ?_
      refine St.p rfl rfl ?_
      refine St.p rfl rfl ?_
      refine St.done ?_
      refine St.thenN ?_
      refine St.prune (Γ' := [(0, _), (1, _), (4, _), (8, _), (68, _)]) ⟨rfl, rfl, rfl, rfl, rfl, trivial⟩ (.k (.k .z)) ?_
      refine St.cond _ rfl (fun hb6 => ?_) (fun hb6 => ?_)
      ·replace h := bif_t hb6 h
       refine St.seq ?_
       refine St.region ?_
       refine St.p rfl rfl ?_
       refine St.p rfl rfl ?_
       refine St.store 0 rfl rfl rfl rfl rfl rfl (.s .z) rfl ?_
       refine St.p rfl rfl ?_
       refine St.done ?_
       refine St.thenN ?_
       refine St.prune (Γ' := [(4, _), (5, _)]) ⟨rfl, rfl, trivial⟩ (.k (.d .z)) ?_
       refine St.ret ?_
       repeat (first | refine St.thenR ?_ | refine St.blkR ?_)
       refine St.asrt (fun _ w => w.nilSl (cod e_Field)) ?_
       injection h with h
       subst h
       exact St.finR Tryd.results40 (.cell rfl (.tail _ (.head _)) rfl (.tmp rfl .nil)) rfl [.ro (SlL e_Field none 0 ([] : List T_Field))] ⟨none, 0, rfl, rfl⟩ (fun _ w => ((.k (.d (.d .z))) : Keep _ _).sat (Sat.dup (G := [.ro (SlL e_Field none 0 ([] : List T_Field))]) rfl ⟨(.head _), trivial⟩ w))
      ·replace h := bif_f hb6 h
       refine St.skip ?_
       refine St.thenN ?_
       refine St.prune (Γ' := [(0, _), (1, _), (4, _)]) ⟨rfl, rfl, rfl, trivial⟩ (.k (.k .z)) ?_
       refine St.seq ?_
       refine St.region ?_
       refine St.p rfl rfl ?_
       refine St.p rfl rfl ?_
       obtain ⟨r2, hr2, h⟩ := bnd_e h
       refine St.callV (c_unitinfo_fieldsAt hr2) ent58 rfl rfl rfl rfl trivial ?_
       refine St.asrt (fun _ w => (w.front .z).meltL) ?_
       obtain ⟨l2, hl2, h⟩ := bnd_e h
       refine St.sub (E := (cod eu8)) rfl rfl (.head _) rfl rfl rfl rfl rfl rfl rfl hl2 fun A4 c4 => ?_
       obtain ⟨r3, hr3, h⟩ := bnd_e h
       refine St.call (c_fields_DecodeList hr3) ent57 rfl rfl rfl (fun _ w => Sat.dup (G := [.ro (SlL eu8 A4 c4 l2)]) rfl ⟨(.head _), trivial⟩ w) ?_
       rintro _ _ ⟨A5, c5, rfl, rfl⟩
       refine St.asrt (F' := .res (OwnL e_Field 60 A5 c5 r3.1) :: .ro (SlL eu8 A4 c4 l2) :: .ro (SlL eu8 A3 c3 r1.1) :: .res (Box g1 25 [.bool false, .int .u8 0, .int .u32 0, .slice none 0 0]) :: R) (fun _ w => w) ?_
       iterate 7 refine St.p rfl rfl ?_
       refine St.done ?_
       refine St.thenN ?_
       refine St.prune (Γ' := [(0, _), (1, _), (4, _), (8, _), (9, _), (10, _)]) ⟨rfl, rfl, rfl, rfl, rfl, rfl, trivial⟩ (.k (.d (.k (.k .z)))) ?_
       refine St.seq ?_
       refine St.seq ?_
       refine St.region ?_
       refine St.p rfl rfl ?_
       refine St.p rfl rfl ?_
       refine St.done ?_
       refine St.thenN ?_
       refine St.prune (Γ' := [(0, _), (1, _), (4, _), (8, _), (9, _), (10, _), (81, _)]) ⟨rfl, rfl, rfl, rfl, rfl, rfl, rfl, trivial⟩ (.k (.k (.k .z))) ?_
       refine St.cond _ rfl (fun hb7 => ?_) (fun hb7 => ?_)
       ·replace h := bif_t hb7 h
        refine St.seq ?_
        refine St.region ?_
        refine St.p rfl rfl ?_
        refine St.p rfl rfl ?_
        refine St.store 0 rfl rfl rfl rfl rfl rfl (.s (.s .z)) rfl ?_
        refine St.p rfl rfl ?_
        refine St.done ?_
        refine St.thenN ?_
        refine St.prune (Γ' := [(4, _), (5, _)]) ⟨rfl, rfl, trivial⟩ (.k (.d (.d .z))) ?_
        refine St.ret ?_
        repeat (first | refine St.thenR ?_ | refine St.blkR ?_)
        refine St.asrt (fun _ w => w.nilSl (cod e_Field)) ?_
        injection h with h
        subst h
        exact St.finR Tryd.results40 (.cell rfl (.tail _ (.head _)) rfl (.tmp rfl .nil)) rfl [.ro (SlL e_Field none 0 ([] : List T_Field))] ⟨none, 0, rfl, rfl⟩ (fun _ w => ((.k (.d (.d .z))) : Keep _ _).sat (Sat.dup (G := [.ro (SlL e_Field none 0 ([] : List T_Field))]) rfl ⟨(.head _), trivial⟩ w))
       ·replace h := bif_f hb7 h
        refine St.skip ?_
        refine St.thenN ?_
        refine St.prune (Γ' := [(0, _), (1, _), (4, _), (9, _), (10, _)]) ⟨rfl, rfl, rfl, rfl, rfl, trivial⟩ (.k (.k (.k .z))) ?_
        refine St.seq ?_
        refine St.seq ?_
        refine St.region ?_
        refine St.p rfl rfl ?_
        refine St.p rfl rfl ?_
        obtain ⟨r4, hr4, h⟩ := bnd_e h
        refine St.callV (c_unitinfo_fieldsAt hr4) ent58 rfl rfl rfl rfl trivial ?_
        refine St.p rfl rfl ?_
        refine St.p rfl rfl ?_
        obtain ⟨l3, hl3, h⟩ := bnd_e h
        refine St.sub (E := (cod eu8)) rfl rfl (.tail _ (.head _)) rfl rfl rfl rfl rfl rfl rfl hl3 fun A6 c6 => ?_
        obtain ⟨r5, hr5, h⟩ := bnd_e h
        refine St.callV (c_slices_ContainsFunc__byte_byte_f60 hr5) ent59 rfl rfl rfl rfl ⟨(.head _), trivial⟩ ?_
        refine St.done ?_
        refine St.thenN ?_
        refine St.prune (Γ' := [(0, _), (1, _), (4, _), (9, _), (90, _)]) ⟨rfl, rfl, rfl, rfl, rfl, trivial⟩ (.d (.k (.k (.k .z)))) ?_
        refine St.cond _ rfl (fun hb8 => ?_) (fun hb8 => ?_)
        ·replace h := bif_t hb8 h
         refine St.seq ?_
         refine St.region ?_
         refine St.p rfl rfl ?_
         refine St.store 0 rfl rfl rfl rfl rfl rfl (.s (.s .z)) rfl ?_
         refine St.p rfl rfl ?_
         refine St.done ?_
         refine St.thenN ?_
         refine St.prune (Γ' := [(4, _), (5, _)]) ⟨rfl, rfl, trivial⟩ (.k (.d (.d .z))) ?_
         refine St.ret ?_
         repeat (first | refine St.thenR ?_ | refine St.blkR ?_)
         refine St.asrt (fun _ w => w.nilSl (cod e_Field)) ?_
         injection h with h
         subst h
         exact St.finR Tryd.results40 (.cell rfl (.tail _ (.head _)) rfl (.tmp rfl .nil)) rfl [.ro (SlL e_Field none 0 ([] : List T_Field))] ⟨none, 0, rfl, rfl⟩ (fun _ w => ((.k (.d (.d .z))) : Keep _ _).sat (Sat.dup (G := [.ro (SlL e_Field none 0 ([] : List T_Field))]) rfl ⟨(.head _), trivial⟩ w))
        ·replace h := bif_f hb8 h
         refine St.skip ?_
         refine St.thenN ?_
         refine St.prune (Γ' := [(0, _), (1, _), (4, _), (9, _)]) ⟨rfl, rfl, rfl, rfl, trivial⟩ (.k (.k (.k .z))) ?_
         refine St.seq ?_
         refine St.region ?_
         refine St.p rfl rfl ?_
         obtain ⟨x5, hx5, h⟩ := bnd_e h
         refine St.ixL hx5 rfl rfl rfl (.tail _ (.head _)) rfl rfl rfl rfl rfl fun b5 ob5 => ?_
         refine St.load ob5 0 rfl rfl (.head _) rfl rfl ?_
         refine St.p rfl rfl ?_
         refine St.p rfl rfl ?_
         refine St.alloc rfl rfl fun g2 => ?_
         refine St.store 0 rfl rfl rfl rfl rfl rfl .z rfl ?_
         refine St.done ?_
         refine St.thenN ?_
         refine St.prune (Γ' := [(0, _), (1, _), (4, _), (11, _)]) ⟨rfl, rfl, rfl, rfl, trivial⟩ (.k (.d (.k (.k (.k .z))))) ?_
         refine St.seq ?_
         refine St.seq ?_
         refine St.region ?_
         refine St.p rfl rfl ?_
         refine St.p rfl rfl ?_
         refine St.done ?_
         refine St.thenN ?_
         refine St.prune (Γ' := [(0, _), (4, _), (11, _), (98, _)]) ⟨rfl, rfl, rfl, rfl, trivial⟩ (.k (.k (.k (.k .z)))) ?_
         refine St.cond _ rfl (fun hb9 => ?_) (fun hb9 => ?_)
         ·replace h := bif_t hb9 h
          refine St.regionX (iL [(.fl, 0), (.fx, 1), (.fx, 2), (.fl, 3), (.fl, 4), (.fx, 5), (.fx, 6), (.fl, 7), (.fl, 8), (.fl, 9), (.fl, 10), (.fx, 11), (.fx, 12), (.fl, 13), (.fl, 14), (.fl, 15), (.fl, 16), (.ef, 17)] .nil) (.res (OwnL e_Field 60 A5 c5 r3.1) :: .ro (SlL eu8 A3 c3 r1.1) :: .res (Box g1 25 [.bool false, .int .u8 0, .int .u32 0, .slice none 0 0]) :: R) mixed (by kernel_rfl) (fun _ w => ((.d (.k (.k (.k .z)))) : Keep _ _).sat w) ?_
          refine St.xfl (fun _ h => h) (Rd.p rfl) rfl ?_
          obtain ⟨x6, hx6, h⟩ := bnd_e h
          refine St.openA (.tail _ (.tail _ (.head _))) hx6 fun b6 ob6 hqb6 => ?_
          refine St.asrt (fun _ w => Sat.addC hqb6 (.tail _ (.tail _ (.head _))) hx6 w) ?_
          have hc1 := fun w h => Sat.addC hqb6 (.tail _ (.head _)) hx6 ((fun (w : World) (h : Sat (.res (OwnL e_Field 60 A5 c5 r3.1) :: .ro (SlL eu8 A3 c3 r1.1) :: .res (Box g1 25 [.bool false, .int .u8 0, .int .u32 0, .slice none 0 0]) :: R) w) => h) w h)
          refine St.xfx (Rd.ixL (E := eu8) hqb6 hx6 rfl rfl rfl rfl rfl rfl rfl) rfl ?_
          refine St.xfx (Rd.load ob6 0 rfl (.head _) rfl rfl) rfl ?_
          refine St.xfl (fun _ h => h) (Rd.p rfl) rfl ?_
          refine St.xfl (fun _ h => h) (Rd.p rfl) rfl ?_
          obtain ⟨x7, hx7, h⟩ := bnd_e h
          refine St.openA (.tail _ (.tail _ (.tail _ (.head _)))) hx7 fun b7 ob7 hqb7 => ?_
          refine St.asrt (fun _ w => Sat.addC hqb7 (.tail _ (.tail _ (.tail _ (.head _)))) hx7 w) ?_
          have hc2 := fun w h => Sat.addC hqb7 (.tail _ (.tail _ (.head _))) hx7 (hc1 w h)
          refine St.xfx (Rd.ixL (E := eu8) hqb7 hx7 rfl rfl rfl rfl rfl rfl rfl) rfl ?_
          refine St.xfx (Rd.load ob7 0 rfl (.head _) rfl rfl) rfl ?_
          refine St.xfl (fun _ h => h) (Rd.p rfl) rfl ?_
          refine St.xfl (fun _ h => h) (Rd.p rfl) rfl ?_
          refine St.xfl (fun _ h => h) (Rd.p rfl) rfl ?_
          refine St.xfl (fun _ h => h) (Rd.p rfl) rfl ?_
          obtain ⟨x8, hx8, h⟩ := bnd_e h
          refine St.openA (.tail _ (.tail _ (.tail _ (.tail _ (.head _))))) hx8 fun b8 ob8 hqb8 => ?_
          refine St.asrt (fun _ w => Sat.addC hqb8 (.tail _ (.tail _ (.tail _ (.tail _ (.head _))))) hx8 w) ?_
          have hc3 := fun w h => Sat.addC hqb8 (.tail _ (.tail _ (.tail _ (.head _)))) hx8 (hc2 w h)
          refine St.xfx (Rd.ixL (E := eu8) hqb8 hx8 rfl rfl rfl rfl rfl rfl rfl) rfl ?_
          refine St.xfx (Rd.load ob8 0 rfl (.head _) rfl rfl) rfl ?_
          refine St.xfl (fun _ h => h) (Rd.p rfl) rfl ?_
          refine St.xfl (fun _ h => h) (Rd.p rfl) rfl ?_
          refine St.xfl (fun _ h => h) (Rd.p rfl) rfl ?_
          refine St.xfl (fun _ h => h) (Rd.p rfl) rfl ?_
          refine St.xef ?_
          refine St.store 2 rfl rfl rfl rfl rfl rfl (.s (.s (.s .z))) rfl ?_
          refine St.xk (fun _ w => ((.d (.d (.d (.d (.k (.k (.k .z))))))) : Keep _ _).sat w) ?_
          refine St.xdone ?_
          refine St.thenN ?_
          refine St.prune (Γ' := [(4, _), (11, _)]) ⟨rfl, rfl, trivial⟩ (.k (.d (.d (.d (.k (.d (.k .z))))))) ?_
          refine St.seq ?_
          refine St.region ?_
          refine St.loadB 0 rfl rfl (.head _) rfl rfl ?_
          refine St.store 0 rfl rfl rfl rfl rfl rfl (.s (.s .z)) rfl ?_
          refine St.p rfl rfl ?_
          refine St.done ?_
          refine St.thenN ?_
          refine St.prune (Γ' := [(4, _), (5, _)]) ⟨rfl, rfl, trivial⟩ (.k (.d (.k .z))) ?_
          refine St.ret ?_
          repeat (first | refine St.thenR ?_ | refine St.blkR ?_)
          refine St.asrt (fun _ w => (w.front (.s .z)).meltL) ?_
          injection h with h
          subst h
          exact St.finR Tryd.results40 (.cell rfl (.tail _ (.head _)) rfl (.tmp rfl .nil)) rfl [.ro (SlL e_Field A5 c5 r3.1)] ⟨A5, c5, rfl, rfl⟩ (fun _ w => ((.k (.d (.d .z))) : Keep _ _).sat (Sat.dup (G := [.ro (SlL e_Field A5 c5 r3.1)]) rfl ⟨(.head _), trivial⟩ w))
         ·replace h := bif_f hb9 h
          refine St.skip ?_
          refine St.thenN ?_
          refine St.prune (Γ' := [(4, _), (11, _)]) ⟨rfl, rfl, trivial⟩ (.k (.k (.d (.k .z)))) ?_
          refine St.seq ?_
          refine St.region ?_
          refine St.loadB 0 rfl rfl (.head _) rfl rfl ?_
          refine St.store 0 rfl rfl rfl rfl rfl rfl (.s (.s .z)) rfl ?_
          refine St.p rfl rfl ?_
          refine St.done ?_
          refine St.thenN ?_
          refine St.prune (Γ' := [(4, _), (5, _)]) ⟨rfl, rfl, trivial⟩ (.k (.d (.k .z))) ?_
          refine St.ret ?_
          repeat (first | refine St.thenR ?_ | refine St.blkR ?_)
          refine St.asrt (fun _ w => (w.front (.s .z)).meltL) ?_
          injection h with h
          subst h
          exact St.finR Tryd.results40 (.cell rfl (.tail _ (.head _)) rfl (.tmp rfl .nil)) rfl [.ro (SlL e_Field A5 c5 r3.1)] ⟨A5, c5, rfl, rfl⟩ (fun _ w => ((.k (.d (.d .z))) : Keep _ _).sat (Sat.dup (G := [.ro (SlL e_Field A5 c5 r3.1)]) rfl ⟨(.head _), trivial⟩ w))

theorem ent27 : Ent Tryd.prog 27 := ⟨_, Tryd.func27, by kernel_rfl, by kernel_rfl⟩

noncomputable def m_unitinfo_Decode (b_p0 : (List Int)) : Option (T_Info × Int) :=
 bif decide ((b_p0.length : Int) < 8) then (some ((⟨(⟨false, 0, 0, []⟩ : T_Area), (⟨false, 0, 0, []⟩ : T_Area), (⟨false, 0, 0, []⟩ : T_Area), []⟩ : T_Info), 4)) else (bif decide ((b_p0.length : Int) > 2048) then (some ((⟨(⟨false, 0, 0, []⟩ : T_Area), (⟨false, 0, 0, []⟩ : T_Area), (⟨false, 0, 0, []⟩ : T_Area), []⟩ : T_Info), 3)) else (bnd (sub b_p0 0 8) fun l1 => bnd (m_checksum_Sum8 l1) fun r1 => bif (r1 != 0) then (some ((⟨(⟨false, 0, 0, []⟩ : T_Area), (⟨false, 0, 0, []⟩ : T_Area), (⟨false, 0, 0, []⟩ : T_Area), []⟩ : T_Info), 5)) else (bnd ((bnd (elt b_p0 0) fun x1 => bif (x1 != 1) then (some true) else (bnd (elt b_p0 1) fun x2 => bif (x2 != 0) then (some true) else (bnd (elt b_p0 6) fun x3 => some (x3 != 0))) : Option Bool)) fun o1 => bif o1 then (some ((⟨(⟨false, 0, 0, []⟩ : T_Area), (⟨false, 0, 0, []⟩ : T_Area), (⟨false, 0, 0, []⟩ : T_Area), []⟩ : T_Info), 6)) else (bnd (m_unitinfo_decodeArea b_p0 0) fun r2 => bif (r2.2 != 0) then (some ((⟨(⟨false, 0, 0, []⟩ : T_Area), (⟨false, 0, 0, []⟩ : T_Area), (⟨false, 0, 0, []⟩ : T_Area), []⟩ : T_Info), r2.2)) else (bnd (m_unitinfo_decodeArea b_p0 1) fun r3 => bif (r3.2 != 0) then (some ((⟨(⟨false, 0, 0, []⟩ : T_Area), (⟨false, 0, 0, []⟩ : T_Area), (⟨false, 0, 0, []⟩ : T_Area), []⟩ : T_Info), r3.2)) else (bnd (m_unitinfo_decodeArea b_p0 2) fun r4 => bif (r4.2 != 0) then (some ((⟨(⟨false, 0, 0, []⟩ : T_Area), (⟨false, 0, 0, []⟩ : T_Area), (⟨false, 0, 0, []⟩ : T_Area), []⟩ : T_Info), r4.2)) else (bnd ((bnd (elt b_p0 5) fun x4 => bif decide ((IntKind.wrap .i64 (8 * (IntKind.wrap .i64 x4))) > (b_p0.length : Int)) then (some (.inl ((⟨(⟨false, 0, 0, []⟩ : T_Area), (⟨false, 0, 0, []⟩ : T_Area), (⟨false, 0, 0, []⟩ : T_Area), []⟩ : T_Info), 4))) else (bif decide ((IntKind.wrap .i64 (8 * (IntKind.wrap .i64 x4))) > 0) then (bnd (sub b_p0 (IntKind.wrap .i64 (8 * (IntKind.wrap .i64 x4))) (b_p0.length : Int)) fun l2 => bnd (m_slices_Clone__byte_byte l2) fun r5 => some (.inr r5)) else (some (.inr ([])))) : Option ((T_Info × Int) ⊕ List Int))) fun o2 => retOr o2 fun o3 => bnd (m_unitinfo_Valid (⟨r2.1, r3.1, r4.1, o3⟩ : T_Info)) fun r6 => bif !r6 then (some ((⟨(⟨false, 0, 0, []⟩ : T_Area), (⟨false, 0, 0, []⟩ : T_Area), (⟨false, 0, 0, []⟩ : T_Area), []⟩ : T_Info), 1)) else (some ((⟨r2.1, r3.1, r4.1, o3⟩ : T_Info), 0)))))))))

end Go.Proofs.YtcekbbbjagfacaaDoor
