/-
 Models of functions of the program, and that the functions compute them.
 Conditions: none.
-/
import Derived.Test.YtcekbbbjagfacaaDoorGenD
namespace Go.Proofs.YtcekbbbjagfacaaDoor
open Go
set_option linter.unusedVariables false
set_option maxRecDepth 4000

theorem ent9 : Ent Tryd.prog 9 := ⟨_, Tryd.func9, by kernel_rfl, by kernel_rfl⟩

noncomputable def m_made_Light (l_p0 : (List Int)) : Option Bool :=
 some (decide ((l_p0.length : Int) ≤ 600))

theorem c_made_Light {l_p0 : (List Int)} {A1 : Option Addr} {c1 : Nat} {r : Bool} (h : m_made_Light l_p0 = some r) :
  Fun Tryd.prog 9 [.slice A1 l_p0.length c1] [.ro (SlL ei64 A1 c1 l_p0)] (Val (.bool r)) := by
 unfold m_made_Light at h
 refine Fun.intro Tryd.func9 rfl rfl rfl fun w R => ?_
 refine St.seq ?_
 refine St.region ?_
 refine St.p rfl rfl ?_
 refine St.done ?_
 refine St.thenN ?_
 refine St.prune (Γ' := [(0, _)]) ⟨rfl, trivial⟩ (.k .z) ?_
 refine St.seq ?_
 refine St.region ?_
 iterate 4 refine St.p rfl rfl ?_
 refine St.done ?_
 refine St.thenN ?_
 refine St.prune (Γ' := [(2, _)]) ⟨rfl, trivial⟩ (.d .z) ?_
 refine St.ret ?_
 repeat (first | refine St.thenR ?_ | refine St.blkR ?_)
 injection h with h
 subst h
 exact St.finR Tryd.results9 (.tmp rfl .nil) rfl [] ⟨rfl, rfl⟩ (fun _ w => (.z : Keep _ _).sat w)

theorem ent37 : Ent Tryd.prog 37 := ⟨_, Tryd.func37, by kernel_rfl, by kernel_rfl⟩

noncomputable def m_unitinfo_areas (i_p0 : T_Info) : Option (Arr3 T_Area) :=
 some (⟨i_p0.Chassis, i_p0.Board, i_p0.Product⟩ : (Arr3 T_Area))

theorem c_unitinfo_areas {i_p0 : T_Info} {A1 : Option Addr} {c1 : Nat} {A2 : Option Addr} {c2 : Nat} {A3 : Option Addr} {c3 : Nat} {A4 : Option Addr} {c4 : Nat} {r : (Arr3 T_Area)} (h : m_unitinfo_areas i_p0 = some r) :
  Fun Tryd.prog 37 [.agg (bx_T_Info i_p0 A1 c1 A2 c2 A3 c3 A4 c4).toArray] [.ro (SlL e_Field A1 c1 i_p0.Chassis.Fields), .ro (SlL e_Field A2 c2 i_p0.Board.Fields), .ro (SlL e_Field A3 c3 i_p0.Product.Fields), .ro (SlL eu8 A4 c4 i_p0.Multi)] (fun v_ F_ => ∃ (A1 : Option Addr) (c1 : Nat) (A2 : Option Addr) (c2 : Nat) (A3 : Option Addr) (c3 : Nat), v_ = .agg (bx_aArr3T_Area r A1 c1 A2 c2 A3 c3).toArray ∧ F_ = [.ro (SlL e_Field A1 c1 r.e0.Fields), .ro (SlL e_Field A2 c2 r.e1.Fields), .ro (SlL e_Field A3 c3 r.e2.Fields)]) := by
 unfold m_unitinfo_areas at h
 refine Fun.intro Tryd.func37 rfl rfl rfl fun w R => ?_
 refine St.seq ?_
 refine St.region ?_
 refine St.box rfl rfl fun g1 => ?_
 refine St.alloc rfl rfl fun g2 => ?_
 refine St.done ?_
 refine St.thenN ?_
 refine St.prune (Γ' := [(1, _), (2, _)]) ⟨rfl, rfl, trivial⟩ (.k (.k (.k (.k (.k (.k .z)))))) ?_
 refine St.seq ?_
 refine St.region ?_
 refine St.p rfl rfl ?_
 refine St.loadB 0 rfl rfl (.tail _ (.head _)) rfl rfl ?_
 refine St.p rfl rfl ?_
 refine St.loadB 4 rfl rfl (.tail _ (.head _)) rfl rfl ?_
 refine St.p rfl rfl ?_
 refine St.loadB 8 rfl rfl (.tail _ (.head _)) rfl rfl ?_
 refine St.p rfl rfl ?_
 refine St.store 0 rfl rfl rfl rfl rfl rfl .z rfl ?_
 refine St.done ?_
 refine St.thenN ?_
 refine St.prune (Γ' := [(2, _)]) ⟨rfl, trivial⟩ (.k (.d (.k (.k (.k (.d .z)))))) ?_
 refine St.ret ?_
 repeat (first | refine St.thenR ?_ | refine St.blkR ?_)
 injection h with h
 subst h
 exact St.finR Tryd.results37 (.cell rfl (.head _) rfl .nil) rfl [.ro (SlL e_Field A1 c1 i_p0.Chassis.Fields), .ro (SlL e_Field A2 c2 i_p0.Board.Fields), .ro (SlL e_Field A3 c3 i_p0.Product.Fields)] ⟨A1, c1, A2, c2, A3, c3, rfl, rfl⟩ (fun _ w => ((.k (.k (.k (.d (.d (.d (.d .z))))))) : Keep _ _).sat (Sat.dup (G := [.ro (SlL e_Field A1 c1 i_p0.Chassis.Fields), .ro (SlL e_Field A2 c2 i_p0.Board.Fields), .ro (SlL e_Field A3 c3 i_p0.Product.Fields)]) rfl ⟨(.tail _ (.head _)), (.tail _ (.tail _ (.head _))), (.tail _ (.tail _ (.tail _ (.head _)))), trivial⟩ w))

theorem ent83 : Ent Tryd.prog 83 := ⟨_, Tryd.func83, by kernel_rfl, by kernel_rfl⟩

noncomputable def m_strings_trimRightByte (s_p0 : ByteArray) (c_p1 : Int) : Option ByteArray :=
 bnd (loopM (τ := ByteArray) (fun (s1 : ByteArray) => bnd ((bif decide ((s1.size : Int) > 0) then (bnd (eltS s1 (IntKind.wrap .i64 ((s1.size : Int) - 1))) fun y1 => some (y1 == c_p1)) else (some false) : Option Bool)) fun o2 => bif o2 then (bnd (subS s1 0 (IntKind.wrap .i64 ((s1.size : Int) - 1))) fun t1 => some (.next t1)) else (some (.done s1))) s_p0) fun o1 => some o1

theorem c_strings_trimRightByte {s_p0 : ByteArray} {c_p1 : Int} {r : ByteArray} (h : m_strings_trimRightByte s_p0 c_p1 = some r) :
  Fun Tryd.prog 83 [.string s_p0, .int .u8 c_p1] [] (Val (.string r)) := by
 unfold m_strings_trimRightByte at h
 refine Fun.intro Tryd.func83 rfl rfl rfl fun w R => ?_
 refine St.seq ?_
 refine St.region ?_
 refine St.p rfl rfl ?_
 refine St.done ?_
 refine St.thenN ?_
 refine St.prune (Γ' := [(0, _), (1, _)]) ⟨rfl, rfl, trivial⟩ .z ?_
 refine St.seq ?_
 obtain ⟨o1, hl1, h⟩ := bnd_e h
 refine St.cutE (fun (e2 : Unit) => [(0, .string o1)]) (fun e2 => R) ?_ ?_
 ·refine St.block ?_
  refine St.loop hl1 (fun (s1 : ByteArray) (e1 : Unit) => [(0, .string s1), (1, .int .u8 c_p1)]) (fun s1 e1 => R) (fun _ _ => True) () trivial ⟨rfl, rfl, trivial⟩ (fun _ w => (.z : Keep _ _).sat w) ?_
  rintro s1 e1 - hit1
  obtain ⟨st1, hm1, hd1⟩ := iter_e hit1
  have h1 := hm1
  refine St.seq ?_
  refine St.seq ?_
  obtain ⟨o2, hj1, h1⟩ := bnd_e h1
  refine St.cutE (fun (e3 : Unit) => [(0, .string s1), (1, .int .u8 c_p1), (16, .bool o2)]) (fun e3 => R) ?_ ?_
  ·refine St.region ?_
   iterate 4 refine St.p rfl rfl ?_
   refine St.gSplit (dj := 8) _ rfl (fun hb1 => ?_) (fun hb1 => ?_)
   ·replace hj1 := bif_t hb1 hj1
    refine St.gOn (dj := 8) rfl rfl ?_
    refine St.p rfl rfl ?_
    refine St.gOn (dj := 8) rfl rfl ?_
    refine St.p rfl rfl ?_
    refine St.gOn (dj := 8) rfl rfl ?_
    refine St.p rfl rfl ?_
    refine St.gOn (dj := 8) rfl rfl ?_
    refine St.p rfl rfl ?_
    refine St.gOn (dj := 8) rfl rfl ?_
    obtain ⟨y1, hy1, hj1⟩ := bnd_e hj1
    refine St.eltS rfl rfl rfl rfl rfl hy1 ?_
    refine St.gOn (dj := 8) rfl rfl ?_
    refine St.p rfl rfl ?_
    refine St.gOn (dj := 8) rfl rfl ?_
    refine St.p rfl rfl ?_
    refine St.p rfl rfl ?_
    refine St.done ?_
    injection hj1 with hj1
    subst hj1
    refine St.thenN ?_
    exact St.hereE () ⟨rfl, rfl, rfl, trivial⟩ (fun _ w => (.z : Keep _ _).sat w)
   ·replace hj1 := bif_f hb1 hj1
    refine St.gOff (dj := 8) rfl rfl rfl rfl ?_
    refine St.gOff (dj := 8) rfl rfl rfl rfl ?_
    refine St.gOff (dj := 8) rfl rfl rfl rfl ?_
    refine St.gOff (dj := 8) rfl rfl rfl rfl ?_
    refine St.gOff (dj := 8) rfl rfl rfl rfl ?_
    refine St.gOff (dj := 8) rfl rfl rfl rfl ?_
    refine St.gOff (dj := 8) rfl rfl rfl rfl ?_
    refine St.p rfl rfl ?_
    refine St.done ?_
    injection hj1 with hj1
    subst hj1
    refine St.thenN ?_
    exact St.hereE () ⟨rfl, rfl, rfl, trivial⟩ (fun _ w => (.z : Keep _ _).sat w)
  ·rintro e3
   refine St.cond _ rfl (fun hb2 => ?_) (fun hb2 => ?_)
   ·replace h1 := bif_t hb2 h1
    refine St.skip ?_
    refine St.thenN ?_
    refine St.prune (Γ' := [(0, _), (1, _)]) ⟨rfl, rfl, trivial⟩ .z ?_
    refine St.block ?_
    refine St.region ?_
    iterate 4 refine St.p rfl rfl ?_
    obtain ⟨t1, ht1, h1⟩ := bnd_e h1
    refine St.subS rfl rfl rfl rfl rfl rfl ht1 ?_
    refine St.p rfl rfl ?_
    refine St.done ?_
    refine St.blkN ?_
    injection h1 with h1
    subst h1
    refine St.thenN ?_
    exact St.again _ () hm1 trivial ⟨rfl, rfl, trivial⟩ (fun _ w => (.z : Keep _ _).sat w)
   ·replace h1 := bif_f hb2 h1
    refine St.exit ?_
    repeat (first | refine St.thenX ?_ | refine St.blkMiss rfl ?_)
    refine St.blkHit ?_
    injection h1 with h1
    subst h1
    have ho := hd1 _ rfl
    subst ho
    refine St.thenN ?_
    exact St.hereE () ⟨rfl, trivial⟩ (fun _ w => (.z : Keep _ _).sat w)
 ·rintro e2
  refine St.seq ?_
  refine St.region ?_
  refine St.p rfl rfl ?_
  refine St.p rfl rfl ?_
  refine St.done ?_
  refine St.thenN ?_
  refine St.prune (Γ' := [(4, _)]) ⟨rfl, trivial⟩ .z ?_
  refine St.ret ?_
  repeat (first | refine St.thenR ?_ | refine St.blkR ?_)
  injection h with h
  subst h
  exact St.finR Tryd.results83 (.tmp rfl .nil) rfl [] ⟨rfl, rfl⟩ (fun _ w => (.z : Keep _ _).sat w)

theorem ent82 : Ent Tryd.prog 82 := ⟨_, Tryd.func82, by kernel_rfl, by kernel_rfl⟩

noncomputable def m_strings_trimLeftByte (s_p0 : ByteArray) (c_p1 : Int) : Option ByteArray :=
 bnd (loopM (τ := ByteArray) (fun (s1 : ByteArray) => bnd ((bif decide ((s1.size : Int) > 0) then (bnd (eltS s1 0) fun y1 => some (y1 == c_p1)) else (some false) : Option Bool)) fun o2 => bif o2 then (bnd (subS s1 1 (s1.size : Int)) fun t1 => some (.next t1)) else (some (.done s1))) s_p0) fun o1 => some o1

theorem c_strings_trimLeftByte {s_p0 : ByteArray} {c_p1 : Int} {r : ByteArray} (h : m_strings_trimLeftByte s_p0 c_p1 = some r) :
  Fun Tryd.prog 82 [.string s_p0, .int .u8 c_p1] [] (Val (.string r)) := by
 unfold m_strings_trimLeftByte at h
 refine Fun.intro Tryd.func82 rfl rfl rfl fun w R => ?_
 refine St.seq ?_
 refine St.region ?_
 refine St.p rfl rfl ?_
 refine St.done ?_
 refine St.thenN ?_
 refine St.prune (Γ' := [(0, _), (1, _)]) ⟨rfl, rfl, trivial⟩ .z ?_
 refine St.seq ?_
 obtain ⟨o1, hl1, h⟩ := bnd_e h
 refine St.cutE (fun (e2 : Unit) => [(0, .string o1)]) (fun e2 => R) ?_ ?_
 ·refine St.block ?_
  refine St.loop hl1 (fun (s1 : ByteArray) (e1 : Unit) => [(0, .string s1), (1, .int .u8 c_p1)]) (fun s1 e1 => R) (fun _ _ => True) () trivial ⟨rfl, rfl, trivial⟩ (fun _ w => (.z : Keep _ _).sat w) ?_
  rintro s1 e1 - hit1
  obtain ⟨st1, hm1, hd1⟩ := iter_e hit1
  have h1 := hm1
  refine St.seq ?_
  refine St.seq ?_
  obtain ⟨o2, hj1, h1⟩ := bnd_e h1
  refine St.cutE (fun (e3 : Unit) => [(0, .string s1), (1, .int .u8 c_p1), (13, .bool o2)]) (fun e3 => R) ?_ ?_
  ·refine St.region ?_
   iterate 4 refine St.p rfl rfl ?_
   refine St.gSplit (dj := 8) _ rfl (fun hb1 => ?_) (fun hb1 => ?_)
   ·replace hj1 := bif_t hb1 hj1
    refine St.gOn (dj := 8) rfl rfl ?_
    refine St.p rfl rfl ?_
    refine St.gOn (dj := 8) rfl rfl ?_
    obtain ⟨y1, hy1, hj1⟩ := bnd_e hj1
    refine St.eltS rfl rfl rfl rfl rfl hy1 ?_
    refine St.gOn (dj := 8) rfl rfl ?_
    refine St.p rfl rfl ?_
    refine St.gOn (dj := 8) rfl rfl ?_
    refine St.p rfl rfl ?_
    refine St.p rfl rfl ?_
    refine St.done ?_
    injection hj1 with hj1
    subst hj1
    refine St.thenN ?_
    exact St.hereE () ⟨rfl, rfl, rfl, trivial⟩ (fun _ w => (.z : Keep _ _).sat w)
   ·replace hj1 := bif_f hb1 hj1
    refine St.gOff (dj := 8) rfl rfl rfl rfl ?_
    refine St.gOff (dj := 8) rfl rfl rfl rfl ?_
    refine St.gOff (dj := 8) rfl rfl rfl rfl ?_
    refine St.gOff (dj := 8) rfl rfl rfl rfl ?_
    refine St.p rfl rfl ?_
    refine St.done ?_
    injection hj1 with hj1
    subst hj1
    refine St.thenN ?_
    exact St.hereE () ⟨rfl, rfl, rfl, trivial⟩ (fun _ w => (.z : Keep _ _).sat w)
  ·rintro e3
   refine St.cond _ rfl (fun hb2 => ?_) (fun hb2 => ?_)
   ·replace h1 := bif_t hb2 h1
    refine St.skip ?_
    refine St.thenN ?_
    refine St.prune (Γ' := [(0, _), (1, _)]) ⟨rfl, rfl, trivial⟩ .z ?_
    refine St.block ?_
    refine St.region ?_
    refine St.p rfl rfl ?_
    obtain ⟨t1, ht1, h1⟩ := bnd_e h1
    refine St.subS rfl rfl rfl rfl rfl rfl ht1 ?_
    refine St.p rfl rfl ?_
    refine St.done ?_
    refine St.blkN ?_
    injection h1 with h1
    subst h1
    refine St.thenN ?_
    exact St.again _ () hm1 trivial ⟨rfl, rfl, trivial⟩ (fun _ w => (.z : Keep _ _).sat w)
   ·replace h1 := bif_f hb2 h1
    refine St.exit ?_
    repeat (first | refine St.thenX ?_ | refine St.blkMiss rfl ?_)
    refine St.blkHit ?_
    injection h1 with h1
    subst h1
    have ho := hd1 _ rfl
    subst ho
    refine St.thenN ?_
    exact St.hereE () ⟨rfl, trivial⟩ (fun _ w => (.z : Keep _ _).sat w)
 ·rintro e2
  refine St.seq ?_
  refine St.region ?_
  refine St.p rfl rfl ?_
  refine St.p rfl rfl ?_
  refine St.done ?_
  refine St.thenN ?_
  refine St.prune (Γ' := [(4, _)]) ⟨rfl, trivial⟩ .z ?_
  refine St.ret ?_
  repeat (first | refine St.thenR ?_ | refine St.blkR ?_)
  injection h with h
  subst h
  exact St.finR Tryd.results82 (.tmp rfl .nil) rfl [] ⟨rfl, rfl⟩ (fun _ w => (.z : Keep _ _).sat w)

theorem ent84 : Ent Tryd.prog 84 := ⟨_, Tryd.func84, by kernel_rfl, by kernel_rfl⟩

noncomputable def m_strings_makeASCIISet (chars : ByteArray) : Option ((List Bool) × Bool) :=
 bnd (loopM (τ := ((List Bool) × Bool) ⊕ List Bool) (fun (s1 : List Bool × Int) => bif decide (s1.2 < (chars.size : Int)) then (bnd (eltS chars s1.2) fun y1 => bif decide (y1 ≥ 128) then (bnd (chkLen 256 s1.1) fun l1 => bnd (chkLen 256 l1) fun l2 => bnd (chkLen 256 l1) fun l3 => some (.done (.inl (l3, false)))) else (bnd (chkLen 256 s1.1) fun l4 => bnd (elt s1.1 y1) fun x1 => bnd (setE s1.1 y1 true) fun l5 => some (.next (l5, IntKind.wrap .i64 (s1.2 + 1))))) else (some (.done (.inr s1.1)))) (List.replicate 256 false, 0)) fun o1 => retOr o1 fun o2 => bnd (chkLen 256 o2) fun l6 => bnd (chkLen 256 l6) fun l7 => bnd (chkLen 256 l6) fun l8 => some (l8, true)

theorem c_strings_makeASCIISet {chars : ByteArray} {r : ((List Bool) × Bool)} (h : m_strings_makeASCIISet chars = some r) :
  Fun Tryd.prog 84 [.string chars] [] (Val (.tuple #[(barr ebool r.1), .bool r.2])) := by
 unfold m_strings_makeASCIISet at h
 refine Fun.intro Tryd.func84 rfl rfl rfl fun w R => ?_
 refine St.seq ?_
 refine St.region ?_
 refine St.allocA (n := 256) ebool false rfl rfl (by kernel_rfl) rfl fun g1 => ?_
 refine St.p rfl rfl ?_
 refine St.done ?_
 refine St.thenN ?_
 refine St.prune (Γ' := [(0, _), (2, _)]) ⟨rfl, rfl, trivial⟩ (.k .z) ?_
 refine St.seq ?_
 refine St.seq ?_
 refine St.region ?_
 refine St.p rfl rfl ?_
 refine St.done ?_
 refine St.thenN ?_
 obtain ⟨o1, hl1, h⟩ := bnd_e h
 refine St.cutI (fun (o2 : List Bool) (e2 : Unit) => [(2, .pointer (some ⟨g1, 0, none⟩))]) (fun o2 e2 => .res (OwnL ebool 113 (some ⟨g1, 0, none⟩) 256 o2) :: R) (fun o2 => o1 = .inr o2) ?_ ?_
 ·refine St.block ?_
  refine St.loop hl1 (fun (s1 : List Bool × Int) (e1 : Unit) => [(0, .string chars), (2, .pointer (some ⟨g1, 0, none⟩)), (4, .int .i64 s1.2)]) (fun s1 e1 => .res (OwnL ebool 113 (some ⟨g1, 0, none⟩) 256 s1.1) :: R) (fun _ _ => True) () trivial ⟨rfl, rfl, rfl, trivial⟩ (fun _ w => ((.k .z) : Keep _ _).sat w) ?_
  rintro s1 e1 - hit1
  obtain ⟨st1, hm1, hd1⟩ := iter_e hit1
  have h1 := hm1
  refine St.seq ?_
  refine St.seq ?_
  refine St.region ?_
  iterate 4 refine St.p rfl rfl ?_
  refine St.done ?_
  refine St.thenN ?_
  refine St.prune (Γ' := [(0, _), (2, _), (4, _), (9, _)]) ⟨rfl, rfl, rfl, rfl, trivial⟩ (.k .z) ?_
  refine St.cond _ rfl (fun hb1 => ?_) (fun hb1 => ?_)
  ·replace h1 := bif_t hb1 h1
   refine St.skip ?_
   refine St.thenN ?_
   refine St.prune (Γ' := [(0, _), (2, _), (4, _)]) ⟨rfl, rfl, rfl, trivial⟩ (.k .z) ?_
   refine St.seq ?_
   refine St.block ?_
   refine St.seq ?_
   refine St.region ?_
   refine St.p rfl rfl ?_
   refine St.p rfl rfl ?_
   obtain ⟨y1, hy1, h1⟩ := bnd_e h1
   refine St.eltS rfl rfl rfl rfl rfl hy1 ?_
   refine St.p rfl rfl ?_
   refine St.done ?_
   refine St.thenN ?_
   refine St.prune (Γ' := [(0, _), (2, _), (4, _), (5, _)]) ⟨rfl, rfl, rfl, rfl, trivial⟩ (.k .z) ?_
   refine St.seq ?_
   refine St.seq ?_
   refine St.region ?_
   refine St.p rfl rfl ?_
   refine St.p rfl rfl ?_
   refine St.done ?_
   refine St.thenN ?_
   refine St.prune (Γ' := [(0, _), (2, _), (4, _), (5, _), (16, _)]) ⟨rfl, rfl, rfl, rfl, rfl, trivial⟩ (.k .z) ?_
   refine St.cond _ rfl (fun hb2 => ?_) (fun hb2 => ?_)
   ·replace h1 := bif_t hb2 h1
    refine St.seq ?_
    refine St.region ?_
    obtain ⟨l1, hl1, h1⟩ := bnd_e h1
    refine St.ldA ebool hl1 rfl rfl rfl rfl rfl rfl rfl .z ?_
    obtain ⟨l2, hl2, h1⟩ := bnd_e h1
    obtain ⟨l3, hl3, h1⟩ := bnd_e h1
    refine St.stA ebool hl2 hl3 rfl rfl rfl rfl rfl rfl .z ?_
    refine St.p rfl rfl ?_
    refine St.done ?_
    refine St.thenN ?_
    refine St.prune (Γ' := [(2, _), (3, _)]) ⟨rfl, rfl, trivial⟩ (.k .z) ?_
    refine St.ret ?_
    repeat (first | refine St.thenR ?_ | refine St.blkR ?_)
    refine St.asrt (fun _ w => Sat.ownBox (chkLen_len hl3) (w.front .z) rfl) ?_
    injection h1 with h1
    subst h1
    have ho := hd1 _ rfl
    subst ho
    have h : some _ = some _ := h
    injection h with h
    subst h
    exact St.finR Tryd.results84 (.cell rfl (.head _) (ppart_all ebool l3 rfl rfl rfl (chkLen_len hl3)) (.tmp rfl .nil)) rfl [] ⟨rfl, rfl⟩ (fun _ w => ((.d .z) : Keep _ _).sat w)
   ·replace h1 := bif_f hb2 h1
    refine St.skip ?_
    refine St.thenN ?_
    refine St.prune (Γ' := [(0, _), (2, _), (4, _), (5, _)]) ⟨rfl, rfl, rfl, rfl, trivial⟩ (.k .z) ?_
    refine St.region ?_
    refine St.p rfl rfl ?_
    obtain ⟨l4, hl4, h1⟩ := bnd_e h1
    obtain ⟨x1, hx1, h1⟩ := bnd_e h1
    refine St.ixA (sz := 1) hx1 rfl rfl rfl (chkLen_n hl4) rfl rfl rfl rfl ?_
    obtain ⟨l5, hl5, h1⟩ := bnd_e h1
    refine St.stO 0 hx1 hl5 rfl rfl .z rfl rfl rfl rfl rfl ?_
    refine St.done ?_
    refine St.blkN ?_
    refine St.thenN ?_
    refine St.prune (Γ' := [(0, _), (2, _), (4, _)]) ⟨rfl, rfl, rfl, trivial⟩ (.k .z) ?_
    refine St.region ?_
    iterate 3 refine St.p rfl rfl ?_
    refine St.done ?_
    injection h1 with h1
    subst h1
    refine St.thenN ?_
    exact St.again _ () hm1 trivial ⟨rfl, rfl, rfl, trivial⟩ (fun _ w => ((.k .z) : Keep _ _).sat w)
  ·replace h1 := bif_f hb1 h1
   refine St.exit ?_
   repeat (first | refine St.thenX ?_ | refine St.blkMiss rfl ?_)
   refine St.blkHit ?_
   injection h1 with h1
   subst h1
   have ho := hd1 _ rfl
   subst ho
   refine St.thenN ?_
   exact St.hereI s1.1 () rfl ⟨rfl, trivial⟩ (fun _ w => ((.k .z) : Keep _ _).sat w)
 ·rintro o2 e2 ho
  subst ho
  have h : _ = some _ := h
  refine St.seq ?_
  refine St.region ?_
  obtain ⟨l6, hl6, h⟩ := bnd_e h
  refine St.ldA ebool hl6 rfl rfl rfl rfl rfl rfl rfl .z ?_
  obtain ⟨l7, hl7, h⟩ := bnd_e h
  obtain ⟨l8, hl8, h⟩ := bnd_e h
  refine St.stA ebool hl7 hl8 rfl rfl rfl rfl rfl rfl .z ?_
  refine St.p rfl rfl ?_
  refine St.done ?_
  refine St.thenN ?_
  refine St.prune (Γ' := [(2, _), (3, _)]) ⟨rfl, rfl, trivial⟩ (.k .z) ?_
  refine St.ret ?_
  repeat (first | refine St.thenR ?_ | refine St.blkR ?_)
  refine St.asrt (fun _ w => Sat.ownBox (chkLen_len hl8) (w.front .z) rfl) ?_
  injection h with h
  subst h
  exact St.finR Tryd.results84 (.cell rfl (.head _) (ppart_all ebool l8 rfl rfl rfl (chkLen_len hl8)) (.tmp rfl .nil)) rfl [] ⟨rfl, rfl⟩ (fun _ w => ((.d .z) : Keep _ _).sat w)

theorem ent94 : Ent Tryd.prog 94 := ⟨_, Tryd.func94, by kernel_rfl, by kernel_rfl⟩

noncomputable def m_strings_asciiSet_contains (as_p0 : (List Bool)) (c_p1 : Int) : Option Bool :=
 bnd (chkLen 256 as_p0) fun l1 => bnd (elt as_p0 c_p1) fun x1 => some x1

theorem c_strings_asciiSet_contains {as_p0 : (List Bool)} {c_p1 : Int} {gb1 : Nat} {r : Bool} (h : m_strings_asciiSet_contains as_p0 c_p1 = some r) :
  Fun Tryd.prog 94 [.pointer (some ⟨gb1, 0, none⟩), .int .u8 c_p1] [.res (OwnL ebool 113 (some ⟨gb1, 0, none⟩) 256 as_p0)] (fun v_ F_ => v_ = .bool r ∧ F_ = [.res (OwnL ebool 113 (some ⟨gb1, 0, none⟩) 256 as_p0)]) := by
 unfold m_strings_asciiSet_contains at h
 refine Fun.intro Tryd.func94 rfl rfl rfl fun w R => ?_
 refine St.seq ?_
 refine St.region ?_
 refine St.p rfl rfl ?_
 refine St.done ?_
 refine St.thenN ?_
 refine St.prune (Γ' := [(0, _), (1, _)]) ⟨rfl, rfl, trivial⟩ (.k .z) ?_
 refine St.seq ?_
 refine St.region ?_
 iterate 3 refine St.p rfl rfl ?_
 obtain ⟨l1, hl1, h⟩ := bnd_e h
 obtain ⟨x1, hx1, h⟩ := bnd_e h
 refine St.ixA (sz := 1) hx1 rfl rfl rfl (chkLen_n hl1) rfl rfl rfl rfl ?_
 refine St.ldO 0 hx1 rfl rfl (.head _) rfl rfl ?_
 refine St.p rfl rfl ?_
 refine St.done ?_
 refine St.thenN ?_
 refine St.prune (Γ' := [(4, _)]) ⟨rfl, trivial⟩ (.k .z) ?_
 refine St.ret ?_
 repeat (first | refine St.thenR ?_ | refine St.blkR ?_)
 injection h with h
 subst h
 exact St.finR Tryd.results94 (.tmp rfl .nil) rfl [.res (OwnL ebool 113 (some ⟨gb1, 0, none⟩) 256 as_p0)] ⟨rfl, rfl⟩ (fun _ w => ((.k .z) : Keep _ _).sat w)

theorem ent86 : Ent Tryd.prog 86 := ⟨_, Tryd.func86, by kernel_rfl, by kernel_rfl⟩

noncomputable def m_strings_trimRightASCII (s_p0 : ByteArray) (as_p1 : (List Bool)) : Option ByteArray :=
 bnd (loopM (τ := ByteArray) (fun (s1 : ByteArray) => bif decide ((s1.size : Int) > 0) then (bnd (eltS s1 (IntKind.wrap .i64 ((s1.size : Int) - 1))) fun y1 => bnd (m_strings_asciiSet_contains as_p1 y1) fun r1 => bif !r1 then (some (.done s1)) else (bnd (subS s1 0 (IntKind.wrap .i64 ((s1.size : Int) - 1))) fun t1 => some (.next t1))) else (some (.done s1))) s_p0) fun o1 => some o1

theorem c_strings_trimRightASCII {s_p0 : ByteArray} {as_p1 : (List Bool)} {gb1 : Nat} {r : ByteArray} (h : m_strings_trimRightASCII s_p0 as_p1 = some r) :
  Fun Tryd.prog 86 [.string s_p0, .pointer (some ⟨gb1, 0, none⟩)] [.res (OwnL ebool 113 (some ⟨gb1, 0, none⟩) 256 as_p1)] (fun v_ F_ => v_ = .string r ∧ F_ = [.res (OwnL ebool 113 (some ⟨gb1, 0, none⟩) 256 as_p1)]) := by
 unfold m_strings_trimRightASCII at h
 refine Fun.intro Tryd.func86 rfl rfl rfl fun w R => ?_
 refine St.seq ?_
 refine St.region ?_
 refine St.p rfl rfl ?_
 refine St.done ?_
 refine St.thenN ?_
 refine St.prune (Γ' := [(0, _), (1, _)]) ⟨rfl, rfl, trivial⟩ (.k .z) ?_
 refine St.seq ?_
 obtain ⟨o1, hl1, h⟩ := bnd_e h
 refine St.cutE (fun (e2 : Unit) => [(0, .string o1)]) (fun e2 => .res (OwnL ebool 113 (some ⟨gb1, 0, none⟩) 256 as_p1) :: R) ?_ ?_
 ·refine St.block ?_
  refine St.loop hl1 (fun (s1 : ByteArray) (e1 : Unit) => [(0, .string s1), (1, .pointer (some ⟨gb1, 0, none⟩))]) (fun s1 e1 => .res (OwnL ebool 113 (some ⟨gb1, 0, none⟩) 256 as_p1) :: R) (fun _ _ => True) () trivial ⟨rfl, rfl, trivial⟩ (fun _ w => ((.k .z) : Keep _ _).sat w) ?_
  rintro s1 e1 - hit1
  obtain ⟨st1, hm1, hd1⟩ := iter_e hit1
  have h1 := hm1
  refine St.seq ?_
  refine St.seq ?_
  refine St.region ?_
  iterate 3 refine St.p rfl rfl ?_
  refine St.done ?_
  refine St.thenN ?_
  refine St.prune (Γ' := [(0, _), (1, _), (7, _)]) ⟨rfl, rfl, rfl, trivial⟩ (.k .z) ?_
  refine St.cond _ rfl (fun hb1 => ?_) (fun hb1 => ?_)
  ·replace h1 := bif_t hb1 h1
   refine St.skip ?_
   refine St.thenN ?_
   refine St.prune (Γ' := [(0, _), (1, _)]) ⟨rfl, rfl, trivial⟩ (.k .z) ?_
   refine St.block ?_
   refine St.seq ?_
   refine St.seq ?_
   refine St.region ?_
   iterate 5 refine St.p rfl rfl ?_
   obtain ⟨y1, hy1, h1⟩ := bnd_e h1
   refine St.eltS rfl rfl rfl rfl rfl hy1 ?_
   obtain ⟨r1, hr1, h1⟩ := bnd_e h1
   refine St.call (c_strings_asciiSet_contains hr1) ent94 rfl rfl rfl (fun _ w => (w.front .z)) ?_
   rintro _ _ ⟨rfl, rfl⟩
   refine St.asrt (F' := .res (OwnL ebool 113 (some ⟨gb1, 0, none⟩) 256 as_p1) :: R) (fun _ w => w) ?_
   refine St.p rfl rfl ?_
   refine St.done ?_
   refine St.thenN ?_
   refine St.prune (Γ' := [(0, _), (1, _), (15, _)]) ⟨rfl, rfl, rfl, trivial⟩ (.k .z) ?_
   refine St.cond _ rfl (fun hb2 => ?_) (fun hb2 => ?_)
   ·replace h1 := bif_t hb2 h1
    refine St.exit ?_
    repeat (first | refine St.thenX ?_ | refine St.blkMiss rfl ?_)
    refine St.blkHit ?_
    injection h1 with h1
    subst h1
    have ho := hd1 _ rfl
    subst ho
    refine St.thenN ?_
    exact St.hereE () ⟨rfl, trivial⟩ (fun _ w => ((.k .z) : Keep _ _).sat w)
   ·replace h1 := bif_f hb2 h1
    refine St.skip ?_
    refine St.thenN ?_
    refine St.prune (Γ' := [(0, _), (1, _)]) ⟨rfl, rfl, trivial⟩ (.k .z) ?_
    refine St.region ?_
    iterate 4 refine St.p rfl rfl ?_
    obtain ⟨t1, ht1, h1⟩ := bnd_e h1
    refine St.subS rfl rfl rfl rfl rfl rfl ht1 ?_
    refine St.p rfl rfl ?_
    refine St.done ?_
    refine St.blkN ?_
    injection h1 with h1
    subst h1
    refine St.thenN ?_
    exact St.again _ () hm1 trivial ⟨rfl, rfl, trivial⟩ (fun _ w => ((.k .z) : Keep _ _).sat w)
  ·replace h1 := bif_f hb1 h1
   refine St.exit ?_
   repeat (first | refine St.thenX ?_ | refine St.blkMiss rfl ?_)
   refine St.blkHit ?_
   injection h1 with h1
   subst h1
   have ho := hd1 _ rfl
   subst ho
   refine St.thenN ?_
   exact St.hereE () ⟨rfl, trivial⟩ (fun _ w => ((.k .z) : Keep _ _).sat w)
 ·rintro e2
  refine St.seq ?_
  refine St.region ?_
  refine St.p rfl rfl ?_
  refine St.p rfl rfl ?_
  refine St.done ?_
  refine St.thenN ?_
  refine St.prune (Γ' := [(4, _)]) ⟨rfl, trivial⟩ (.k .z) ?_
  refine St.ret ?_
  repeat (first | refine St.thenR ?_ | refine St.blkR ?_)
  injection h with h
  subst h
  exact St.finR Tryd.results86 (.tmp rfl .nil) rfl [.res (OwnL ebool 113 (some ⟨gb1, 0, none⟩) 256 as_p1)] ⟨rfl, rfl⟩ (fun _ w => ((.k .z) : Keep _ _).sat w)

theorem ent85 : Ent Tryd.prog 85 := ⟨_, Tryd.func85, by kernel_rfl, by kernel_rfl⟩

noncomputable def m_strings_trimLeftASCII (s_p0 : ByteArray) (as_p1 : (List Bool)) : Option ByteArray :=
 bnd (loopM (τ := ByteArray) (fun (s1 : ByteArray) => bif decide ((s1.size : Int) > 0) then (bnd (eltS s1 0) fun y1 => bnd (m_strings_asciiSet_contains as_p1 y1) fun r1 => bif !r1 then (some (.done s1)) else (bnd (subS s1 1 (s1.size : Int)) fun t1 => some (.next t1))) else (some (.done s1))) s_p0) fun o1 => some o1

theorem c_strings_trimLeftASCII {s_p0 : ByteArray} {as_p1 : (List Bool)} {gb1 : Nat} {r : ByteArray} (h : m_strings_trimLeftASCII s_p0 as_p1 = some r) :
  Fun Tryd.prog 85 [.string s_p0, .pointer (some ⟨gb1, 0, none⟩)] [.res (OwnL ebool 113 (some ⟨gb1, 0, none⟩) 256 as_p1)] (fun v_ F_ => v_ = .string r ∧ F_ = [.res (OwnL ebool 113 (some ⟨gb1, 0, none⟩) 256 as_p1)]) := by
 unfold m_strings_trimLeftASCII at h
 refine Fun.intro Tryd.func85 rfl rfl rfl fun w R => ?_
 refine St.seq ?_
 refine St.region ?_
 refine St.p rfl rfl ?_
 refine St.done ?_
 refine St.thenN ?_
 refine St.prune (Γ' := [(0, _), (1, _)]) ⟨rfl, rfl, trivial⟩ (.k .z) ?_
 refine St.seq ?_
 obtain ⟨o1, hl1, h⟩ := bnd_e h
 refine St.cutE (fun (e2 : Unit) => [(0, .string o1)]) (fun e2 => .res (OwnL ebool 113 (some ⟨gb1, 0, none⟩) 256 as_p1) :: R) ?_ ?_
 ·refine St.block ?_
  refine St.loop hl1 (fun (s1 : ByteArray) (e1 : Unit) => [(0, .string s1), (1, .pointer (some ⟨gb1, 0, none⟩))]) (fun s1 e1 => .res (OwnL ebool 113 (some ⟨gb1, 0, none⟩) 256 as_p1) :: R) (fun _ _ => True) () trivial ⟨rfl, rfl, trivial⟩ (fun _ w => ((.k .z) : Keep _ _).sat w) ?_
  rintro s1 e1 - hit1
  obtain ⟨st1, hm1, hd1⟩ := iter_e hit1
  have h1 := hm1
  refine St.seq ?_
  refine St.seq ?_
  refine St.region ?_
  iterate 3 refine St.p rfl rfl ?_
  refine St.done ?_
  refine St.thenN ?_
  refine St.prune (Γ' := [(0, _), (1, _), (7, _)]) ⟨rfl, rfl, rfl, trivial⟩ (.k .z) ?_
  refine St.cond _ rfl (fun hb1 => ?_) (fun hb1 => ?_)
  ·replace h1 := bif_t hb1 h1
   refine St.skip ?_
   refine St.thenN ?_
   refine St.prune (Γ' := [(0, _), (1, _)]) ⟨rfl, rfl, trivial⟩ (.k .z) ?_
   refine St.block ?_
   refine St.seq ?_
   refine St.seq ?_
   refine St.region ?_
   refine St.p rfl rfl ?_
   refine St.p rfl rfl ?_
   obtain ⟨y1, hy1, h1⟩ := bnd_e h1
   refine St.eltS rfl rfl rfl rfl rfl hy1 ?_
   obtain ⟨r1, hr1, h1⟩ := bnd_e h1
   refine St.call (c_strings_asciiSet_contains hr1) ent94 rfl rfl rfl (fun _ w => (w.front .z)) ?_
   rintro _ _ ⟨rfl, rfl⟩
   refine St.asrt (F' := .res (OwnL ebool 113 (some ⟨gb1, 0, none⟩) 256 as_p1) :: R) (fun _ w => w) ?_
   refine St.p rfl rfl ?_
   refine St.done ?_
   refine St.thenN ?_
   refine St.prune (Γ' := [(0, _), (1, _), (12, _)]) ⟨rfl, rfl, rfl, trivial⟩ (.k .z) ?_
   refine St.cond _ rfl (fun hb2 => ?_) (fun hb2 => ?_)
   ·replace h1 := bif_t hb2 h1
    refine St.exit ?_
    repeat (first | refine St.thenX ?_ | refine St.blkMiss rfl ?_)
    refine St.blkHit ?_
    injection h1 with h1
    subst h1
    have ho := hd1 _ rfl
    subst ho
    refine St.thenN ?_
    exact St.hereE () ⟨rfl, trivial⟩ (fun _ w => ((.k .z) : Keep _ _).sat w)
   ·replace h1 := bif_f hb2 h1
    refine St.skip ?_
    refine St.thenN ?_
    refine St.prune (Γ' := [(0, _), (1, _)]) ⟨rfl, rfl, trivial⟩ (.k .z) ?_
    refine St.region ?_
    refine St.p rfl rfl ?_
    obtain ⟨t1, ht1, h1⟩ := bnd_e h1
    refine St.subS rfl rfl rfl rfl rfl rfl ht1 ?_
    refine St.p rfl rfl ?_
    refine St.done ?_
    refine St.blkN ?_
    injection h1 with h1
    subst h1
    refine St.thenN ?_
    exact St.again _ () hm1 trivial ⟨rfl, rfl, trivial⟩ (fun _ w => ((.k .z) : Keep _ _).sat w)
  ·replace h1 := bif_f hb1 h1
   refine St.exit ?_
   repeat (first | refine St.thenX ?_ | refine St.blkMiss rfl ?_)
   refine St.blkHit ?_
   injection h1 with h1
   subst h1
   have ho := hd1 _ rfl
   subst ho
   refine St.thenN ?_
   exact St.hereE () ⟨rfl, trivial⟩ (fun _ w => ((.k .z) : Keep _ _).sat w)
 ·rintro e2
  refine St.seq ?_
  refine St.region ?_
  refine St.p rfl rfl ?_
  refine St.p rfl rfl ?_
  refine St.done ?_
  refine St.thenN ?_
  refine St.prune (Γ' := [(4, _)]) ⟨rfl, trivial⟩ (.k .z) ?_
  refine St.ret ?_
  repeat (first | refine St.thenR ?_ | refine St.blkR ?_)
  injection h with h
  subst h
  exact St.finR Tryd.results85 (.tmp rfl .nil) rfl [.res (OwnL ebool 113 (some ⟨gb1, 0, none⟩) 256 as_p1)] ⟨rfl, rfl⟩ (fun _ w => ((.k .z) : Keep _ _).sat w)

theorem ent104 : Ent Tryd.prog 104 := ⟨_, Tryd.func104, by kernel_rfl, by kernel_rfl⟩

noncomputable def m_unicode_utf8_RuneStart (b_p0 : Int) : Option Bool :=
 some ((iAnd .u8 b_p0 192) != 128)

theorem c_unicode_utf8_RuneStart {b_p0 : Int} {r : Bool} (h : m_unicode_utf8_RuneStart b_p0 = some r) :
  Fun Tryd.prog 104 [.int .u8 b_p0] [] (Val (.bool r)) := by
 unfold m_unicode_utf8_RuneStart at h
 refine Fun.intro Tryd.func104 rfl rfl rfl fun w R => ?_
 refine St.seq ?_
 refine St.region ?_
 refine St.p rfl rfl ?_
 refine St.done ?_
 refine St.thenN ?_
 refine St.prune (Γ' := [(0, _)]) ⟨rfl, trivial⟩ .z ?_
 refine St.seq ?_
 refine St.region ?_
 iterate 4 refine St.p rfl rfl ?_
 refine St.done ?_
 refine St.thenN ?_
 refine St.prune (Γ' := [(2, _)]) ⟨rfl, trivial⟩ .z ?_
 refine St.ret ?_
 repeat (first | refine St.thenR ?_ | refine St.blkR ?_)
 injection h with h
 subst h
 exact St.finR Tryd.results104 (.tmp rfl .nil) rfl [] ⟨rfl, rfl⟩ (fun _ w => (.z : Keep _ _).sat w)

theorem ent72 : Ent Tryd.prog 72 := ⟨_, Tryd.func72, by kernel_rfl, by kernel_rfl⟩

noncomputable def m_strings_Trim (s_p0 : ByteArray) (cutset : ByteArray) : Option ByteArray :=
 bnd ((bif (s_p0.toList == ((⟨#[]⟩) : ByteArray).toList) then (some true) else (some (cutset.toList == ((⟨#[]⟩) : ByteArray).toList)) : Option Bool)) fun o1 => bif o1 then (some s_p0) else (bnd ((bif ((cutset.size : Int) == 1) then (bnd (eltS cutset 0) fun y1 => some (decide (y1 < 128))) else (some false) : Option Bool)) fun o2 => bif o2 then (bnd (eltS cutset 0) fun y2 => bnd (m_strings_trimRightByte s_p0 y2) fun r1 => bnd (m_strings_trimLeftByte r1 y2) fun r2 => some r2) else (bnd (m_strings_makeASCIISet cutset) fun r3 => bnd (chkLen 256 (List.replicate 256 false)) fun l1 => bnd (chkLen 256 r3.1) fun l2 => bif r3.2 then (bnd (m_strings_trimRightASCII s_p0 l2) fun r4 => bnd (m_strings_trimLeftASCII r4 l2) fun r5 => some r5) else (none)))

theorem c_strings_Trim {s_p0 : ByteArray} {cutset : ByteArray} {r : ByteArray} (h : m_strings_Trim s_p0 cutset = some r) :
  Fun Tryd.prog 72 [.string s_p0, .string cutset] [] (Val (.string r)) := by
 unfold m_strings_Trim at h
 refine Fun.intro Tryd.func72 rfl rfl rfl fun w R => ?_
 refine St.seq ?_
 refine St.region ?_
 refine St.p rfl rfl ?_
 refine St.done ?_
 refine St.thenN ?_
 refine St.prune (Γ' := [(0, _), (1, _)]) ⟨rfl, rfl, trivial⟩ .z ?_
 refine St.seq ?_
 refine St.seq ?_
 obtain ⟨o1, hj1, h⟩ := bnd_e h
 refine St.cutE (fun (e1 : Unit) => [(0, .string s_p0), (1, .string cutset), (12, .bool o1)]) (fun e1 => R) ?_ ?_
 ·refine St.region ?_
  iterate 3 refine St.p rfl rfl ?_
  refine St.gSplit (dj := 9) _ rfl (fun hb1 => ?_) (fun hb1 => ?_)
  ·replace hj1 := bif_t hb1 hj1
   refine St.gOff (dj := 9) rfl rfl rfl rfl ?_
   refine St.gOff (dj := 9) rfl rfl rfl rfl ?_
   refine St.p rfl rfl ?_
   refine St.done ?_
   injection hj1 with hj1
   subst hj1
   refine St.thenN ?_
   exact St.hereE () ⟨rfl, rfl, rfl, trivial⟩ (fun _ w => (.z : Keep _ _).sat w)
  ·replace hj1 := bif_f hb1 hj1
   refine St.gOn (dj := 9) rfl rfl ?_
   refine St.p rfl rfl ?_
   refine St.gOn (dj := 9) rfl rfl ?_
   refine St.p rfl rfl ?_
   refine St.p rfl rfl ?_
   refine St.done ?_
   injection hj1 with hj1
   subst hj1
   refine St.thenN ?_
   exact St.hereE () ⟨rfl, rfl, rfl, trivial⟩ (fun _ w => (.z : Keep _ _).sat w)
 ·rintro e1
  refine St.cond _ rfl (fun hb2 => ?_) (fun hb2 => ?_)
  ·replace h := bif_t hb2 h
   refine St.seq ?_
   refine St.region ?_
   refine St.p rfl rfl ?_
   refine St.p rfl rfl ?_
   refine St.done ?_
   refine St.thenN ?_
   refine St.prune (Γ' := [(4, _)]) ⟨rfl, trivial⟩ .z ?_
   refine St.ret ?_
   repeat (first | refine St.thenR ?_ | refine St.blkR ?_)
   injection h with h
   subst h
   exact St.finR Tryd.results72 (.tmp rfl .nil) rfl [] ⟨rfl, rfl⟩ (fun _ w => (.z : Keep _ _).sat w)
  ·replace h := bif_f hb2 h
   refine St.skip ?_
   refine St.thenN ?_
   refine St.prune (Γ' := [(0, _), (1, _)]) ⟨rfl, rfl, trivial⟩ .z ?_
   refine St.seq ?_
   refine St.seq ?_
   obtain ⟨o2, hj2, h⟩ := bnd_e h
   refine St.cutE (fun (e2 : Unit) => [(0, .string s_p0), (1, .string cutset), (21, .bool o2)]) (fun e2 => R) ?_ ?_
   ·refine St.region ?_
    iterate 4 refine St.p rfl rfl ?_
    refine St.gSplit (dj := 17) _ rfl (fun hb3 => ?_) (fun hb3 => ?_)
    ·replace hj2 := bif_t hb3 hj2
     refine St.gOn (dj := 17) rfl rfl ?_
     refine St.p rfl rfl ?_
     refine St.gOn (dj := 17) rfl rfl ?_
     obtain ⟨y1, hy1, hj2⟩ := bnd_e hj2
     refine St.eltS rfl rfl rfl rfl rfl hy1 ?_
     refine St.gOn (dj := 17) rfl rfl ?_
     refine St.p rfl rfl ?_
     refine St.p rfl rfl ?_
     refine St.done ?_
     injection hj2 with hj2
     subst hj2
     refine St.thenN ?_
     exact St.hereE () ⟨rfl, rfl, rfl, trivial⟩ (fun _ w => (.z : Keep _ _).sat w)
    ·replace hj2 := bif_f hb3 hj2
     refine St.gOff (dj := 17) rfl rfl rfl rfl ?_
     refine St.gOff (dj := 17) rfl rfl rfl rfl ?_
     refine St.gOff (dj := 17) rfl rfl rfl rfl ?_
     refine St.p rfl rfl ?_
     refine St.done ?_
     injection hj2 with hj2
     subst hj2
     refine St.thenN ?_
     exact St.hereE () ⟨rfl, rfl, rfl, trivial⟩ (fun _ w => (.z : Keep _ _).sat w)
   ·rintro e2
    refine St.cond _ rfl (fun hb4 => ?_) (fun hb4 => ?_)
    ·replace h := bif_t hb4 h
     refine St.seq ?_
     refine St.regionF mixed (by kernel_rfl) ?_
     refine St.p rfl rfl ?_
     refine St.p rfl rfl ?_
     obtain ⟨y2, hy2, h⟩ := bnd_e h
     refine St.eltS rfl rfl rfl rfl rfl hy2 ?_
     obtain ⟨r1, hr1, h⟩ := bnd_e h
     refine St.callV (c_strings_trimRightByte hr1) ent83 rfl rfl rfl rfl trivial ?_
     refine St.p rfl rfl ?_
     refine St.eltS rfl rfl rfl rfl rfl hy2 ?_
     obtain ⟨r2, hr2, h⟩ := bnd_e h
     refine St.callV (c_strings_trimLeftByte hr2) ent82 rfl rfl rfl rfl trivial ?_
     refine St.p rfl rfl ?_
     refine St.doneQ ?_
     refine St.thenN ?_
     refine St.prune (Γ' := [(4, _)]) ⟨rfl, trivial⟩ .z ?_
     refine St.ret ?_
     repeat (first | refine St.thenR ?_ | refine St.blkR ?_)
     injection h with h
     subst h
     exact St.finR Tryd.results72 (.tmp rfl .nil) rfl [] ⟨rfl, rfl⟩ (fun _ w => (.z : Keep _ _).sat w)
    ·replace h := bif_f hb4 h
     refine St.skip ?_
     refine St.thenN ?_
     refine St.prune (Γ' := [(0, _), (1, _)]) ⟨rfl, rfl, trivial⟩ .z ?_
     refine St.seq ?_
     refine St.seq ?_
     refine St.region ?_
     refine St.p rfl rfl ?_
     obtain ⟨r3, hr3, h⟩ := bnd_e h
     refine St.callV (c_strings_makeASCIISet hr3) ent84 rfl rfl rfl rfl trivial ?_
     iterate 3 refine St.p rfl rfl ?_
     refine St.allocA (n := 256) ebool false rfl rfl (by kernel_rfl) rfl fun g1 => ?_
     obtain ⟨l1, hl1, h⟩ := bnd_e h
     obtain ⟨l2, hl2, h⟩ := bnd_e h
     refine St.stA ebool hl1 hl2 rfl rfl rfl rfl rfl rfl .z ?_
     refine St.p rfl rfl ?_
     refine St.done ?_
     refine St.thenN ?_
     refine St.prune (Γ' := [(0, _), (1, _), (5, _), (6, _)]) ⟨rfl, rfl, rfl, rfl, trivial⟩ (.k .z) ?_
     refine St.seq ?_
     refine St.region ?_
     refine St.p rfl rfl ?_
     refine St.done ?_
     refine St.thenN ?_
     refine St.prune (Γ' := [(0, _), (1, _), (5, _), (34, _)]) ⟨rfl, rfl, rfl, rfl, trivial⟩ (.k .z) ?_
     refine St.cond _ rfl (fun hb5 => ?_) (fun hb5 => ?_)
     ·replace h := bif_t hb5 h
      refine St.seq ?_
      refine St.region ?_
      refine St.p rfl rfl ?_
      obtain ⟨r4, hr4, h⟩ := bnd_e h
      refine St.call (c_strings_trimRightASCII hr4) ent86 rfl rfl rfl (fun _ w => (w.front .z)) ?_
      rintro _ _ ⟨rfl, rfl⟩
      refine St.asrt (F' := .res (OwnL ebool 113 (some ⟨g1, 0, none⟩) 256 l2) :: R) (fun _ w => w) ?_
      obtain ⟨r5, hr5, h⟩ := bnd_e h
      refine St.call (c_strings_trimLeftASCII hr5) ent85 rfl rfl rfl (fun _ w => (w.front .z)) ?_
      rintro _ _ ⟨rfl, rfl⟩
      refine St.asrt (F' := .res (OwnL ebool 113 (some ⟨g1, 0, none⟩) 256 l2) :: R) (fun _ w => w) ?_
      refine St.p rfl rfl ?_
      refine St.done ?_
      refine St.thenN ?_
      refine St.prune (Γ' := [(4, _)]) ⟨rfl, trivial⟩ (.d .z) ?_
      refine St.ret ?_
      repeat (first | refine St.thenR ?_ | refine St.blkR ?_)
      injection h with h
      subst h
      exact St.finR Tryd.results72 (.tmp rfl .nil) rfl [] ⟨rfl, rfl⟩ (fun _ w => (.z : Keep _ _).sat w)
     ·replace h := bif_f hb5 h
      refine St.skip ?_
      refine St.thenN ?_
      refine St.prune (Γ' := [(0, _), (1, _)]) ⟨rfl, rfl, trivial⟩ (.d .z) ?_
      refine St.seq ?_
      refine St.region ?_
      refine St.p rfl rfl ?_
      refine St.p rfl rfl ?_
      cases h

theorem ent73 : Ent Tryd.prog 73 := ⟨_, Tryd.func73, by kernel_rfl, by kernel_rfl⟩

noncomputable def m_fields_sixBytes (n_p0 : Int) : Option Int :=
 some (IntKind.wrap .i64 ((IntKind.wrap .i64 ((IntKind.wrap .i64 (6 * n_p0)) + 7)).tdiv 8))

theorem c_fields_sixBytes {n_p0 : Int} {r : Int} (h : m_fields_sixBytes n_p0 = some r) :
  Fun Tryd.prog 73 [.int .i64 n_p0] [] (Val (.int .i64 r)) := by
 unfold m_fields_sixBytes at h
 refine Fun.intro Tryd.func73 rfl rfl rfl fun w R => ?_
 refine St.seq ?_
 refine St.region ?_
 refine St.p rfl rfl ?_
 refine St.done ?_
 refine St.thenN ?_
 refine St.prune (Γ' := [(0, _)]) ⟨rfl, trivial⟩ .z ?_
 refine St.seq ?_
 refine St.region ?_
 iterate 5 refine St.p rfl rfl ?_
 refine St.done ?_
 refine St.thenN ?_
 refine St.prune (Γ' := [(2, _)]) ⟨rfl, trivial⟩ .z ?_
 refine St.ret ?_
 repeat (first | refine St.thenR ?_ | refine St.blkR ?_)
 injection h with h
 subst h
 exact St.finR Tryd.results73 (.tmp rfl .nil) rfl [] ⟨rfl, rfl⟩ (fun _ w => (.z : Keep _ _).sat w)

theorem ent74 : Ent Tryd.prog 74 := ⟨_, Tryd.func74, by kernel_rfl, by kernel_rfl⟩

noncomputable def m_fields_six (s_p0 : ByteArray) : Option Bool :=
 bnd (loopM (τ := Bool ⊕ Unit) (fun (s1 : Int) => bif decide (s1 < (s_p0.size : Int)) then (bnd ((bnd (eltS s_p0 s1) fun y1 => bif decide (y1 < 32) then (some true) else (some (decide (y1 > 95))) : Option Bool)) fun o3 => bif o3 then (some (.done (.inl false))) else (some (.next (IntKind.wrap .i64 (s1 + 1))))) else (some (.done (.inr ())))) 0) fun o1 => retOr o1 fun o2 => some true

theorem c_fields_six {s_p0 : ByteArray} {r : Bool} (h : m_fields_six s_p0 = some r) :
  Fun Tryd.prog 74 [.string s_p0] [] (Val (.bool r)) := by
 unfold m_fields_six at h
 refine Fun.intro Tryd.func74 rfl rfl rfl fun w R => ?_
 refine St.seq ?_
 refine St.region ?_
 refine St.p rfl rfl ?_
 refine St.done ?_
 refine St.thenN ?_
 refine St.prune (Γ' := [(0, _)]) ⟨rfl, trivial⟩ .z ?_
 refine St.seq ?_
 refine St.seq ?_
 refine St.region ?_
 iterate 3 refine St.p rfl rfl ?_
 refine St.done ?_
 refine St.thenN ?_
 refine St.prune (Γ' := [(0, _), (5, _), (6, _)]) ⟨rfl, rfl, rfl, trivial⟩ .z ?_
 obtain ⟨o1, hl1, h⟩ := bnd_e h
 refine St.cutI (fun (o2 : Unit) (e2 : Unit) => []) (fun o2 e2 => R) (fun o2 => o1 = .inr o2) ?_ ?_
 ·refine St.block ?_
  refine St.loop hl1 (fun (s1 : Int) (e1 : Unit) => [(0, .string s_p0), (5, .int .i64 (s_p0.size : Int)), (6, .int .i64 s1)]) (fun s1 e1 => R) (fun _ _ => True) () trivial ⟨rfl, rfl, rfl, trivial⟩ (fun _ w => (.z : Keep _ _).sat w) ?_
  rintro s1 e1 - hit1
  obtain ⟨st1, hm1, hd1⟩ := iter_e hit1
  have h1 := hm1
  refine St.seq ?_
  refine St.region ?_
  refine St.p rfl rfl ?_
  refine St.done ?_
  refine St.thenN ?_
  refine St.seq ?_
  refine St.cond _ rfl (fun hb1 => ?_) (fun hb1 => ?_)
  ·replace h1 := bif_t hb1 h1
   refine St.skip ?_
   refine St.thenN ?_
   refine St.prune (Γ' := [(0, _), (5, _), (6, _)]) ⟨rfl, rfl, rfl, trivial⟩ .z ?_
   refine St.seq ?_
   refine St.block ?_
   refine St.seq ?_
   refine St.region ?_
   refine St.p rfl rfl ?_
   refine St.p rfl rfl ?_
   refine St.done ?_
   refine St.thenN ?_
   refine St.prune (Γ' := [(0, _), (3, _), (5, _), (6, _)]) ⟨rfl, rfl, rfl, rfl, trivial⟩ .z ?_
   refine St.seq ?_
   obtain ⟨o3, hj1, h1⟩ := bnd_e h1
   refine St.cutE (fun (e3 : Unit) => [(0, .string s_p0), (5, .int .i64 (s_p0.size : Int)), (6, .int .i64 s1), (18, .bool o3)]) (fun e3 => R) ?_ ?_
   ·refine St.region ?_
    refine St.p rfl rfl ?_
    refine St.p rfl rfl ?_
    obtain ⟨y1, hy1, hj1⟩ := bnd_e hj1
    refine St.eltS rfl rfl rfl rfl rfl hy1 ?_
    refine St.p rfl rfl ?_
    refine St.p rfl rfl ?_
    refine St.gSplit (dj := 13) _ rfl (fun hb2 => ?_) (fun hb2 => ?_)
    ·replace hj1 := bif_t hb2 hj1
     refine St.gOff (dj := 13) rfl rfl rfl rfl ?_
     refine St.gOff (dj := 13) rfl rfl rfl rfl ?_
     refine St.gOff (dj := 13) rfl rfl rfl rfl ?_
     refine St.gOff (dj := 13) rfl rfl rfl rfl ?_
     refine St.p rfl rfl ?_
     refine St.done ?_
     injection hj1 with hj1
     subst hj1
     refine St.thenN ?_
     exact St.hereE () ⟨rfl, rfl, rfl, rfl, trivial⟩ (fun _ w => (.z : Keep _ _).sat w)
    ·replace hj1 := bif_f hb2 hj1
     refine St.gOn (dj := 13) rfl rfl ?_
     refine St.p rfl rfl ?_
     refine St.gOn (dj := 13) rfl rfl ?_
     refine St.p rfl rfl ?_
     refine St.gOn (dj := 13) rfl rfl ?_
     refine St.eltS rfl rfl rfl rfl rfl hy1 ?_
     refine St.gOn (dj := 13) rfl rfl ?_
     refine St.p rfl rfl ?_
     refine St.p rfl rfl ?_
     refine St.done ?_
     injection hj1 with hj1
     subst hj1
     refine St.thenN ?_
     exact St.hereE () ⟨rfl, rfl, rfl, rfl, trivial⟩ (fun _ w => (.z : Keep _ _).sat w)
   ·rintro e3
    refine St.cond _ rfl (fun hb3 => ?_) (fun hb3 => ?_)
    ·replace h1 := bif_t hb3 h1
     refine St.seq ?_
     refine St.region ?_
     refine St.p rfl rfl ?_
     refine St.done ?_
     refine St.thenN ?_
     refine St.prune (Γ' := [(2, _)]) ⟨rfl, trivial⟩ .z ?_
     refine St.ret ?_
     repeat (first | refine St.thenR ?_ | refine St.blkR ?_)
     injection h1 with h1
     subst h1
     have ho := hd1 _ rfl
     subst ho
     have h : some _ = some _ := h
     injection h with h
     subst h
     exact St.finR Tryd.results74 (.tmp rfl .nil) rfl [] ⟨rfl, rfl⟩ (fun _ w => (.z : Keep _ _).sat w)
    ·replace h1 := bif_f hb3 h1
     refine St.skip ?_
     refine St.blkN ?_
     refine St.thenN ?_
     refine St.prune (Γ' := [(0, _), (5, _), (6, _)]) ⟨rfl, rfl, rfl, trivial⟩ .z ?_
     refine St.region ?_
     refine St.p rfl rfl ?_
     refine St.p rfl rfl ?_
     refine St.done ?_
     injection h1 with h1
     subst h1
     refine St.thenN ?_
     exact St.again _ () hm1 trivial ⟨rfl, rfl, rfl, trivial⟩ (fun _ w => (.z : Keep _ _).sat w)
  ·replace h1 := bif_f hb1 h1
   refine St.exit ?_
   repeat (first | refine St.thenX ?_ | refine St.blkMiss rfl ?_)
   refine St.blkHit ?_
   injection h1 with h1
   subst h1
   have ho := hd1 _ rfl
   subst ho
   refine St.thenN ?_
   exact St.hereI () () rfl trivial (fun _ w => (.z : Keep _ _).sat w)
 ·rintro o2 e2 ho
  subst ho
  have h : _ = some _ := h
  refine St.seq ?_
  refine St.region ?_
  refine St.p rfl rfl ?_
  refine St.done ?_
  refine St.thenN ?_
  refine St.ret ?_
  repeat (first | refine St.thenR ?_ | refine St.blkR ?_)
  injection h with h
  subst h
  exact St.finR Tryd.results74 (.tmp rfl .nil) rfl [] ⟨rfl, rfl⟩ (fun _ w => (.z : Keep _ _).sat w)

theorem ent55 : Ent Tryd.prog 55 := ⟨_, Tryd.func55, by kernel_rfl, by kernel_rfl⟩

noncomputable def m_fields_Valid (f_p0 : T_Field) : Option Bool :=
 bif (f_p0.Kind == 0) then (some (decide ((f_p0.Value.size : Int) ≤ 63))) else (bif (f_p0.Kind == 1) then (bnd ((bif (((f_p0.Value.size : Int).tmod 2) == 0) then (bif decide ((f_p0.Value.size : Int) ≤ 126) then (bnd (m_strings_Trim f_p0.Value (⟨#[48, 49, 50, 51, 52, 53, 54, 55, 56, 57, 32, 45, 46]⟩)) fun r1 => some (r1.toList == ((⟨#[]⟩) : ByteArray).toList)) else (some false)) else (some false) : Option Bool)) fun o1 => some o1) else (bif (f_p0.Kind == 2) then (bnd ((bif (((f_p0.Value.size : Int).tmod 4) != 3) then (bnd (m_fields_sixBytes (f_p0.Value.size : Int)) fun r2 => bif decide (r2 ≤ 63) then (bnd (m_fields_six f_p0.Value) fun r3 => some r3) else (some false)) else (some false) : Option Bool)) fun o2 => some o2) else (bif (f_p0.Kind == 3) then (bnd ((bif ((f_p0.Value.size : Int) != 1) then (some (decide ((f_p0.Value.size : Int) ≤ 63))) else (some false) : Option Bool)) fun o3 => some o3) else (some false))))

theorem c_fields_Valid {f_p0 : T_Field} {r : Bool} (h : m_fields_Valid f_p0 = some r) :
  Fun Tryd.prog 55 [.agg #[.int .i64 f_p0.Kind, .string f_p0.Value]] [] (Val (.bool r)) := by
 unfold m_fields_Valid at h
 refine Fun.intro Tryd.func55 rfl rfl rfl fun w R => ?_
 refine St.seq ?_
 refine St.region ?_
 refine St.box rfl rfl fun g1 => ?_
 refine St.p rfl rfl ?_
 refine St.done ?_
 refine St.thenN ?_
 refine St.prune (Γ' := [(1, _)]) ⟨rfl, trivial⟩ (.k .z) ?_
 refine St.seq ?_
 refine St.region ?_
 refine St.p rfl rfl ?_
 refine St.loadB 1 rfl rfl (.head _) rfl rfl ?_
 refine St.p rfl rfl ?_
 refine St.p rfl rfl ?_
 refine St.done ?_
 refine St.thenN ?_
 refine St.prune (Γ' := [(1, _), (3, _)]) ⟨rfl, rfl, trivial⟩ (.k .z) ?_
 refine St.seq ?_
 refine St.seq ?_
 refine St.region ?_
 refine St.p rfl rfl ?_
 refine St.loadB 0 rfl rfl (.head _) rfl rfl ?_
 refine St.done ?_
 refine St.thenN ?_
 refine St.prune (Γ' := [(1, _), (3, _), (8, _)]) ⟨rfl, rfl, rfl, trivial⟩ (.k .z) ?_
 refine St.block ?_
 refine St.seq ?_
 refine St.region ?_
 refine St.p rfl rfl ?_
 refine St.p rfl rfl ?_
 refine St.done ?_
 refine St.thenN ?_
 refine St.prune (Γ' := [(1, _), (3, _), (8, _), (9, _)]) ⟨rfl, rfl, rfl, rfl, trivial⟩ (.k .z) ?_
 refine St.cond _ rfl (fun hb1 => ?_) (fun hb1 => ?_)
 ·replace h := bif_t hb1 h
  refine St.seq ?_
  refine St.region ?_
  iterate 3 refine St.p rfl rfl ?_
  refine St.done ?_
  refine St.thenN ?_
  refine St.prune (Γ' := [(2, _)]) ⟨rfl, trivial⟩ (.d .z) ?_
  refine St.ret ?_
  repeat (first | refine St.thenR ?_ | refine St.blkR ?_)
  injection h with h
  subst h
  exact St.finR Tryd.results55 (.tmp rfl .nil) rfl [] ⟨rfl, rfl⟩ (fun _ w => (.z : Keep _ _).sat w)
 ·replace h := bif_f hb1 h
  refine St.seq ?_
  refine St.region ?_
  refine St.p rfl rfl ?_
  refine St.p rfl rfl ?_
  refine St.done ?_
  refine St.thenN ?_
  refine St.prune (Γ' := [(1, _), (3, _), (8, _), (13, _)]) ⟨rfl, rfl, rfl, rfl, trivial⟩ (.k .z) ?_
  refine St.cond _ rfl (fun hb2 => ?_) (fun hb2 => ?_)
  ·replace h := bif_t hb2 h
   refine St.seq ?_
   obtain ⟨o1, hj1, h⟩ := bnd_e h
   refine St.cutE (fun (e1 : Unit) => [(2, .bool o1)]) (fun e1 => R) ?_ ?_
   ·refine St.region ?_
    iterate 4 refine St.p rfl rfl ?_
    refine St.gSplit (dj := 18) _ rfl (fun hb3 => ?_) (fun hb3 => ?_)
    ·replace hj1 := bif_t hb3 hj1
     refine St.gOn (dj := 18) rfl rfl ?_
     refine St.p rfl rfl ?_
     refine St.gOn (dj := 18) rfl rfl ?_
     iterate 3 refine St.p rfl rfl ?_
     refine St.gSplit (dj := 22) _ rfl (fun hb4 => ?_) (fun hb4 => ?_)
     ·replace hj1 := bif_t hb4 hj1
      refine St.gOn (dj := 22) rfl rfl ?_
      refine St.p rfl rfl ?_
      refine St.gOn (dj := 22) rfl rfl ?_
      refine St.loadB 1 rfl rfl (.head _) rfl rfl ?_
      refine St.gOn (dj := 22) rfl rfl ?_
      obtain ⟨r1, hr1, hj1⟩ := bnd_e hj1
      refine St.callV (c_strings_Trim hr1) ent72 rfl rfl rfl rfl trivial ?_
      refine St.gOn (dj := 22) rfl rfl ?_
      iterate 3 refine St.p rfl rfl ?_
      refine St.done ?_
      injection hj1 with hj1
      subst hj1
      refine St.thenN ?_
      exact St.hereE () ⟨rfl, trivial⟩ (fun _ w => ((.d .z) : Keep _ _).sat w)
     ·replace hj1 := bif_f hb4 hj1
      refine St.gOff (dj := 22) rfl rfl rfl rfl ?_
      refine St.gOff (dj := 22) rfl rfl rfl rfl ?_
      refine St.gOff (dj := 22) rfl rfl rfl rfl ?_
      refine St.gOff (dj := 22) rfl rfl rfl rfl ?_
      refine St.p rfl rfl ?_
      refine St.p rfl rfl ?_
      refine St.done ?_
      injection hj1 with hj1
      subst hj1
      refine St.thenN ?_
      exact St.hereE () ⟨rfl, trivial⟩ (fun _ w => ((.d .z) : Keep _ _).sat w)
    ·replace hj1 := bif_f hb3 hj1
     refine St.gOff (dj := 18) rfl rfl rfl rfl ?_
     refine St.gOff (dj := 18) rfl rfl rfl rfl ?_
     refine St.p rfl rfl ?_
     refine St.p rfl rfl ?_
     refine St.gOff (dj := 22) rfl rfl rfl rfl ?_
     refine St.gOff (dj := 22) rfl rfl rfl rfl ?_
     refine St.gOff (dj := 22) rfl rfl rfl rfl ?_
     refine St.gOff (dj := 22) rfl rfl rfl rfl ?_
     refine St.p rfl rfl ?_
     refine St.p rfl rfl ?_
     refine St.done ?_
     injection hj1 with hj1
     subst hj1
     refine St.thenN ?_
     exact St.hereE () ⟨rfl, trivial⟩ (fun _ w => ((.d .z) : Keep _ _).sat w)
   ·rintro e1
    refine St.ret ?_
    repeat (first | refine St.thenR ?_ | refine St.blkR ?_)
    injection h with h
    subst h
    exact St.finR Tryd.results55 (.tmp rfl .nil) rfl [] ⟨rfl, rfl⟩ (fun _ w => (.z : Keep _ _).sat w)
  ·replace h := bif_f hb2 h
   refine St.seq ?_
   refine St.region ?_
   refine St.p rfl rfl ?_
   refine St.p rfl rfl ?_
   refine St.done ?_
   refine St.thenN ?_
   refine St.prune (Γ' := [(1, _), (3, _), (8, _), (28, _)]) ⟨rfl, rfl, rfl, rfl, trivial⟩ (.k .z) ?_
   refine St.cond _ rfl (fun hb5 => ?_) (fun hb5 => ?_)
   ·replace h := bif_t hb5 h
    refine St.seq ?_
    obtain ⟨o2, hj2, h⟩ := bnd_e h
    refine St.cutE (fun (e2 : Unit) => [(2, .bool o2)]) (fun e2 => R) ?_ ?_
    ·refine St.region ?_
     iterate 4 refine St.p rfl rfl ?_
     refine St.gSplit (dj := 33) _ rfl (fun hb6 => ?_) (fun hb6 => ?_)
     ·replace hj2 := bif_t hb6 hj2
      refine St.gOn (dj := 33) rfl rfl ?_
      refine St.p rfl rfl ?_
      refine St.gOn (dj := 33) rfl rfl ?_
      obtain ⟨r2, hr2, hj2⟩ := bnd_e hj2
      refine St.callV (c_fields_sixBytes hr2) ent73 rfl rfl rfl rfl trivial ?_
      refine St.gOn (dj := 33) rfl rfl ?_
      iterate 3 refine St.p rfl rfl ?_
      refine St.gSplit (dj := 38) _ rfl (fun hb7 => ?_) (fun hb7 => ?_)
      ·replace hj2 := bif_t hb7 hj2
       refine St.gOn (dj := 38) rfl rfl ?_
       refine St.p rfl rfl ?_
       refine St.gOn (dj := 38) rfl rfl ?_
       refine St.loadB 1 rfl rfl (.head _) rfl rfl ?_
       refine St.gOn (dj := 38) rfl rfl ?_
       obtain ⟨r3, hr3, hj2⟩ := bnd_e hj2
       refine St.callV (c_fields_six hr3) ent74 rfl rfl rfl rfl trivial ?_
       refine St.p rfl rfl ?_
       refine St.p rfl rfl ?_
       refine St.done ?_
       injection hj2 with hj2
       subst hj2
       refine St.thenN ?_
       exact St.hereE () ⟨rfl, trivial⟩ (fun _ w => ((.d .z) : Keep _ _).sat w)
      ·replace hj2 := bif_f hb7 hj2
       refine St.gOff (dj := 38) rfl rfl rfl rfl ?_
       refine St.gOff (dj := 38) rfl rfl rfl rfl ?_
       refine St.gOff (dj := 38) rfl rfl rfl rfl ?_
       refine St.p rfl rfl ?_
       refine St.p rfl rfl ?_
       refine St.done ?_
       injection hj2 with hj2
       subst hj2
       refine St.thenN ?_
       exact St.hereE () ⟨rfl, trivial⟩ (fun _ w => ((.d .z) : Keep _ _).sat w)
     ·replace hj2 := bif_f hb6 hj2
      refine St.gOff (dj := 33) rfl rfl rfl rfl ?_
      refine St.gOff (dj := 33) rfl rfl rfl rfl ?_
      refine St.gOff (dj := 33) rfl rfl rfl rfl ?_
      refine St.p rfl rfl ?_
      refine St.p rfl rfl ?_
      refine St.gOff (dj := 38) rfl rfl rfl rfl ?_
      refine St.gOff (dj := 38) rfl rfl rfl rfl ?_
      refine St.gOff (dj := 38) rfl rfl rfl rfl ?_
      refine St.p rfl rfl ?_
      refine St.p rfl rfl ?_
      refine St.done ?_
      injection hj2 with hj2
      subst hj2
      refine St.thenN ?_
      exact St.hereE () ⟨rfl, trivial⟩ (fun _ w => ((.d .z) : Keep _ _).sat w)
    ·rintro e2
     refine St.ret ?_
     repeat (first | refine St.thenR ?_ | refine St.blkR ?_)
     injection h with h
     subst h
     exact St.finR Tryd.results55 (.tmp rfl .nil) rfl [] ⟨rfl, rfl⟩ (fun _ w => (.z : Keep _ _).sat w)
   ·replace h := bif_f hb5 h
    refine St.seq ?_
    refine St.region ?_
    refine St.p rfl rfl ?_
    refine St.p rfl rfl ?_
    refine St.done ?_
    refine St.thenN ?_
    refine St.prune (Γ' := [(3, _), (43, _)]) ⟨rfl, rfl, trivial⟩ (.d .z) ?_
    refine St.cond _ rfl (fun hb8 => ?_) (fun hb8 => ?_)
    ·replace h := bif_t hb8 h
     refine St.seq ?_
     obtain ⟨o3, hj3, h⟩ := bnd_e h
     refine St.cutE (fun (e3 : Unit) => [(2, .bool o3)]) (fun e3 => R) ?_ ?_
     ·refine St.region ?_
      iterate 3 refine St.p rfl rfl ?_
      refine St.gSplit (dj := 47) _ rfl (fun hb9 => ?_) (fun hb9 => ?_)
      ·replace hj3 := bif_t hb9 hj3
       refine St.gOn (dj := 47) rfl rfl ?_
       refine St.p rfl rfl ?_
       refine St.gOn (dj := 47) rfl rfl ?_
       iterate 3 refine St.p rfl rfl ?_
       refine St.done ?_
       injection hj3 with hj3
       subst hj3
       refine St.thenN ?_
       exact St.hereE () ⟨rfl, trivial⟩ (fun _ w => (.z : Keep _ _).sat w)
      ·replace hj3 := bif_f hb9 hj3
       refine St.gOff (dj := 47) rfl rfl rfl rfl ?_
       refine St.gOff (dj := 47) rfl rfl rfl rfl ?_
       refine St.p rfl rfl ?_
       refine St.p rfl rfl ?_
       refine St.done ?_
       injection hj3 with hj3
       subst hj3
       refine St.thenN ?_
       exact St.hereE () ⟨rfl, trivial⟩ (fun _ w => (.z : Keep _ _).sat w)
     ·rintro e3
      refine St.ret ?_
      repeat (first | refine St.thenR ?_ | refine St.blkR ?_)
      injection h with h
      subst h
      exact St.finR Tryd.results55 (.tmp rfl .nil) rfl [] ⟨rfl, rfl⟩ (fun _ w => (.z : Keep _ _).sat w)
    ·replace h := bif_f hb8 h
     refine St.skip ?_
     refine St.blkN ?_
     refine St.thenN ?_
     refine St.prune (Γ' := []) trivial .z ?_
     refine St.seq ?_
     refine St.region ?_
     refine St.p rfl rfl ?_
     refine St.done ?_
     refine St.thenN ?_
     refine St.ret ?_
     repeat (first | refine St.thenR ?_ | refine St.blkR ?_)
     injection h with h
     subst h
     exact St.finR Tryd.results55 (.tmp rfl .nil) rfl [] ⟨rfl, rfl⟩ (fun _ w => (.z : Keep _ _).sat w)

theorem ent54 : Ent Tryd.prog 54 := ⟨_, Tryd.func54, by kernel_rfl, by kernel_rfl⟩

noncomputable def m_unitinfo_validArea_1 (f_p0 : T_Field) : Option Bool :=
 bnd (m_fields_Valid f_p0) fun r1 => some (!r1)

theorem c_unitinfo_validArea_1 {f_p0 : T_Field} {r : Bool} (h : m_unitinfo_validArea_1 f_p0 = some r) :
  Fun Tryd.prog 54 [.agg #[.int .i64 f_p0.Kind, .string f_p0.Value]] [] (Val (.bool r)) := by
 unfold m_unitinfo_validArea_1 at h
 refine Fun.intro Tryd.func54 rfl rfl rfl fun w R => ?_
 refine St.seq ?_
 refine St.region ?_
 refine St.box rfl rfl fun g1 => ?_
 refine St.p rfl rfl ?_
 refine St.done ?_
 refine St.thenN ?_
 refine St.prune (Γ' := [(1, _)]) ⟨rfl, trivial⟩ (.k .z) ?_
 refine St.seq ?_
 refine St.region ?_
 refine St.loadB 0 rfl rfl (.head _) rfl rfl ?_
 obtain ⟨r1, hr1, h⟩ := bnd_e h
 refine St.callV (c_fields_Valid hr1) ent55 rfl rfl rfl rfl trivial ?_
 refine St.p rfl rfl ?_
 refine St.p rfl rfl ?_
 refine St.done ?_
 refine St.thenN ?_
 refine St.prune (Γ' := [(2, _)]) ⟨rfl, trivial⟩ (.d .z) ?_
 refine St.ret ?_
 repeat (first | refine St.thenR ?_ | refine St.blkR ?_)
 injection h with h
 subst h
 exact St.finR Tryd.results54 (.tmp rfl .nil) rfl [] ⟨rfl, rfl⟩ (fun _ w => (.z : Keep _ _).sat w)

theorem ent71 : Ent Tryd.prog 71 := ⟨_, Tryd.func71, by kernel_rfl, by kernel_rfl⟩

noncomputable def m_slices_IndexFunc__api_Field_api_Field_f54 (s_p0 : (List T_Field)) : Option Int :=
 bnd (loopM (τ := Int ⊕ Unit) (fun (s1 : Int) => bif decide (s1 < (s_p0.length : Int)) then (bnd (elt s_p0 s1) fun x1 => bnd (m_unitinfo_validArea_1 x1) fun r1 => bif r1 then (some (.done (.inl s1))) else (some (.next (IntKind.wrap .i64 (s1 + 1))))) else (some (.done (.inr ())))) 0) fun o1 => retOr o1 fun o2 => some (-1)

theorem c_slices_IndexFunc__api_Field_api_Field_f54 {s_p0 : (List T_Field)} {A1 : Option Addr} {c1 : Nat} {r : Int} (h : m_slices_IndexFunc__api_Field_api_Field_f54 s_p0 = some r) :
  Fun Tryd.prog 71 [.slice A1 s_p0.length c1, .func (.func 54) #[] #[]] [.ro (SlL e_Field A1 c1 s_p0)] (Val (.int .i64 r)) := by
 unfold m_slices_IndexFunc__api_Field_api_Field_f54 at h
 refine Fun.intro Tryd.func71 rfl rfl rfl fun w R => ?_
 refine St.seq ?_
 refine St.region ?_
 refine St.p rfl rfl ?_
 refine St.done ?_
 refine St.thenN ?_
 refine St.prune (Γ' := [(0, _), (1, _)]) ⟨rfl, rfl, trivial⟩ (.k .z) ?_
 refine St.seq ?_
 refine St.seq ?_
 refine St.region ?_
 iterate 3 refine St.p rfl rfl ?_
 refine St.done ?_
 refine St.thenN ?_
 refine St.prune (Γ' := [(0, _), (1, _), (7, _), (8, _)]) ⟨rfl, rfl, rfl, rfl, trivial⟩ (.k .z) ?_
 obtain ⟨o1, hl1, h⟩ := bnd_e h
 refine St.cutI (fun (o2 : Unit) (e2 : Unit) => []) (fun o2 e2 => R) (fun o2 => o1 = .inr o2) ?_ ?_
 ·refine St.block ?_
  refine St.loop hl1 (fun (s1 : Int) (e1 : Unit) => [(0, .slice A1 s_p0.length c1), (1, .func (.func 54) #[] #[]), (7, .int .i64 (s_p0.length : Int)), (8, .int .i64 s1)]) (fun s1 e1 => .ro (SlL e_Field A1 c1 s_p0) :: R) (fun _ _ => True) () trivial ⟨rfl, rfl, rfl, rfl, trivial⟩ (fun _ w => ((.k .z) : Keep _ _).sat w) ?_
  rintro s1 e1 - hit1
  obtain ⟨st1, hm1, hd1⟩ := iter_e hit1
  have h1 := hm1
  refine St.seq ?_
  refine St.region ?_
  refine St.p rfl rfl ?_
  refine St.done ?_
  refine St.thenN ?_
  refine St.seq ?_
  refine St.cond _ rfl (fun hb1 => ?_) (fun hb1 => ?_)
  ·replace h1 := bif_t hb1 h1
   refine St.skip ?_
   refine St.thenN ?_
   refine St.prune (Γ' := [(0, _), (1, _), (7, _), (8, _)]) ⟨rfl, rfl, rfl, rfl, trivial⟩ (.k .z) ?_
   refine St.seq ?_
   refine St.block ?_
   refine St.seq ?_
   refine St.region ?_
   refine St.p rfl rfl ?_
   refine St.p rfl rfl ?_
   refine St.done ?_
   refine St.thenN ?_
   refine St.prune (Γ' := [(0, _), (1, _), (5, _), (7, _), (8, _)]) ⟨rfl, rfl, rfl, rfl, rfl, trivial⟩ (.k .z) ?_
   refine St.seq ?_
   refine St.region ?_
   iterate 3 refine St.p rfl rfl ?_
   obtain ⟨x1, hx1, h1⟩ := bnd_e h1
   refine St.ixL hx1 rfl rfl rfl (.head _) rfl rfl rfl rfl rfl fun b1 ob1 => ?_
   refine St.load ob1 0 rfl rfl (.head _) rfl rfl ?_
   obtain ⟨r1, hr1, h1⟩ := bnd_e h1
   refine St.callV (c_unitinfo_validArea_1 hr1) ent54 rfl rfl rfl rfl trivial ?_
   refine St.done ?_
   refine St.thenN ?_
   refine St.prune (Γ' := [(0, _), (1, _), (5, _), (7, _), (8, _), (16, _)]) ⟨rfl, rfl, rfl, rfl, rfl, rfl, trivial⟩ (.d (.k .z)) ?_
   refine St.cond _ rfl (fun hb2 => ?_) (fun hb2 => ?_)
   ·replace h1 := bif_t hb2 h1
    refine St.seq ?_
    refine St.region ?_
    refine St.p rfl rfl ?_
    refine St.p rfl rfl ?_
    refine St.done ?_
    refine St.thenN ?_
    refine St.prune (Γ' := [(4, _)]) ⟨rfl, trivial⟩ (.d .z) ?_
    refine St.ret ?_
    repeat (first | refine St.thenR ?_ | refine St.blkR ?_)
    injection h1 with h1
    subst h1
    have ho := hd1 _ rfl
    subst ho
    have h : some _ = some _ := h
    injection h with h
    subst h
    exact St.finR Tryd.results71 (.tmp rfl .nil) rfl [] ⟨rfl, rfl⟩ (fun _ w => (.z : Keep _ _).sat w)
   ·replace h1 := bif_f hb2 h1
    refine St.skip ?_
    refine St.blkN ?_
    refine St.thenN ?_
    refine St.prune (Γ' := [(0, _), (1, _), (7, _), (8, _)]) ⟨rfl, rfl, rfl, rfl, trivial⟩ (.k .z) ?_
    refine St.region ?_
    refine St.p rfl rfl ?_
    refine St.p rfl rfl ?_
    refine St.done ?_
    injection h1 with h1
    subst h1
    refine St.thenN ?_
    exact St.again _ () hm1 trivial ⟨rfl, rfl, rfl, rfl, trivial⟩ (fun _ w => ((.k .z) : Keep _ _).sat w)
  ·replace h1 := bif_f hb1 h1
   refine St.exit ?_
   repeat (first | refine St.thenX ?_ | refine St.blkMiss rfl ?_)
   refine St.blkHit ?_
   injection h1 with h1
   subst h1
   have ho := hd1 _ rfl
   subst ho
   refine St.thenN ?_
   exact St.hereI () () rfl trivial (fun _ w => ((.d .z) : Keep _ _).sat w)
 ·rintro o2 e2 ho
  subst ho
  have h : _ = some _ := h
  refine St.seq ?_
  refine St.region ?_
  refine St.p rfl rfl ?_
  refine St.done ?_
  refine St.thenN ?_
  refine St.ret ?_
  repeat (first | refine St.thenR ?_ | refine St.blkR ?_)
  injection h with h
  subst h
  exact St.finR Tryd.results71 (.tmp rfl .nil) rfl [] ⟨rfl, rfl⟩ (fun _ w => (.z : Keep _ _).sat w)

theorem ent53 : Ent Tryd.prog 53 := ⟨_, Tryd.func53, by kernel_rfl, by kernel_rfl⟩

noncomputable def m_slices_ContainsFunc__api_Field_api_Field_f54 (s_p0 : (List T_Field)) : Option Bool :=
 bnd (m_slices_IndexFunc__api_Field_api_Field_f54 s_p0) fun r1 => some (decide (r1 ≥ 0))

theorem c_slices_ContainsFunc__api_Field_api_Field_f54 {s_p0 : (List T_Field)} {A1 : Option Addr} {c1 : Nat} {r : Bool} (h : m_slices_ContainsFunc__api_Field_api_Field_f54 s_p0 = some r) :
  Fun Tryd.prog 53 [.slice A1 s_p0.length c1, .func (.func 54) #[] #[]] [.ro (SlL e_Field A1 c1 s_p0)] (Val (.bool r)) := by
 unfold m_slices_ContainsFunc__api_Field_api_Field_f54 at h
 refine Fun.intro Tryd.func53 rfl rfl rfl fun w R => ?_
 refine St.seq ?_
 refine St.region ?_
 refine St.p rfl rfl ?_
 refine St.done ?_
 refine St.thenN ?_
 refine St.prune (Γ' := [(0, _), (1, _)]) ⟨rfl, rfl, trivial⟩ (.k .z) ?_
 refine St.seq ?_
 refine St.region ?_
 refine St.p rfl rfl ?_
 refine St.p rfl rfl ?_
 obtain ⟨r1, hr1, h⟩ := bnd_e h
 refine St.callV (c_slices_IndexFunc__api_Field_api_Field_f54 hr1) ent71 rfl rfl rfl rfl ⟨(.head _), trivial⟩ ?_
 refine St.p rfl rfl ?_
 refine St.p rfl rfl ?_
 refine St.done ?_
 refine St.thenN ?_
 refine St.prune (Γ' := [(4, _)]) ⟨rfl, trivial⟩ (.d .z) ?_
 refine St.ret ?_
 repeat (first | refine St.thenR ?_ | refine St.blkR ?_)
 injection h with h
 subst h
 exact St.finR Tryd.results53 (.tmp rfl .nil) rfl [] ⟨rfl, rfl⟩ (fun _ w => (.z : Keep _ _).sat w)

theorem ent79 : Ent Tryd.prog 79 := ⟨_, Tryd.func79, by kernel_rfl, by kernel_rfl⟩

noncomputable def m_fields_EncodeList_1 (f_p0 : T_Field) : Option Bool :=
 bnd (m_fields_Valid f_p0) fun r1 => some (!r1)

theorem c_fields_EncodeList_1 {f_p0 : T_Field} {r : Bool} (h : m_fields_EncodeList_1 f_p0 = some r) :
  Fun Tryd.prog 79 [.agg #[.int .i64 f_p0.Kind, .string f_p0.Value]] [] (Val (.bool r)) := by
 unfold m_fields_EncodeList_1 at h
 refine Fun.intro Tryd.func79 rfl rfl rfl fun w R => ?_
 refine St.seq ?_
 refine St.region ?_
 refine St.box rfl rfl fun g1 => ?_
 refine St.p rfl rfl ?_
 refine St.done ?_
 refine St.thenN ?_
 refine St.prune (Γ' := [(1, _)]) ⟨rfl, trivial⟩ (.k .z) ?_
 refine St.seq ?_
 refine St.region ?_
 refine St.loadB 0 rfl rfl (.head _) rfl rfl ?_
 obtain ⟨r1, hr1, h⟩ := bnd_e h
 refine St.callV (c_fields_Valid hr1) ent55 rfl rfl rfl rfl trivial ?_
 refine St.p rfl rfl ?_
 refine St.p rfl rfl ?_
 refine St.done ?_
 refine St.thenN ?_
 refine St.prune (Γ' := [(2, _)]) ⟨rfl, trivial⟩ (.d .z) ?_
 refine St.ret ?_
 repeat (first | refine St.thenR ?_ | refine St.blkR ?_)
 injection h with h
 subst h
 exact St.finR Tryd.results79 (.tmp rfl .nil) rfl [] ⟨rfl, rfl⟩ (fun _ w => (.z : Keep _ _).sat w)

noncomputable def m_slices_IndexFunc__api_Field_api_Field_f79 (s_p0 : (List T_Field)) : Option Int :=
 bnd (loopM (τ := Int ⊕ Unit) (fun (s1 : Int) => bif decide (s1 < (s_p0.length : Int)) then (bnd (elt s_p0 s1) fun x1 => bnd (m_fields_EncodeList_1 x1) fun r1 => bif r1 then (some (.done (.inl s1))) else (some (.next (IntKind.wrap .i64 (s1 + 1))))) else (some (.done (.inr ())))) 0) fun o1 => retOr o1 fun o2 => some (-1)

theorem c_slices_IndexFunc__api_Field_api_Field_f79 {s_p0 : (List T_Field)} {A1 : Option Addr} {c1 : Nat} {r : Int} (h : m_slices_IndexFunc__api_Field_api_Field_f79 s_p0 = some r) :
  Fun Tryd.prog 71 [.slice A1 s_p0.length c1, .func (.func 79) #[] #[]] [.ro (SlL e_Field A1 c1 s_p0)] (Val (.int .i64 r)) := by
 unfold m_slices_IndexFunc__api_Field_api_Field_f79 at h
 refine Fun.intro Tryd.func71 rfl rfl rfl fun w R => ?_
 refine St.seq ?_
 refine St.region ?_
 refine St.p rfl rfl ?_
 refine St.done ?_
 refine St.thenN ?_
 refine St.prune (Γ' := [(0, _), (1, _)]) ⟨rfl, rfl, trivial⟩ (.k .z) ?_
 refine St.seq ?_
 refine St.seq ?_
 refine St.region ?_
 iterate 3 refine St.p rfl rfl ?_
 refine St.done ?_
 refine St.thenN ?_
 refine St.prune (Γ' := [(0, _), (1, _), (7, _), (8, _)]) ⟨rfl, rfl, rfl, rfl, trivial⟩ (.k .z) ?_
 obtain ⟨o1, hl1, h⟩ := bnd_e h
 refine St.cutI (fun (o2 : Unit) (e2 : Unit) => []) (fun o2 e2 => R) (fun o2 => o1 = .inr o2) ?_ ?_
 ·refine St.block ?_
  refine St.loop hl1 (fun (s1 : Int) (e1 : Unit) => [(0, .slice A1 s_p0.length c1), (1, .func (.func 79) #[] #[]), (7, .int .i64 (s_p0.length : Int)), (8, .int .i64 s1)]) (fun s1 e1 => .ro (SlL e_Field A1 c1 s_p0) :: R) (fun _ _ => True) () trivial ⟨rfl, rfl, rfl, rfl, trivial⟩ (fun _ w => ((.k .z) : Keep _ _).sat w) ?_
  rintro s1 e1 - hit1
  obtain ⟨st1, hm1, hd1⟩ := iter_e hit1
  have h1 := hm1
  refine St.seq ?_
  refine St.region ?_
  refine St.p rfl rfl ?_
  refine St.done ?_
  refine St.thenN ?_
  refine St.seq ?_
  refine St.cond _ rfl (fun hb1 => ?_) (fun hb1 => ?_)
  ·replace h1 := bif_t hb1 h1
   refine St.skip ?_
   refine St.thenN ?_
   refine St.prune (Γ' := [(0, _), (1, _), (7, _), (8, _)]) ⟨rfl, rfl, rfl, rfl, trivial⟩ (.k .z) ?_
   refine St.seq ?_
   refine St.block ?_
   refine St.seq ?_
   refine St.region ?_
   refine St.p rfl rfl ?_
   refine St.p rfl rfl ?_
   refine St.done ?_
   refine St.thenN ?_
   refine St.prune (Γ' := [(0, _), (1, _), (5, _), (7, _), (8, _)]) ⟨rfl, rfl, rfl, rfl, rfl, trivial⟩ (.k .z) ?_
   refine St.seq ?_
   refine St.region ?_
   iterate 3 refine St.p rfl rfl ?_
   obtain ⟨x1, hx1, h1⟩ := bnd_e h1
   refine St.ixL hx1 rfl rfl rfl (.head _) rfl rfl rfl rfl rfl fun b1 ob1 => ?_
   refine St.load ob1 0 rfl rfl (.head _) rfl rfl ?_
   obtain ⟨r1, hr1, h1⟩ := bnd_e h1
   refine St.callV (c_fields_EncodeList_1 hr1) ent79 rfl rfl rfl rfl trivial ?_
   refine St.done ?_
   refine St.thenN ?_
   refine St.prune (Γ' := [(0, _), (1, _), (5, _), (7, _), (8, _), (16, _)]) ⟨rfl, rfl, rfl, rfl, rfl, rfl, trivial⟩ (.d (.k .z)) ?_
   refine St.cond _ rfl (fun hb2 => ?_) (fun hb2 => ?_)
   ·replace h1 := bif_t hb2 h1
    refine St.seq ?_
    refine St.region ?_
    refine St.p rfl rfl ?_
    refine St.p rfl rfl ?_
    refine St.done ?_
    refine St.thenN ?_
    refine St.prune (Γ' := [(4, _)]) ⟨rfl, trivial⟩ (.d .z) ?_
    refine St.ret ?_
    repeat (first | refine St.thenR ?_ | refine St.blkR ?_)
    injection h1 with h1
    subst h1
    have ho := hd1 _ rfl
    subst ho
    have h : some _ = some _ := h
    injection h with h
    subst h
    exact St.finR Tryd.results71 (.tmp rfl .nil) rfl [] ⟨rfl, rfl⟩ (fun _ w => (.z : Keep _ _).sat w)
   ·replace h1 := bif_f hb2 h1
    refine St.skip ?_
    refine St.blkN ?_
    refine St.thenN ?_
    refine St.prune (Γ' := [(0, _), (1, _), (7, _), (8, _)]) ⟨rfl, rfl, rfl, rfl, trivial⟩ (.k .z) ?_
    refine St.region ?_
    refine St.p rfl rfl ?_
    refine St.p rfl rfl ?_
    refine St.done ?_
    injection h1 with h1
    subst h1
    refine St.thenN ?_
    exact St.again _ () hm1 trivial ⟨rfl, rfl, rfl, rfl, trivial⟩ (fun _ w => ((.k .z) : Keep _ _).sat w)
  ·replace h1 := bif_f hb1 h1
   refine St.exit ?_
   repeat (first | refine St.thenX ?_ | refine St.blkMiss rfl ?_)
   refine St.blkHit ?_
   injection h1 with h1
   subst h1
   have ho := hd1 _ rfl
   subst ho
   refine St.thenN ?_
   exact St.hereI () () rfl trivial (fun _ w => ((.d .z) : Keep _ _).sat w)
 ·rintro o2 e2 ho
  subst ho
  have h : _ = some _ := h
  refine St.seq ?_
  refine St.region ?_
  refine St.p rfl rfl ?_
  refine St.done ?_
  refine St.thenN ?_
  refine St.ret ?_
  repeat (first | refine St.thenR ?_ | refine St.blkR ?_)
  injection h with h
  subst h
  exact St.finR Tryd.results71 (.tmp rfl .nil) rfl [] ⟨rfl, rfl⟩ (fun _ w => (.z : Keep _ _).sat w)

noncomputable def m_slices_ContainsFunc__api_Field_api_Field_f79 (s_p0 : (List T_Field)) : Option Bool :=
 bnd (m_slices_IndexFunc__api_Field_api_Field_f79 s_p0) fun r1 => some (decide (r1 ≥ 0))

theorem c_slices_ContainsFunc__api_Field_api_Field_f79 {s_p0 : (List T_Field)} {A1 : Option Addr} {c1 : Nat} {r : Bool} (h : m_slices_ContainsFunc__api_Field_api_Field_f79 s_p0 = some r) :
  Fun Tryd.prog 53 [.slice A1 s_p0.length c1, .func (.func 79) #[] #[]] [.ro (SlL e_Field A1 c1 s_p0)] (Val (.bool r)) := by
 unfold m_slices_ContainsFunc__api_Field_api_Field_f79 at h
 refine Fun.intro Tryd.func53 rfl rfl rfl fun w R => ?_
 refine St.seq ?_
 refine St.region ?_
 refine St.p rfl rfl ?_
 refine St.done ?_
 refine St.thenN ?_
 refine St.prune (Γ' := [(0, _), (1, _)]) ⟨rfl, rfl, trivial⟩ (.k .z) ?_
 refine St.seq ?_
 refine St.region ?_
 refine St.p rfl rfl ?_
 refine St.p rfl rfl ?_
 obtain ⟨r1, hr1, h⟩ := bnd_e h
 refine St.callV (c_slices_IndexFunc__api_Field_api_Field_f79 hr1) ent71 rfl rfl rfl rfl ⟨(.head _), trivial⟩ ?_
 refine St.p rfl rfl ?_
 refine St.p rfl rfl ?_
 refine St.done ?_
 refine St.thenN ?_
 refine St.prune (Γ' := [(4, _)]) ⟨rfl, trivial⟩ (.d .z) ?_
 refine St.ret ?_
 repeat (first | refine St.thenR ?_ | refine St.blkR ?_)
 injection h with h
 subst h
 exact St.finR Tryd.results53 (.tmp rfl .nil) rfl [] ⟨rfl, rfl⟩ (fun _ w => (.z : Keep _ _).sat w)

theorem ent105 : Ent Tryd.prog 105 := ⟨_, Tryd.func105, by kernel_rfl, by kernel_rfl⟩

noncomputable def m_internal_stringslite_IndexByte (s_p0 : ByteArray) (c_p1 : Int) : Option Int :=
 some (indexByteM s_p0 c_p1)

theorem c_internal_stringslite_IndexByte {s_p0 : ByteArray} {c_p1 : Int} {r : Int} (h : m_internal_stringslite_IndexByte s_p0 c_p1 = some r) :
  Fun Tryd.prog 105 [.string s_p0, .int .u8 c_p1] [] (Val (.int .i64 r)) := by
 unfold m_internal_stringslite_IndexByte at h
 refine Fun.intro Tryd.func105 rfl rfl rfl fun w R => ?_
 refine St.seq ?_
 refine St.region ?_
 refine St.p rfl rfl ?_
 refine St.done ?_
 refine St.thenN ?_
 refine St.prune (Γ' := [(0, _), (1, _)]) ⟨rfl, rfl, trivial⟩ .z ?_
 refine St.seq ?_
 refine St.region ?_
 refine St.p rfl rfl ?_
 refine St.p rfl rfl ?_
 refine St.extIB Tryd.func109 (by kernel_rfl) (by kernel_rfl) (by kernel_rfl) (by kernel_rfl) rfl rfl rfl rfl ?_
 refine St.p rfl rfl ?_
 refine St.done ?_
 refine St.thenN ?_
 refine St.prune (Γ' := [(4, _)]) ⟨rfl, trivial⟩ .z ?_
 refine St.ret ?_
 repeat (first | refine St.thenR ?_ | refine St.blkR ?_)
 injection h with h
 subst h
 exact St.finR Tryd.results105 (.tmp rfl .nil) rfl [] ⟨rfl, rfl⟩ (fun _ w => (.z : Keep _ _).sat w)

theorem ent98 : Ent Tryd.prog 98 := ⟨_, Tryd.func98, by kernel_rfl, by kernel_rfl⟩

noncomputable def m_strings_IndexByte (s_p0 : ByteArray) (c_p1 : Int) : Option Int :=
 bnd (m_internal_stringslite_IndexByte s_p0 c_p1) fun r1 => some r1

theorem c_strings_IndexByte {s_p0 : ByteArray} {c_p1 : Int} {r : Int} (h : m_strings_IndexByte s_p0 c_p1 = some r) :
  Fun Tryd.prog 98 [.string s_p0, .int .u8 c_p1] [] (Val (.int .i64 r)) := by
 unfold m_strings_IndexByte at h
 refine Fun.intro Tryd.func98 rfl rfl rfl fun w R => ?_
 refine St.seq ?_
 refine St.region ?_
 refine St.p rfl rfl ?_
 refine St.done ?_
 refine St.thenN ?_
 refine St.prune (Γ' := [(0, _), (1, _)]) ⟨rfl, rfl, trivial⟩ .z ?_
 refine St.seq ?_
 refine St.region ?_
 refine St.p rfl rfl ?_
 refine St.p rfl rfl ?_
 obtain ⟨r1, hr1, h⟩ := bnd_e h
 refine St.callV (c_internal_stringslite_IndexByte hr1) ent105 rfl rfl rfl rfl trivial ?_
 refine St.p rfl rfl ?_
 refine St.done ?_
 refine St.thenN ?_
 refine St.prune (Γ' := [(4, _)]) ⟨rfl, trivial⟩ .z ?_
 refine St.ret ?_
 repeat (first | refine St.thenR ?_ | refine St.blkR ?_)
 injection h with h
 subst h
 exact St.finR Tryd.results98 (.tmp rfl .nil) rfl [] ⟨rfl, rfl⟩ (fun _ w => (.z : Keep _ _).sat w)

theorem ent99 : Ent Tryd.prog 99 := ⟨_, Tryd.func99, by kernel_rfl, by kernel_rfl⟩

noncomputable def m_fields_pack (s_p0 : ByteArray) : Option (List Int) :=
 bnd (m_fields_sixBytes (s_p0.size : Int)) fun r1 => bnd (mkS 1 0 r1 r1) fun l1 => bnd (loopM (τ := List Int) (fun (s1 : Int × List Int) => bif decide (s1.1 < (s_p0.size : Int)) then (bnd (eltS s_p0 s1.1) fun y1 => bnd (shlM .i64 (IntKind.wrap .i64 (IntKind.wrap .u8 (y1 - 32))) ((IntKind.wrap .i64 (6 * s1.1)).tmod 8)) fun q1 => bnd (elt s1.2 (IntKind.wrap .i64 ((IntKind.wrap .i64 (6 * s1.1)).tdiv 8))) fun x1 => bnd (setE s1.2 (IntKind.wrap .i64 ((IntKind.wrap .i64 (6 * s1.1)).tdiv 8)) (iOr .u8 x1 (IntKind.wrap .u8 q1))) fun l2 => bif decide (q1 > 255) then (bnd (elt l2 (IntKind.wrap .i64 ((IntKind.wrap .i64 ((IntKind.wrap .i64 (6 * s1.1)).tdiv 8)) + 1))) fun x2 => bnd (setE l2 (IntKind.wrap .i64 ((IntKind.wrap .i64 ((IntKind.wrap .i64 (6 * s1.1)).tdiv 8)) + 1)) (iOr .u8 x2 (IntKind.wrap .u8 (iShr .i64 q1 8)))) fun l3 => some (.next (IntKind.wrap .i64 (s1.1 + 1), l3))) else (some (.next (IntKind.wrap .i64 (s1.1 + 1), l2)))) else (some (.done s1.2))) (0, l1)) fun o1 => some o1

theorem c_fields_pack {s_p0 : ByteArray} {r : (List Int)} (h : m_fields_pack s_p0 = some r) :
  Fun Tryd.prog 99 [.string s_p0] [] (fun v_ F_ => ∃ (A1 : Option Addr) (c1 : Nat), v_ = .slice A1 r.length c1 ∧ F_ = [.res (OwnL eu8 5 A1 c1 r)]) := by
 unfold m_fields_pack at h
 refine Fun.intro Tryd.func99 rfl rfl rfl fun w R => ?_
 refine St.seq ?_
 refine St.region ?_
 refine St.p rfl rfl ?_
 refine St.done ?_
 refine St.thenN ?_
 refine St.prune (Γ' := [(0, _)]) ⟨rfl, trivial⟩ .z ?_
 refine St.seq ?_
 refine St.region ?_
 refine St.p rfl rfl ?_
 refine St.p rfl rfl ?_
 obtain ⟨r1, hr1, h⟩ := bnd_e h
 refine St.callV (c_fields_sixBytes hr1) ent73 rfl rfl rfl rfl trivial ?_
 obtain ⟨l1, hl1, h⟩ := bnd_e h
 refine St.mkL (E := eu8) 0 hl1 rfl rfl rfl rfl rfl rfl rfl rfl rfl rfl fun g1 => ?_
 refine St.p rfl rfl ?_
 refine St.done ?_
 refine St.thenN ?_
 refine St.prune (Γ' := [(0, _), (3, _)]) ⟨rfl, rfl, trivial⟩ (.k .z) ?_
 refine St.seq ?_
 refine St.seq ?_
 refine St.region ?_
 iterate 3 refine St.p rfl rfl ?_
 refine St.done ?_
 refine St.thenN ?_
 refine St.prune (Γ' := [(0, _), (3, _), (13, _), (14, _)]) ⟨rfl, rfl, rfl, rfl, trivial⟩ (.k .z) ?_
 obtain ⟨o1, hl1, h⟩ := bnd_e h
 refine St.cutE (fun (e2 : Option Addr × Nat) => [(3, .slice e2.1 o1.length e2.2)]) (fun e2 => .res (OwnL eu8 5 e2.1 e2.2 o1) :: R) ?_ ?_
 ·refine St.block ?_
  refine St.loop hl1 (fun (s1 : Int × List Int) (e1 : Option Addr × Nat) => [(0, .string s_p0), (3, .slice e1.1 s1.2.length e1.2), (13, .int .i64 (s_p0.size : Int)), (14, .int .i64 s1.1)]) (fun s1 e1 => .res (OwnL eu8 5 e1.1 e1.2 s1.2) :: R) (fun _ _ => True) ((some ⟨g1, 0, none⟩), (Int.toNat r1)) trivial ⟨rfl, rfl, rfl, rfl, trivial⟩ (fun _ w => ((.k .z) : Keep _ _).sat w) ?_
  rintro s1 ⟨A1, c1⟩ - hit1
  obtain ⟨st1, hm1, hd1⟩ := iter_e hit1
  have h1 := hm1
  refine St.seq ?_
  refine St.region ?_
  refine St.p rfl rfl ?_
  refine St.done ?_
  refine St.thenN ?_
  refine St.seq ?_
  refine St.cond _ rfl (fun hb1 => ?_) (fun hb1 => ?_)
  ·replace h1 := bif_t hb1 h1
   refine St.skip ?_
   refine St.thenN ?_
   refine St.prune (Γ' := [(0, _), (3, _), (13, _), (14, _)]) ⟨rfl, rfl, rfl, rfl, trivial⟩ (.k .z) ?_
   refine St.seq ?_
   refine St.block ?_
   refine St.seq ?_
   refine St.region ?_
   refine St.p rfl rfl ?_
   refine St.p rfl rfl ?_
   refine St.done ?_
   refine St.thenN ?_
   refine St.prune (Γ' := [(0, _), (3, _), (4, _), (13, _), (14, _)]) ⟨rfl, rfl, rfl, rfl, rfl, trivial⟩ (.k .z) ?_
   refine St.seq ?_
   refine St.region ?_
   iterate 8 refine St.p rfl rfl ?_
   refine St.done ?_
   refine St.thenN ?_
   refine St.prune (Γ' := [(0, _), (3, _), (4, _), (5, _), (6, _), (13, _), (14, _)]) ⟨rfl, rfl, rfl, rfl, rfl, rfl, rfl, trivial⟩ (.k .z) ?_
   refine St.seq ?_
   refine St.region ?_
   refine St.p rfl rfl ?_
   refine St.p rfl rfl ?_
   obtain ⟨y1, hy1, h1⟩ := bnd_e h1
   refine St.eltS rfl rfl rfl rfl rfl hy1 ?_
   iterate 3 refine St.p rfl rfl ?_
   obtain ⟨q1, hq1, h1⟩ := bnd_e h1
   refine St.shl rfl rfl rfl hq1 ?_
   refine St.p rfl rfl ?_
   refine St.done ?_
   refine St.thenN ?_
   refine St.prune (Γ' := [(0, _), (3, _), (5, _), (7, _), (13, _), (14, _)]) ⟨rfl, rfl, rfl, rfl, rfl, rfl, trivial⟩ (.k .z) ?_
   refine St.seq ?_
   refine St.region ?_
   refine St.p rfl rfl ?_
   refine St.p rfl rfl ?_
   obtain ⟨x1, hx1, h1⟩ := bnd_e h1
   refine St.ixO hx1 rfl rfl rfl (.head _) rfl rfl rfl rfl rfl fun g2 hA => ?_
   subst hA
   refine St.ldO 0 hx1 rfl rfl (.head _) rfl rfl ?_
   iterate 3 refine St.p rfl rfl ?_
   refine St.ixO hx1 rfl rfl rfl (.head _) rfl rfl rfl rfl rfl fun g3 hA => ?_
   cases hA
   obtain ⟨l2, hl2, h1⟩ := bnd_e h1
   refine St.stO 0 hx1 hl2 rfl rfl .z rfl rfl rfl rfl rfl ?_
   refine St.slots (Γ' := [(0, _), (3, .slice (some ⟨g2, 0, none⟩) l2.length c1), (5, _), (7, _), (13, _), (14, _), (30, .slice (some ⟨g2, 0, none⟩) l2.length c1), (31, _), (32, _), (33, _), (34, _), (35, _), (36, _), (37, _)]) ⟨rfl, sl_len hl2, rfl, rfl, rfl, rfl, sl_len hl2, rfl, rfl, rfl, rfl, rfl, rfl, rfl, trivial⟩ ?_
   refine St.done ?_
   refine St.thenN ?_
   refine St.prune (Γ' := [(0, _), (3, _), (5, _), (7, _), (13, _), (14, _)]) ⟨rfl, rfl, rfl, rfl, rfl, rfl, trivial⟩ (.k .z) ?_
   refine St.seq ?_
   refine St.region ?_
   refine St.p rfl rfl ?_
   refine St.p rfl rfl ?_
   refine St.done ?_
   refine St.thenN ?_
   refine St.prune (Γ' := [(0, _), (3, _), (5, _), (7, _), (13, _), (14, _), (39, _)]) ⟨rfl, rfl, rfl, rfl, rfl, rfl, rfl, trivial⟩ (.k .z) ?_
   refine St.cond _ rfl (fun hb2 => ?_) (fun hb2 => ?_)
   ·replace h1 := bif_t hb2 h1
    refine St.region ?_
    iterate 3 refine St.p rfl rfl ?_
    obtain ⟨x2, hx2, h1⟩ := bnd_e h1
    refine St.ixO hx2 rfl rfl rfl (.head _) rfl rfl rfl rfl rfl fun g4 hA => ?_
    cases hA
    refine St.ldO 0 hx2 rfl rfl (.head _) rfl rfl ?_
    iterate 4 refine St.p rfl rfl ?_
    refine St.ixO hx2 rfl rfl rfl (.head _) rfl rfl rfl rfl rfl fun g5 hA => ?_
    cases hA
    obtain ⟨l3, hl3, h1⟩ := bnd_e h1
    refine St.stO 0 hx2 hl3 rfl rfl .z rfl rfl rfl rfl rfl ?_
    refine St.slots (Γ' := [(0, _), (3, .slice (some ⟨g2, 0, none⟩) l3.length c1), (5, _), (7, _), (13, _), (14, _), (39, _), (40, .slice (some ⟨g2, 0, none⟩) l3.length c1), (41, _), (42, _), (43, _), (44, _), (45, _), (46, _), (47, _), (48, _), (49, _)]) ⟨rfl, sl_len hl3, rfl, rfl, rfl, rfl, rfl, sl_len hl3, rfl, rfl, rfl, rfl, rfl, rfl, rfl, rfl, rfl, trivial⟩ ?_
    refine St.done ?_
    refine St.blkN ?_
    refine St.thenN ?_
    refine St.prune (Γ' := [(0, _), (3, _), (13, _), (14, _)]) ⟨rfl, rfl, rfl, rfl, trivial⟩ (.k .z) ?_
    refine St.region ?_
    refine St.p rfl rfl ?_
    refine St.p rfl rfl ?_
    refine St.done ?_
    injection h1 with h1
    subst h1
    refine St.thenN ?_
    exact St.again _ ((some ⟨g2, 0, none⟩), c1) hm1 trivial ⟨rfl, rfl, rfl, rfl, trivial⟩ (fun _ w => ((.k .z) : Keep _ _).sat w)
   ·replace h1 := bif_f hb2 h1
    refine St.skip ?_
    refine St.blkN ?_
    refine St.thenN ?_
    refine St.prune (Γ' := [(0, _), (3, _), (13, _), (14, _)]) ⟨rfl, rfl, rfl, rfl, trivial⟩ (.k .z) ?_
    refine St.region ?_
    refine St.p rfl rfl ?_
    refine St.p rfl rfl ?_
    refine St.done ?_
    injection h1 with h1
    subst h1
    refine St.thenN ?_
    exact St.again _ ((some ⟨g2, 0, none⟩), c1) hm1 trivial ⟨rfl, rfl, rfl, rfl, trivial⟩ (fun _ w => ((.k .z) : Keep _ _).sat w)
  ·replace h1 := bif_f hb1 h1
   refine St.exit ?_
   repeat (first | refine St.thenX ?_ | refine St.blkMiss rfl ?_)
   refine St.blkHit ?_
   injection h1 with h1
   subst h1
   have ho := hd1 _ rfl
   subst ho
   refine St.thenN ?_
   exact St.hereE (A1, c1) ⟨rfl, trivial⟩ (fun _ w => ((.k .z) : Keep _ _).sat w)
 ·rintro ⟨A2, c2⟩
  refine St.seq ?_
  refine St.region ?_
  refine St.p rfl rfl ?_
  refine St.p rfl rfl ?_
  refine St.done ?_
  refine St.thenN ?_
  refine St.prune (Γ' := [(2, _)]) ⟨rfl, trivial⟩ (.k .z) ?_
  refine St.ret ?_
  repeat (first | refine St.thenR ?_ | refine St.blkR ?_)
  injection h with h
  subst h
  exact St.finR Tryd.results99 (.tmp rfl .nil) rfl [.res (OwnL eu8 5 A2 c2 o1)] ⟨A2, c2, rfl, rfl⟩ (fun _ w => ((.k .z) : Keep _ _).sat w)

theorem ent91 : Ent Tryd.prog 91 := ⟨_, Tryd.func91, by kernel_rfl, by kernel_rfl⟩

noncomputable def m_fields_data (f_p0 : T_Field) : Option (List Int) :=
 bif (f_p0.Kind == 1) then (bnd (loopM (τ := List Int) (fun (s1 : List Int × Int) => bif decide (s1.2 < (f_p0.Value.size : Int)) then (bnd (eltS f_p0.Value s1.2) fun y1 => bnd (m_strings_IndexByte (⟨#[48, 49, 50, 51, 52, 53, 54, 55, 56, 57, 32, 45, 46]⟩) y1) fun r1 => bnd (eltS f_p0.Value (IntKind.wrap .i64 (s1.2 + 1))) fun y2 => bnd (m_strings_IndexByte (⟨#[48, 49, 50, 51, 52, 53, 54, 55, 56, 57, 32, 45, 46]⟩) y2) fun r2 => bnd (app 1 s1.1 [IntKind.wrap .u8 (iOr .i64 (iShl .i64 r1 4) r2)]) fun l1 => some (.next (l1, IntKind.wrap .i64 (s1.2 + 2)))) else (some (.done s1.1))) ([], 0)) fun o1 => some o1) else (bif (f_p0.Kind == 2) then (bnd (m_fields_pack f_p0.Value) fun r3 => some r3) else (bnd (s2bM f_p0.Value) fun l2 => some l2))

theorem c_fields_data {f_p0 : T_Field} {r : (List Int)} (h : m_fields_data f_p0 = some r) :
  Fun Tryd.prog 91 [.agg #[.int .i64 f_p0.Kind, .string f_p0.Value]] [] (fun v_ F_ => ∃ (A1 : Option Addr) (c1 : Nat), v_ = .slice A1 r.length c1 ∧ F_ = [.res (OwnL eu8 5 A1 c1 r)]) := by
 unfold m_fields_data at h
 refine Fun.intro Tryd.func91 rfl rfl rfl fun w R => ?_
 refine St.seq ?_
 refine St.region ?_
 refine St.box rfl rfl fun g1 => ?_
 refine St.p rfl rfl ?_
 refine St.done ?_
 refine St.thenN ?_
 refine St.prune (Γ' := [(1, _)]) ⟨rfl, trivial⟩ (.k .z) ?_
 refine St.seq ?_
 refine St.seq ?_
 refine St.region ?_
 refine St.p rfl rfl ?_
 refine St.loadB 0 rfl rfl (.head _) rfl rfl ?_
 refine St.done ?_
 refine St.thenN ?_
 refine St.prune (Γ' := [(1, _), (8, _)]) ⟨rfl, rfl, trivial⟩ (.k .z) ?_
 refine St.block ?_
 refine St.seq ?_
 refine St.region ?_
 refine St.p rfl rfl ?_
 refine St.p rfl rfl ?_
 refine St.done ?_
 refine St.thenN ?_
 refine St.prune (Γ' := [(1, _), (8, _), (9, _)]) ⟨rfl, rfl, rfl, trivial⟩ (.k .z) ?_
 refine St.cond _ rfl (fun hb1 => ?_) (fun hb1 => ?_)
 ·replace h := bif_t hb1 h
  refine St.seq ?_
  refine St.region ?_
  refine St.p rfl rfl ?_
  refine St.done ?_
  refine St.thenN ?_
  refine St.prune (Γ' := [(1, _), (3, _)]) ⟨rfl, rfl, trivial⟩ (.k .z) ?_
  refine St.seq ?_
  refine St.seq ?_
  refine St.region ?_
  refine St.p rfl rfl ?_
  refine St.done ?_
  refine St.thenN ?_
  refine St.asrt (fun _ w => w.nilL eu8 5) ?_
  obtain ⟨o1, hl1, h⟩ := bnd_e h
  refine St.cutE (fun (e2 : Option Addr × Nat) => [(3, .slice e2.1 o1.length e2.2)]) (fun e2 => .res (OwnL eu8 5 e2.1 e2.2 o1) :: R) ?_ ?_
  ·refine St.block ?_
   refine St.loop hl1 (fun (s1 : List Int × Int) (e1 : Option Addr × Nat) => [(1, .pointer (some ⟨g1, 0, none⟩)), (3, .slice e1.1 s1.1.length e1.2), (4, .int .i64 s1.2)]) (fun s1 e1 => .res (OwnL eu8 5 e1.1 e1.2 s1.1) :: .res (Box g1 60 [.int .i64 f_p0.Kind, .string f_p0.Value]) :: R) (fun _ _ => True) (none, 0) trivial ⟨rfl, rfl, rfl, trivial⟩ (fun _ w => ((.k (.k .z)) : Keep _ _).sat w) ?_
   rintro s1 ⟨A1, c1⟩ - hit1
   obtain ⟨st1, hm1, hd1⟩ := iter_e hit1
   have h1 := hm1
   refine St.seq ?_
   refine St.seq ?_
   refine St.region ?_
   refine St.p rfl rfl ?_
   refine St.p rfl rfl ?_
   refine St.loadB 1 rfl rfl (.tail _ (.head _)) rfl rfl ?_
   refine St.p rfl rfl ?_
   refine St.p rfl rfl ?_
   refine St.done ?_
   refine St.thenN ?_
   refine St.prune (Γ' := [(1, _), (3, _), (4, _), (15, _)]) ⟨rfl, rfl, rfl, rfl, trivial⟩ (.k (.k .z)) ?_
   refine St.cond _ rfl (fun hb2 => ?_) (fun hb2 => ?_)
   ·replace h1 := bif_t hb2 h1
    refine St.skip ?_
    refine St.thenN ?_
    refine St.prune (Γ' := [(1, _), (3, _), (4, _)]) ⟨rfl, rfl, rfl, trivial⟩ (.k (.k .z)) ?_
    refine St.seq ?_
    refine St.block ?_
    refine St.seq ?_
    refine St.regionF mixed (by kernel_rfl) ?_
    refine St.p rfl rfl ?_
    refine St.loadB 1 rfl rfl (.tail _ (.head _)) rfl rfl ?_
    refine St.p rfl rfl ?_
    obtain ⟨y1, hy1, h1⟩ := bnd_e h1
    refine St.eltS rfl rfl rfl rfl rfl hy1 ?_
    obtain ⟨r1, hr1, h1⟩ := bnd_e h1
    refine St.callV (c_strings_IndexByte hr1) ent98 rfl rfl rfl rfl trivial ?_
    refine St.p rfl rfl ?_
    refine St.loadB 1 rfl rfl (.tail _ (.head _)) rfl rfl ?_
    refine St.p rfl rfl ?_
    refine St.p rfl rfl ?_
    obtain ⟨y2, hy2, h1⟩ := bnd_e h1
    refine St.eltS rfl rfl rfl rfl rfl hy2 ?_
    obtain ⟨r2, hr2, h1⟩ := bnd_e h1
    refine St.callV (c_strings_IndexByte hr2) ent98 rfl rfl rfl rfl trivial ?_
    refine St.p rfl rfl ?_
    refine St.p rfl rfl ?_
    refine St.doneQ ?_
    refine St.thenN ?_
    refine St.prune (Γ' := [(1, _), (3, _), (4, _), (5, _), (6, _)]) ⟨rfl, rfl, rfl, rfl, rfl, trivial⟩ (.k (.k .z)) ?_
    refine St.region ?_
    iterate 6 refine St.p rfl rfl ?_
    refine St.buildSlice rfl rfl rfl rfl rfl rfl rfl rfl fun g2 => ?_
    obtain ⟨l1, hl1, h1⟩ := bnd_e h1
    refine St.app (E := eu8) hl1 rfl rfl rfl (.s .z) rfl rfl rfl rfl rfl rfl rfl rfl (srcB (.head _) rfl rfl) rfl rfl fun A3 c3 => ?_
    refine St.p rfl rfl ?_
    refine St.done ?_
    refine St.blkN ?_
    refine St.thenN ?_
    refine St.prune (Γ' := [(1, _), (3, _), (4, _)]) ⟨rfl, rfl, rfl, trivial⟩ (.k (.d (.k .z))) ?_
    refine St.region ?_
    iterate 3 refine St.p rfl rfl ?_
    refine St.done ?_
    injection h1 with h1
    subst h1
    refine St.thenN ?_
    exact St.again _ (A3, c3) hm1 trivial ⟨rfl, rfl, rfl, trivial⟩ (fun _ w => ((.k (.k .z)) : Keep _ _).sat w)
   ·replace h1 := bif_f hb2 h1
    refine St.exit ?_
    repeat (first | refine St.thenX ?_ | refine St.blkMiss rfl ?_)
    refine St.blkHit ?_
    injection h1 with h1
    subst h1
    have ho := hd1 _ rfl
    subst ho
    refine St.thenN ?_
    exact St.hereE (A1, c1) ⟨rfl, trivial⟩ (fun _ w => ((.k (.d .z)) : Keep _ _).sat w)
  ·rintro ⟨A2, c2⟩
   refine St.seq ?_
   refine St.region ?_
   refine St.p rfl rfl ?_
   refine St.p rfl rfl ?_
   refine St.done ?_
   refine St.thenN ?_
   refine St.prune (Γ' := [(2, _)]) ⟨rfl, trivial⟩ (.k .z) ?_
   refine St.ret ?_
   repeat (first | refine St.thenR ?_ | refine St.blkR ?_)
   injection h with h
   subst h
   exact St.finR Tryd.results91 (.tmp rfl .nil) rfl [.res (OwnL eu8 5 A2 c2 o1)] ⟨A2, c2, rfl, rfl⟩ (fun _ w => ((.k .z) : Keep _ _).sat w)
 ·replace h := bif_f hb1 h
  refine St.seq ?_
  refine St.region ?_
  refine St.p rfl rfl ?_
  refine St.p rfl rfl ?_
  refine St.done ?_
  refine St.thenN ?_
  refine St.prune (Γ' := [(1, _), (38, _)]) ⟨rfl, rfl, trivial⟩ (.k .z) ?_
  refine St.cond _ rfl (fun hb3 => ?_) (fun hb3 => ?_)
  ·replace h := bif_t hb3 h
   refine St.seq ?_
   refine St.region ?_
   refine St.p rfl rfl ?_
   refine St.loadB 1 rfl rfl (.head _) rfl rfl ?_
   obtain ⟨r3, hr3, h⟩ := bnd_e h
   refine St.call (c_fields_pack hr3) ent99 rfl rfl rfl (fun _ w => w) ?_
   rintro _ _ ⟨A4, c4, rfl, rfl⟩
   refine St.asrt (F' := .res (OwnL eu8 5 A4 c4 r3) :: .res (Box g1 60 [.int .i64 f_p0.Kind, .string f_p0.Value]) :: R) (fun _ w => w) ?_
   refine St.p rfl rfl ?_
   refine St.done ?_
   refine St.thenN ?_
   refine St.prune (Γ' := [(2, _)]) ⟨rfl, trivial⟩ (.k (.d .z)) ?_
   refine St.ret ?_
   repeat (first | refine St.thenR ?_ | refine St.blkR ?_)
   injection h with h
   subst h
   exact St.finR Tryd.results91 (.tmp rfl .nil) rfl [.res (OwnL eu8 5 A4 c4 r3)] ⟨A4, c4, rfl, rfl⟩ (fun _ w => ((.k .z) : Keep _ _).sat w)
  ·replace h := bif_f hb3 h
   refine St.skip ?_
   refine St.blkN ?_
   refine St.thenN ?_
   refine St.prune (Γ' := [(1, _)]) ⟨rfl, trivial⟩ (.k .z) ?_
   refine St.seq ?_
   refine St.region ?_
   refine St.p rfl rfl ?_
   refine St.loadB 1 rfl rfl (.head _) rfl rfl ?_
   obtain ⟨l2, hl2, h⟩ := bnd_e h
   refine St.s2L rfl rfl hl2 rfl rfl rfl rfl rfl rfl fun A5 c5 => ?_
   refine St.p rfl rfl ?_
   refine St.done ?_
   refine St.thenN ?_
   refine St.prune (Γ' := [(2, _)]) ⟨rfl, trivial⟩ (.k (.d .z)) ?_
   refine St.ret ?_
   repeat (first | refine St.thenR ?_ | refine St.blkR ?_)
   injection h with h
   subst h
   exact St.finR Tryd.results91 (.tmp rfl .nil) rfl [.res (OwnL eu8 5 A5 c5 l2)] ⟨A5, c5, rfl, rfl⟩ (fun _ w => ((.k .z) : Keep _ _).sat w)

theorem ent80 : Ent Tryd.prog 80 := ⟨_, Tryd.func80, by kernel_rfl, by kernel_rfl⟩

noncomputable def m_fields_encode (f_p0 : T_Field) : Option (List Int) :=
 bnd (m_fields_data f_p0) fun r1 => bnd (app 1 ([IntKind.wrap .u8 (iOr .i64 (iShl .i64 f_p0.Kind 6) (r1.length : Int))]) r1) fun l1 => some l1

theorem c_fields_encode {f_p0 : T_Field} {r : (List Int)} (h : m_fields_encode f_p0 = some r) :
  Fun Tryd.prog 80 [.agg #[.int .i64 f_p0.Kind, .string f_p0.Value]] [] (fun v_ F_ => ∃ (A1 : Option Addr) (c1 : Nat), v_ = .slice A1 r.length c1 ∧ F_ = [.res (OwnL eu8 5 A1 c1 r)]) := by
 unfold m_fields_encode at h
 refine Fun.intro Tryd.func80 rfl rfl rfl fun w R => ?_
 refine St.seq ?_
 refine St.region ?_
 refine St.box rfl rfl fun g1 => ?_
 refine St.p rfl rfl ?_
 refine St.done ?_
 refine St.thenN ?_
 refine St.prune (Γ' := [(1, _)]) ⟨rfl, trivial⟩ (.k .z) ?_
 refine St.seq ?_
 refine St.region ?_
 refine St.loadB 0 rfl rfl (.head _) rfl rfl ?_
 obtain ⟨r1, hr1, h⟩ := bnd_e h
 refine St.call (c_fields_data hr1) ent91 rfl rfl rfl (fun _ w => w) ?_
 rintro _ _ ⟨A1, c1, rfl, rfl⟩
 refine St.asrt (F' := .res (OwnL eu8 5 A1 c1 r1) :: .res (Box g1 60 [.int .i64 f_p0.Kind, .string f_p0.Value]) :: R) (fun _ w => w) ?_
 refine St.p rfl rfl ?_
 refine St.done ?_
 refine St.thenN ?_
 refine St.prune (Γ' := [(1, _), (3, _)]) ⟨rfl, rfl, trivial⟩ (.k (.k .z)) ?_
 refine St.seq ?_
 refine St.region ?_
 refine St.p rfl rfl ?_
 refine St.loadB 0 rfl rfl (.tail _ (.head _)) rfl rfl ?_
 iterate 5 refine St.p rfl rfl ?_
 refine St.buildSlice rfl rfl rfl rfl rfl rfl rfl rfl fun g2 => ?_
 refine St.p rfl rfl ?_
 refine St.asrt (fun _ w => (w.front (.s .z)).meltL) ?_
 refine St.asrt (fun _ w => (w.front (.s .z)).litL (E := eu8) (e := 5) [IntKind.wrap .u8 (iOr .i64 (iShl .i64 f_p0.Kind 6) (r1.length : Int))] rfl rfl) ?_
 obtain ⟨l1, hl1, h⟩ := bnd_e h
 refine St.app (E := eu8) hl1 rfl rfl rfl .z rfl rfl rfl rfl rfl rfl rfl rfl (srcL (.tail _ (.head _))) rfl rfl fun A2 c2 => ?_
 refine St.p rfl rfl ?_
 refine St.done ?_
 refine St.thenN ?_
 refine St.prune (Γ' := [(2, _)]) ⟨rfl, trivial⟩ (.k (.d (.d .z))) ?_
 refine St.ret ?_
 repeat (first | refine St.thenR ?_ | refine St.blkR ?_)
 injection h with h
 subst h
 exact St.finR Tryd.results80 (.tmp rfl .nil) rfl [.res (OwnL eu8 5 A2 c2 l1)] ⟨A2, c2, rfl, rfl⟩ (fun _ w => ((.k .z) : Keep _ _).sat w)

theorem ent66 : Ent Tryd.prog 66 := ⟨_, Tryd.func66, by kernel_rfl, by kernel_rfl⟩

noncomputable def m_fields_EncodeList (l_p0 : (List T_Field)) : Option ((List Int) × Int) :=
 bif decide ((l_p0.length : Int) > 16) then (some ([], 3)) else (bnd (m_slices_ContainsFunc__api_Field_api_Field_f79 l_p0) fun r1 => bif r1 then (some ([], 1)) else (bnd (loopM (τ := List Int) (fun (s1 : List Int × Int) => bif decide (s1.2 < (l_p0.length : Int)) then (bnd (elt l_p0 s1.2) fun x1 => bnd (m_fields_encode x1) fun r2 => bnd (app 1 s1.1 r2) fun l1 => some (.next (l1, IntKind.wrap .i64 (s1.2 + 1)))) else (some (.done s1.1))) ([], 0)) fun o1 => bnd (app 1 o1 [193]) fun l2 => some (l2, 0)))

theorem c_fields_EncodeList {l_p0 : (List T_Field)} {A1 : Option Addr} {c1 : Nat} {r : ((List Int) × Int)} (h : m_fields_EncodeList l_p0 = some r) :
  Fun Tryd.prog 66 [.slice A1 l_p0.length c1] [.ro (SlL e_Field A1 c1 l_p0)] (fun v_ F_ => ∃ (A1 : Option Addr) (c1 : Nat), v_ = .tuple #[.slice A1 r.1.length c1, .int .i64 r.2] ∧ F_ = [.res (OwnL eu8 5 A1 c1 r.1)]) := by
 unfold m_fields_EncodeList at h
 refine Fun.intro Tryd.func66 rfl rfl rfl fun w R => ?_
 refine St.seq ?_
 refine St.region ?_
 refine St.p rfl rfl ?_
 refine St.p rfl rfl ?_
 refine St.done ?_
 refine St.thenN ?_
 refine St.prune (Γ' := [(0, _)]) ⟨rfl, trivial⟩ (.k .z) ?_
 refine St.seq ?_
 refine St.block ?_
 refine St.seq ?_
 refine St.region ?_
 iterate 4 refine St.p rfl rfl ?_
 refine St.done ?_
 refine St.thenN ?_
 refine St.prune (Γ' := [(0, _), (7, _)]) ⟨rfl, rfl, trivial⟩ (.k .z) ?_
 refine St.cond _ rfl (fun hb1 => ?_) (fun hb1 => ?_)
 ·replace h := bif_t hb1 h
  refine St.seq ?_
  refine St.region ?_
  refine St.p rfl rfl ?_
  refine St.p rfl rfl ?_
  refine St.done ?_
  refine St.thenN ?_
  refine St.prune (Γ' := [(2, _), (3, _)]) ⟨rfl, rfl, trivial⟩ (.d .z) ?_
  refine St.ret ?_
  repeat (first | refine St.thenR ?_ | refine St.blkR ?_)
  refine St.asrt (fun _ w => w.nilL eu8 5) ?_
  injection h with h
  subst h
  exact St.finR Tryd.results66 (.tmp rfl (.tmp rfl .nil)) rfl [.res (OwnL eu8 5 none 0 ([] : List Int))] ⟨none, 0, rfl, rfl⟩ (fun _ w => ((.k .z) : Keep _ _).sat w)
 ·replace h := bif_f hb1 h
  refine St.seq ?_
  refine St.region ?_
  refine St.p rfl rfl ?_
  obtain ⟨r1, hr1, h⟩ := bnd_e h
  refine St.callV (c_slices_ContainsFunc__api_Field_api_Field_f79 hr1) ent53 rfl rfl rfl rfl ⟨(.head _), trivial⟩ ?_
  refine St.p rfl rfl ?_
  refine St.done ?_
  refine St.thenN ?_
  refine St.prune (Γ' := [(0, _), (11, _)]) ⟨rfl, rfl, trivial⟩ (.k .z) ?_
  refine St.cond _ rfl (fun hb2 => ?_) (fun hb2 => ?_)
  ·replace h := bif_t hb2 h
   refine St.seq ?_
   refine St.region ?_
   refine St.p rfl rfl ?_
   refine St.p rfl rfl ?_
   refine St.done ?_
   refine St.thenN ?_
   refine St.prune (Γ' := [(2, _), (3, _)]) ⟨rfl, rfl, trivial⟩ (.d .z) ?_
   refine St.ret ?_
   repeat (first | refine St.thenR ?_ | refine St.blkR ?_)
   refine St.asrt (fun _ w => w.nilL eu8 5) ?_
   injection h with h
   subst h
   exact St.finR Tryd.results66 (.tmp rfl (.tmp rfl .nil)) rfl [.res (OwnL eu8 5 none 0 ([] : List Int))] ⟨none, 0, rfl, rfl⟩ (fun _ w => ((.k .z) : Keep _ _).sat w)
  ·replace h := bif_f hb2 h
   refine St.skip ?_
   refine St.blkN ?_
   refine St.thenN ?_
   refine St.prune (Γ' := [(0, _)]) ⟨rfl, trivial⟩ (.k .z) ?_
   refine St.seq ?_
   refine St.region ?_
   refine St.p rfl rfl ?_
   refine St.done ?_
   refine St.thenN ?_
   refine St.seq ?_
   refine St.seq ?_
   refine St.region ?_
   iterate 3 refine St.p rfl rfl ?_
   refine St.done ?_
   refine St.thenN ?_
   refine St.prune (Γ' := [(4, _), (14, _), (15, _), (16, _)]) ⟨rfl, rfl, rfl, rfl, trivial⟩ (.k .z) ?_
   refine St.asrt (fun _ w => w.nilL eu8 5) ?_
   obtain ⟨o1, hl1, h⟩ := bnd_e h
   refine St.cutE (fun (e2 : Option Addr × Nat) => [(4, .slice e2.1 o1.length e2.2)]) (fun e2 => .res (OwnL eu8 5 e2.1 e2.2 o1) :: R) ?_ ?_
   ·refine St.block ?_
    refine St.loop hl1 (fun (s1 : List Int × Int) (e1 : Option Addr × Nat) => [(4, .slice e1.1 s1.1.length e1.2), (14, .slice A1 l_p0.length c1), (15, .int .i64 (l_p0.length : Int)), (16, .int .i64 s1.2)]) (fun s1 e1 => .res (OwnL eu8 5 e1.1 e1.2 s1.1) :: .ro (SlL e_Field A1 c1 l_p0) :: R) (fun _ _ => True) (none, 0) trivial ⟨rfl, rfl, rfl, rfl, trivial⟩ (fun _ w => ((.k (.k .z)) : Keep _ _).sat w) ?_
    rintro s1 ⟨A2, c2⟩ - hit1
    obtain ⟨st1, hm1, hd1⟩ := iter_e hit1
    have h1 := hm1
    refine St.seq ?_
    refine St.region ?_
    refine St.p rfl rfl ?_
    refine St.done ?_
    refine St.thenN ?_
    refine St.seq ?_
    refine St.cond _ rfl (fun hb3 => ?_) (fun hb3 => ?_)
    ·replace h1 := bif_t hb3 h1
     refine St.skip ?_
     refine St.thenN ?_
     refine St.prune (Γ' := [(4, _), (14, _), (15, _), (16, _)]) ⟨rfl, rfl, rfl, rfl, trivial⟩ (.k (.k .z)) ?_
     refine St.seq ?_
     refine St.block ?_
     refine St.seq ?_
     refine St.region ?_
     obtain ⟨x1, hx1, h1⟩ := bnd_e h1
     refine St.ixL hx1 rfl rfl rfl (.tail _ (.head _)) rfl rfl rfl rfl rfl fun b1 ob1 => ?_
     refine St.load ob1 0 rfl rfl (.head _) rfl rfl ?_
     refine St.alloc rfl rfl fun g1 => ?_
     refine St.store 0 rfl rfl rfl rfl rfl rfl .z rfl ?_
     refine St.done ?_
     refine St.thenN ?_
     refine St.prune (Γ' := [(4, _), (6, _), (14, _), (15, _), (16, _)]) ⟨rfl, rfl, rfl, rfl, rfl, trivial⟩ (.k (.d (.k (.k .z)))) ?_
     refine St.region ?_
     refine St.p rfl rfl ?_
     refine St.loadB 0 rfl rfl (.head _) rfl rfl ?_
     obtain ⟨r2, hr2, h1⟩ := bnd_e h1
     refine St.call (c_fields_encode hr2) ent80 rfl rfl rfl (fun _ w => w) ?_
     rintro _ _ ⟨A4, c4, rfl, rfl⟩
     refine St.asrt (F' := .res (OwnL eu8 5 A4 c4 r2) :: .res (Box g1 60 [.int .i64 x1.Kind, .string x1.Value]) :: .res (OwnL eu8 5 A2 c2 s1.1) :: .ro (SlL e_Field A1 c1 l_p0) :: R) (fun _ w => w) ?_
     refine St.asrt (fun _ w => (w.front .z).meltL) ?_
     obtain ⟨l1, hl1, h1⟩ := bnd_e h1
     refine St.app (E := eu8) hl1 rfl rfl rfl (.s (.s .z)) rfl rfl rfl rfl rfl rfl rfl rfl (srcL (.head _)) rfl rfl fun A5 c5 => ?_
     refine St.p rfl rfl ?_
     refine St.done ?_
     refine St.blkN ?_
     refine St.thenN ?_
     refine St.prune (Γ' := [(4, _), (14, _), (15, _), (16, _)]) ⟨rfl, rfl, rfl, rfl, trivial⟩ (.k (.d (.d (.k .z)))) ?_
     refine St.region ?_
     refine St.p rfl rfl ?_
     refine St.p rfl rfl ?_
     refine St.done ?_
     injection h1 with h1
     subst h1
     refine St.thenN ?_
     exact St.again _ (A5, c5) hm1 trivial ⟨rfl, rfl, rfl, rfl, trivial⟩ (fun _ w => ((.k (.k .z)) : Keep _ _).sat w)
    ·replace h1 := bif_f hb3 h1
     refine St.exit ?_
     repeat (first | refine St.thenX ?_ | refine St.blkMiss rfl ?_)
     refine St.blkHit ?_
     injection h1 with h1
     subst h1
     have ho := hd1 _ rfl
     subst ho
     refine St.thenN ?_
     exact St.hereE (A2, c2) ⟨rfl, trivial⟩ (fun _ w => ((.k (.d .z)) : Keep _ _).sat w)
   ·rintro ⟨A3, c3⟩
    refine St.seq ?_
    refine St.region ?_
    refine St.p rfl rfl ?_
    refine St.buildSlice rfl rfl rfl rfl rfl rfl rfl rfl fun g2 => ?_
    obtain ⟨l2, hl2, h⟩ := bnd_e h
    refine St.app (E := eu8) hl2 rfl rfl rfl (.s .z) rfl rfl rfl rfl rfl rfl rfl rfl (srcB (.head _) rfl rfl) rfl rfl fun A6 c6 => ?_
    refine St.p rfl rfl ?_
    refine St.p rfl rfl ?_
    refine St.done ?_
    refine St.thenN ?_
    refine St.prune (Γ' := [(2, _), (3, _)]) ⟨rfl, rfl, trivial⟩ (.k (.d .z)) ?_
    refine St.ret ?_
    repeat (first | refine St.thenR ?_ | refine St.blkR ?_)
    injection h with h
    subst h
    exact St.finR Tryd.results66 (.tmp rfl (.tmp rfl .nil)) rfl [.res (OwnL eu8 5 A6 c6 l2)] ⟨A6, c6, rfl, rfl⟩ (fun _ w => ((.k .z) : Keep _ _).sat w)

theorem ent41 : Ent Tryd.prog 41 := ⟨_, Tryd.func41, by kernel_rfl, by kernel_rfl⟩

noncomputable def m_slices_Clone__byte_byte (s_p0 : (List Int)) : Option (List Int) :=
 bnd (app 1 ([]) s_p0) fun l1 => some l1

theorem c_slices_Clone__byte_byte {s_p0 : (List Int)} {A1 : Option Addr} {c1 : Nat} {r : (List Int)} (h : m_slices_Clone__byte_byte s_p0 = some r) :
  Fun Tryd.prog 41 [.slice A1 s_p0.length c1] [.ro (SlL eu8 A1 c1 s_p0)] (fun v_ F_ => ∃ (A1 : Option Addr) (c1 : Nat), v_ = .slice A1 r.length c1 ∧ F_ = [.res (OwnL eu8 5 A1 c1 r)]) := by
 unfold m_slices_Clone__byte_byte at h
 refine Fun.intro Tryd.func41 rfl rfl rfl fun w R => ?_
 rcases A1 with _ | ad
 ·refine St.fact (φ := s_p0 = []) (fun w hf => (hf.ro (r := SlL eu8 none c1 s_p0) (.head _)).2.2.1 rfl) fun hs => ?_
  subst hs
  have h : (some ([]) : Option (List Int)) = some r := by simpa [app, bnd] using h
  refine St.seq ?_
  refine St.region ?_
  refine St.p rfl rfl ?_
  refine St.done ?_
  refine St.thenN ?_
  refine St.prune (Γ' := [(0, _)]) ⟨rfl, trivial⟩ (.k .z) ?_
  refine St.seq ?_
  refine St.seq ?_
  refine St.region ?_
  refine St.p rfl rfl ?_
  refine St.p rfl rfl ?_
  refine St.done ?_
  refine St.thenN ?_
  refine St.prune (Γ' := [(0, _), (4, _)]) ⟨rfl, rfl, trivial⟩ (.k .z) ?_
  refine St.condT rfl ?_
  refine St.seq ?_
  refine St.region ?_
  refine St.p rfl rfl ?_
  refine St.done ?_
  refine St.thenN ?_
  refine St.prune (Γ' := [(2, _)]) ⟨rfl, trivial⟩ (.d .z) ?_
  refine St.ret ?_
  repeat (first | refine St.thenR ?_ | refine St.blkR ?_)
  refine St.asrt (fun _ w => w.nilL eu8 5) ?_
  injection h with h
  subst h
  exact St.finR Tryd.results41 (.tmp rfl .nil) rfl [.res (OwnL eu8 5 none 0 ([] : List Int))] ⟨none, 0, rfl, rfl⟩ (fun _ w => ((.k .z) : Keep _ _).sat w)
 ·refine St.seq ?_
  refine St.region ?_
  refine St.p rfl rfl ?_
  refine St.done ?_
  refine St.thenN ?_
  refine St.prune (Γ' := [(0, _)]) ⟨rfl, trivial⟩ (.k .z) ?_
  refine St.seq ?_
  refine St.seq ?_
  refine St.region ?_
  refine St.p rfl rfl ?_
  refine St.p rfl rfl ?_
  refine St.done ?_
  refine St.thenN ?_
  refine St.prune (Γ' := [(0, _), (4, _)]) ⟨rfl, rfl, trivial⟩ (.k .z) ?_
  refine St.condF rfl ?_
  refine St.skip ?_
  refine St.thenN ?_
  refine St.prune (Γ' := [(0, _)]) ⟨rfl, trivial⟩ (.k .z) ?_
  refine St.seq ?_
  refine St.region ?_
  refine St.buildSlice rfl rfl rfl rfl rfl rfl rfl rfl fun g1 => ?_
  refine St.p rfl rfl ?_
  refine St.asrt (fun _ w => (w.front .z).litL (E := eu8) (e := 5) [] rfl rfl) ?_
  obtain ⟨l1, hl1, h⟩ := bnd_e h
  refine St.app (E := eu8) hl1 rfl rfl rfl .z rfl rfl rfl rfl rfl rfl rfl rfl (srcL (.tail _ (.head _))) rfl rfl fun A2 c2 => ?_
  refine St.p rfl rfl ?_
  refine St.done ?_
  refine St.thenN ?_
  refine St.prune (Γ' := [(2, _)]) ⟨rfl, trivial⟩ (.k (.d .z)) ?_
  refine St.ret ?_
  repeat (first | refine St.thenR ?_ | refine St.blkR ?_)
  injection h with h
  subst h
  exact St.finR Tryd.results41 (.tmp rfl .nil) rfl [.res (OwnL eu8 5 A2 c2 l1)] ⟨A2, c2, rfl, rfl⟩ (fun _ w => ((.k .z) : Keep _ _).sat w)

theorem ent39 : Ent Tryd.prog 39 := ⟨_, Tryd.func39, by kernel_rfl, by kernel_rfl⟩

noncomputable def m_checksum_Sum8 (b_p0 : (List Int)) : Option Int :=
 bnd (loopM (τ := Int) (fun (s1 : Int × Int) => bif decide (s1.2 < (b_p0.length : Int)) then (bnd (elt b_p0 s1.2) fun x1 => some (.next (IntKind.wrap .u8 (s1.1 + x1), IntKind.wrap .i64 (s1.2 + 1)))) else (some (.done s1.1))) (0, 0)) fun o1 => some (IntKind.wrap .u8 (0 - o1))

theorem c_checksum_Sum8 {b_p0 : (List Int)} {A1 : Option Addr} {c1 : Nat} {r : Int} (h : m_checksum_Sum8 b_p0 = some r) :
  Fun Tryd.prog 39 [.slice A1 b_p0.length c1] [.ro (SlL eu8 A1 c1 b_p0)] (Val (.int .u8 r)) := by
 unfold m_checksum_Sum8 at h
 refine Fun.intro Tryd.func39 rfl rfl rfl fun w R => ?_
 refine St.seq ?_
 refine St.region ?_
 refine St.p rfl rfl ?_
 refine St.done ?_
 refine St.thenN ?_
 refine St.prune (Γ' := [(0, _)]) ⟨rfl, trivial⟩ (.k .z) ?_
 refine St.seq ?_
 refine St.region ?_
 refine St.p rfl rfl ?_
 refine St.done ?_
 refine St.thenN ?_
 refine St.seq ?_
 refine St.seq ?_
 refine St.region ?_
 iterate 3 refine St.p rfl rfl ?_
 refine St.done ?_
 refine St.thenN ?_
 refine St.prune (Γ' := [(3, _), (6, _), (7, _), (8, _)]) ⟨rfl, rfl, rfl, rfl, trivial⟩ (.k .z) ?_
 obtain ⟨o1, hl1, h⟩ := bnd_e h
 refine St.cutE (fun (e2 : Unit) => [(3, .int .u8 o1)]) (fun e2 => R) ?_ ?_
 ·refine St.block ?_
  refine St.loop hl1 (fun (s1 : Int × Int) (e1 : Unit) => [(3, .int .u8 s1.1), (6, .slice A1 b_p0.length c1), (7, .int .i64 (b_p0.length : Int)), (8, .int .i64 s1.2)]) (fun s1 e1 => .ro (SlL eu8 A1 c1 b_p0) :: R) (fun _ _ => True) () trivial ⟨rfl, rfl, rfl, rfl, trivial⟩ (fun _ w => ((.k .z) : Keep _ _).sat w) ?_
  rintro s1 e1 - hit1
  obtain ⟨st1, hm1, hd1⟩ := iter_e hit1
  have h1 := hm1
  refine St.seq ?_
  refine St.region ?_
  refine St.p rfl rfl ?_
  refine St.done ?_
  refine St.thenN ?_
  refine St.seq ?_
  refine St.cond _ rfl (fun hb1 => ?_) (fun hb1 => ?_)
  ·replace h1 := bif_t hb1 h1
   refine St.skip ?_
   refine St.thenN ?_
   refine St.prune (Γ' := [(3, _), (6, _), (7, _), (8, _)]) ⟨rfl, rfl, rfl, rfl, trivial⟩ (.k .z) ?_
   refine St.seq ?_
   refine St.block ?_
   refine St.seq ?_
   refine St.region ?_
   obtain ⟨x1, hx1, h1⟩ := bnd_e h1
   refine St.ixL hx1 rfl rfl rfl (.head _) rfl rfl rfl rfl rfl fun b1 ob1 => ?_
   refine St.load ob1 0 rfl rfl (.head _) rfl rfl ?_
   refine St.p rfl rfl ?_
   refine St.done ?_
   refine St.thenN ?_
   refine St.prune (Γ' := [(3, _), (5, _), (6, _), (7, _), (8, _)]) ⟨rfl, rfl, rfl, rfl, rfl, trivial⟩ (.d (.k .z)) ?_
   refine St.region ?_
   iterate 4 refine St.p rfl rfl ?_
   refine St.done ?_
   refine St.blkN ?_
   refine St.thenN ?_
   refine St.prune (Γ' := [(3, _), (6, _), (7, _), (8, _)]) ⟨rfl, rfl, rfl, rfl, trivial⟩ (.k .z) ?_
   refine St.region ?_
   refine St.p rfl rfl ?_
   refine St.p rfl rfl ?_
   refine St.done ?_
   injection h1 with h1
   subst h1
   refine St.thenN ?_
   exact St.again _ () hm1 trivial ⟨rfl, rfl, rfl, rfl, trivial⟩ (fun _ w => ((.k .z) : Keep _ _).sat w)
  ·replace h1 := bif_f hb1 h1
   refine St.exit ?_
   repeat (first | refine St.thenX ?_ | refine St.blkMiss rfl ?_)
   refine St.blkHit ?_
   injection h1 with h1
   subst h1
   have ho := hd1 _ rfl
   subst ho
   refine St.thenN ?_
   exact St.hereE () ⟨rfl, trivial⟩ (fun _ w => ((.d .z) : Keep _ _).sat w)
 ·rintro e2
  refine St.seq ?_
  refine St.region ?_
  iterate 3 refine St.p rfl rfl ?_
  refine St.done ?_
  refine St.thenN ?_
  refine St.prune (Γ' := [(2, _)]) ⟨rfl, trivial⟩ .z ?_
  refine St.ret ?_
  repeat (first | refine St.thenR ?_ | refine St.blkR ?_)
  injection h with h
  subst h
  exact St.finR Tryd.results39 (.tmp rfl .nil) rfl [] ⟨rfl, rfl⟩ (fun _ w => (.z : Keep _ _).sat w)

theorem ent50 : Ent Tryd.prog 50 := ⟨_, Tryd.func50, by kernel_rfl, by kernel_rfl⟩

noncomputable def m_checksum_Seal8 (b_p0 : (List Int)) : Option (List Int) :=
 bnd (m_slices_Clone__byte_byte b_p0) fun r1 => bnd (m_checksum_Sum8 b_p0) fun r2 => bnd (app 1 r1 [r2]) fun l1 => some l1

theorem c_checksum_Seal8 {b_p0 : (List Int)} {A1 : Option Addr} {c1 : Nat} {r : (List Int)} (h : m_checksum_Seal8 b_p0 = some r) :
  Fun Tryd.prog 50 [.slice A1 b_p0.length c1] [.ro (SlL eu8 A1 c1 b_p0)] (fun v_ F_ => ∃ (A1 : Option Addr) (c1 : Nat), v_ = .slice A1 r.length c1 ∧ F_ = [.res (OwnL eu8 5 A1 c1 r)]) := by
 unfold m_checksum_Seal8 at h
 refine Fun.intro Tryd.func50 rfl rfl rfl fun w R => ?_
 refine St.seq ?_
 refine St.region ?_
 refine St.p rfl rfl ?_
 refine St.done ?_
 refine St.thenN ?_
 refine St.prune (Γ' := [(0, _)]) ⟨rfl, trivial⟩ (.k .z) ?_
 refine St.seq ?_
 refine St.region ?_
 refine St.p rfl rfl ?_
 obtain ⟨r1, hr1, h⟩ := bnd_e h
 refine St.call (c_slices_Clone__byte_byte hr1) ent41 rfl rfl rfl (fun _ w => Sat.dup (G := [.ro (SlL eu8 A1 c1 b_p0)]) rfl ⟨(.head _), trivial⟩ w) ?_
 rintro _ _ ⟨A2, c2, rfl, rfl⟩
 refine St.asrt (F' := .res (OwnL eu8 5 A2 c2 r1) :: .ro (SlL eu8 A1 c1 b_p0) :: R) (fun _ w => w) ?_
 refine St.p rfl rfl ?_
 obtain ⟨r2, hr2, h⟩ := bnd_e h
 refine St.callV (c_checksum_Sum8 hr2) ent39 rfl rfl rfl rfl ⟨(.tail _ (.head _)), trivial⟩ ?_
 refine St.buildSlice rfl rfl rfl rfl rfl rfl rfl rfl fun g1 => ?_
 obtain ⟨l1, hl1, h⟩ := bnd_e h
 refine St.app (E := eu8) hl1 rfl rfl rfl (.s .z) rfl rfl rfl rfl rfl rfl rfl rfl (srcB (.head _) rfl rfl) rfl rfl fun A3 c3 => ?_
 refine St.p rfl rfl ?_
 refine St.done ?_
 refine St.thenN ?_
 refine St.prune (Γ' := [(2, _)]) ⟨rfl, trivial⟩ (.k (.d (.d .z))) ?_
 refine St.ret ?_
 repeat (first | refine St.thenR ?_ | refine St.blkR ?_)
 injection h with h
 subst h
 exact St.finR Tryd.results50 (.tmp rfl .nil) rfl [.res (OwnL eu8 5 A3 c3 l1)] ⟨A3, c3, rfl, rfl⟩ (fun _ w => ((.k .z) : Keep _ _).sat w)

theorem ent48 : Ent Tryd.prog 48 := ⟨_, Tryd.func48, by kernel_rfl, by kernel_rfl⟩

noncomputable def m_unitinfo_encodeArea (a_p0 : T_Area) (k_p1 : Int) : Option (List Int) :=
 bnd ((bif (k_p1 == 1) then (bnd (app 1 ([1, 0, a_p0.Code]) [IntKind.wrap .u8 a_p0.Minutes, IntKind.wrap .u8 (iShr .u32 a_p0.Minutes 8), IntKind.wrap .u8 (iShr .u32 a_p0.Minutes 16)]) fun l1 => some l1) else (some ([1, 0, a_p0.Code])) : Option (List Int))) fun o1 => bnd (m_fields_EncodeList a_p0.Fields) fun r1 => bnd (app 1 o1 r1.1) fun l2 => bnd (loopM (τ := List Int) (fun (s1 : List Int) => bif (((IntKind.wrap .i64 ((s1.length : Int) + 1)).tmod 8) != 0) then (bnd (app 1 s1 [0]) fun l3 => some (.next l3)) else (some (.done s1))) l2) fun o2 => bnd (elt o2 1) fun x1 => bnd (setE o2 1 (IntKind.wrap .u8 (IntKind.wrap .i64 ((IntKind.wrap .i64 ((o2.length : Int) + 1)).tdiv 8)))) fun l4 => bnd (m_checksum_Seal8 l4) fun r2 => some r2

theorem c_unitinfo_encodeArea {a_p0 : T_Area} {k_p1 : Int} {A1 : Option Addr} {c1 : Nat} {r : (List Int)} (h : m_unitinfo_encodeArea a_p0 k_p1 = some r) :
  Fun Tryd.prog 48 [.agg (bx_T_Area a_p0 A1 c1).toArray, .int .i64 k_p1] [.ro (SlL e_Field A1 c1 a_p0.Fields)] (fun v_ F_ => ∃ (A1 : Option Addr) (c1 : Nat), v_ = .slice A1 r.length c1 ∧ F_ = [.res (OwnL eu8 5 A1 c1 r)]) := by
 unfold m_unitinfo_encodeArea at h
 refine Fun.intro Tryd.func48 rfl rfl rfl fun w R => ?_
 refine St.seq ?_
 refine St.region ?_
 refine St.box rfl rfl fun g1 => ?_
 refine St.p rfl rfl ?_
 refine St.done ?_
 refine St.thenN ?_
 refine St.prune (Γ' := [(1, _), (2, _)]) ⟨rfl, rfl, trivial⟩ (.k (.k .z)) ?_
 refine St.seq ?_
 refine St.region ?_
 refine St.p rfl rfl ?_
 refine St.loadB 1 rfl rfl (.head _) rfl rfl ?_
 refine St.buildSlice rfl rfl rfl rfl rfl rfl rfl rfl fun g2 => ?_
 refine St.p rfl rfl ?_
 refine St.done ?_
 refine St.thenN ?_
 refine St.prune (Γ' := [(1, _), (2, _), (5, _)]) ⟨rfl, rfl, rfl, trivial⟩ (.k (.k (.k .z))) ?_
 refine St.seq ?_
 obtain ⟨o1, hj1, h⟩ := bnd_e h
 refine St.cutE (fun (e1 : Option Addr × Nat) => [(2, .pointer (some ⟨g1, 0, none⟩)), (5, .slice e1.1 o1.length e1.2)]) (fun e1 => .res (OwnL eu8 5 e1.1 e1.2 o1) :: .res (Box g1 25 (bx_T_Area a_p0 A1 c1)) :: .ro (SlL e_Field A1 c1 a_p0.Fields) :: R) ?_ ?_
 ·refine St.seq ?_
  refine St.region ?_
  refine St.p rfl rfl ?_
  refine St.p rfl rfl ?_
  refine St.done ?_
  refine St.thenN ?_
  refine St.prune (Γ' := [(2, _), (5, _), (12, _)]) ⟨rfl, rfl, rfl, trivial⟩ (.k (.k (.k .z))) ?_
  refine St.cond _ rfl (fun hb1 => ?_) (fun hb1 => ?_)
  ·replace hj1 := bif_t hb1 hj1
   refine St.region ?_
   refine St.p rfl rfl ?_
   refine St.p rfl rfl ?_
   refine St.loadB 2 rfl rfl (.tail _ (.head _)) rfl rfl ?_
   refine St.p rfl rfl ?_
   refine St.p rfl rfl ?_
   refine St.loadB 2 rfl rfl (.tail _ (.head _)) rfl rfl ?_
   iterate 3 refine St.p rfl rfl ?_
   refine St.loadB 2 rfl rfl (.tail _ (.head _)) rfl rfl ?_
   refine St.p rfl rfl ?_
   refine St.p rfl rfl ?_
   refine St.buildSlice rfl rfl rfl rfl rfl rfl rfl rfl fun g3 => ?_
   refine St.asrt (fun _ w => (w.front (.s .z)).litL (E := eu8) (e := 5) [1, 0, a_p0.Code] rfl rfl) ?_
   obtain ⟨l1, hl1, hj1⟩ := bnd_e hj1
   refine St.app (E := eu8) hl1 rfl rfl rfl .z rfl rfl rfl rfl rfl rfl rfl rfl (srcB (.tail _ (.head _)) rfl rfl) rfl rfl fun A3 c3 => ?_
   refine St.p rfl rfl ?_
   refine St.done ?_
   injection hj1 with hj1
   subst hj1
   refine St.thenN ?_
   exact St.hereE (A3, c3) ⟨rfl, rfl, trivial⟩ (fun _ w => ((.k (.d (.k (.k .z)))) : Keep _ _).sat w)
  ·replace hj1 := bif_f hb1 hj1
   refine St.skip ?_
   refine St.asrt (fun _ w => (w.front .z).litL (E := eu8) (e := 5) [1, 0, a_p0.Code] rfl rfl) ?_
   injection hj1 with hj1
   subst hj1
   refine St.thenN ?_
   exact St.hereE ((some ⟨g2, 0, none⟩), ([1, 0, a_p0.Code] : List Int).length) ⟨rfl, rfl, trivial⟩ (fun _ w => ((.k (.k (.k .z))) : Keep _ _).sat w)
 ·rintro ⟨A2, c2⟩
  refine St.seq ?_
  refine St.region ?_
  refine St.p rfl rfl ?_
  refine St.loadB 3 rfl rfl (.tail _ (.head _)) rfl rfl ?_
  obtain ⟨r1, hr1, h⟩ := bnd_e h
  refine St.call (c_fields_EncodeList hr1) ent66 rfl rfl rfl (fun _ w => Sat.dup (G := [.ro (SlL e_Field A1 c1 a_p0.Fields)]) rfl ⟨(.tail _ (.tail _ (.head _))), trivial⟩ w) ?_
  rintro _ _ ⟨A4, c4, rfl, rfl⟩
  refine St.asrt (F' := .res (OwnL eu8 5 A4 c4 r1.1) :: .res (OwnL eu8 5 A2 c2 o1) :: .res (Box g1 25 (bx_T_Area a_p0 A1 c1)) :: .ro (SlL e_Field A1 c1 a_p0.Fields) :: R) (fun _ w => w) ?_
  iterate 5 refine St.p rfl rfl ?_
  refine St.done ?_
  refine St.thenN ?_
  refine St.prune (Γ' := [(5, _), (6, _)]) ⟨rfl, rfl, trivial⟩ (.k (.k (.d (.d .z)))) ?_
  refine St.seq ?_
  refine St.region ?_
  refine St.p rfl rfl ?_
  refine St.p rfl rfl ?_
  refine St.asrt (fun _ w => (w.front .z).meltL) ?_
  obtain ⟨l2, hl2, h⟩ := bnd_e h
  refine St.app (E := eu8) hl2 rfl rfl rfl (.s .z) rfl rfl rfl rfl rfl rfl rfl rfl (srcL (.head _)) rfl rfl fun A5 c5 => ?_
  refine St.p rfl rfl ?_
  refine St.done ?_
  refine St.thenN ?_
  refine St.prune (Γ' := [(5, _)]) ⟨rfl, trivial⟩ (.k (.d .z)) ?_
  refine St.seq ?_
  obtain ⟨o2, hl1, h⟩ := bnd_e h
  refine St.cutE (fun (e3 : Option Addr × Nat) => [(5, .slice e3.1 o2.length e3.2)]) (fun e3 => .res (OwnL eu8 5 e3.1 e3.2 o2) :: R) ?_ ?_
  ·refine St.block ?_
   refine St.loop hl1 (fun (s1 : List Int) (e2 : Option Addr × Nat) => [(5, .slice e2.1 s1.length e2.2)]) (fun s1 e2 => .res (OwnL eu8 5 e2.1 e2.2 s1) :: R) (fun _ _ => True) (A5, c5) trivial ⟨rfl, trivial⟩ (fun _ w => ((.k .z) : Keep _ _).sat w) ?_
   rintro s1 ⟨A6, c6⟩ - hit1
   obtain ⟨st1, hm1, hd1⟩ := iter_e hit1
   have h1 := hm1
   refine St.seq ?_
   refine St.seq ?_
   refine St.region ?_
   iterate 5 refine St.p rfl rfl ?_
   refine St.done ?_
   refine St.thenN ?_
   refine St.prune (Γ' := [(5, _), (40, _)]) ⟨rfl, rfl, trivial⟩ (.k .z) ?_
   refine St.cond _ rfl (fun hb2 => ?_) (fun hb2 => ?_)
   ·replace h1 := bif_t hb2 h1
    refine St.skip ?_
    refine St.thenN ?_
    refine St.prune (Γ' := [(5, _)]) ⟨rfl, trivial⟩ (.k .z) ?_
    refine St.block ?_
    refine St.region ?_
    refine St.p rfl rfl ?_
    refine St.buildSlice rfl rfl rfl rfl rfl rfl rfl rfl fun g4 => ?_
    obtain ⟨l3, hl3, h1⟩ := bnd_e h1
    refine St.app (E := eu8) hl3 rfl rfl rfl (.s .z) rfl rfl rfl rfl rfl rfl rfl rfl (srcB (.head _) rfl rfl) rfl rfl fun A8 c8 => ?_
    refine St.p rfl rfl ?_
    refine St.done ?_
    refine St.blkN ?_
    injection h1 with h1
    subst h1
    refine St.thenN ?_
    exact St.again _ (A8, c8) hm1 trivial ⟨rfl, trivial⟩ (fun _ w => ((.k (.d .z)) : Keep _ _).sat w)
   ·replace h1 := bif_f hb2 h1
    refine St.exit ?_
    repeat (first | refine St.thenX ?_ | refine St.blkMiss rfl ?_)
    refine St.blkHit ?_
    injection h1 with h1
    subst h1
    have ho := hd1 _ rfl
    subst ho
    refine St.thenN ?_
    exact St.hereE (A6, c6) ⟨rfl, trivial⟩ (fun _ w => ((.k .z) : Keep _ _).sat w)
  ·rintro ⟨A7, c7⟩
   refine St.seq ?_
   refine St.region ?_
   iterate 6 refine St.p rfl rfl ?_
   obtain ⟨x1, hx1, h⟩ := bnd_e h
   refine St.ixO hx1 rfl rfl rfl (.head _) rfl rfl rfl rfl rfl fun g5 hA => ?_
   subst hA
   obtain ⟨l4, hl4, h⟩ := bnd_e h
   refine St.stO 0 hx1 hl4 rfl rfl .z rfl rfl rfl rfl rfl ?_
   refine St.slots (Γ' := [(5, .slice (some ⟨g5, 0, none⟩) l4.length c7), (44, .slice (some ⟨g5, 0, none⟩) l4.length c7), (45, .slice (some ⟨g5, 0, none⟩) l4.length c7), (46, _), (47, _), (48, _), (49, _), (50, _)]) ⟨sl_len hl4, sl_len hl4, sl_len hl4, rfl, rfl, rfl, rfl, rfl, trivial⟩ ?_
   refine St.done ?_
   refine St.thenN ?_
   refine St.prune (Γ' := [(5, _)]) ⟨rfl, trivial⟩ (.k .z) ?_
   refine St.seq ?_
   refine St.region ?_
   refine St.p rfl rfl ?_
   refine St.asrt (fun _ w => (w.front .z).meltL) ?_
   obtain ⟨r2, hr2, h⟩ := bnd_e h
   refine St.call (c_checksum_Seal8 hr2) ent50 rfl rfl rfl (fun _ w => Sat.dup (G := [.ro (SlL eu8 (some ⟨g5, 0, none⟩) c7 l4)]) rfl ⟨(.head _), trivial⟩ w) ?_
   rintro _ _ ⟨A9, c9, rfl, rfl⟩
   refine St.asrt (F' := .res (OwnL eu8 5 A9 c9 r2) :: .ro (SlL eu8 (some ⟨g5, 0, none⟩) c7 l4) :: R) (fun _ w => w) ?_
   refine St.p rfl rfl ?_
   refine St.done ?_
   refine St.thenN ?_
   refine St.prune (Γ' := [(4, _)]) ⟨rfl, trivial⟩ (.k (.d .z)) ?_
   refine St.ret ?_
   repeat (first | refine St.thenR ?_ | refine St.blkR ?_)
   injection h with h
   subst h
   exact St.finR Tryd.results48 (.tmp rfl .nil) rfl [.res (OwnL eu8 5 A9 c9 r2)] ⟨A9, c9, rfl, rfl⟩ (fun _ w => ((.k .z) : Keep _ _).sat w)

theorem ent38 : Ent Tryd.prog 38 := ⟨_, Tryd.func38, by kernel_rfl, by kernel_rfl⟩

noncomputable def m_unitinfo_validArea (a_p0 : T_Area) (k_p1 : Int) : Option Bool :=
 bif !a_p0.Present then (bnd ((bif (a_p0.Code == 0) then (bif (a_p0.Minutes == 0) then (some ((a_p0.Fields.length : Int) == 0)) else (some false)) else (some false) : Option Bool)) fun o1 => some o1) else (bnd ((bif (k_p1 == 1) then (bif decide (a_p0.Minutes ≥ 16777216) then (some true) else (bif (k_p1 != 1) then (bif (a_p0.Minutes != 0) then (some true) else (bnd (elt ([2, 5, 7] : List Int) k_p1) fun x1 => bif decide ((a_p0.Fields.length : Int) < x1) then (some true) else (some (decide ((a_p0.Fields.length : Int) > 16))))) else (bnd (elt ([2, 5, 7] : List Int) k_p1) fun x2 => bif decide ((a_p0.Fields.length : Int) < x2) then (some true) else (some (decide ((a_p0.Fields.length : Int) > 16)))))) else (bif (k_p1 != 1) then (bif (a_p0.Minutes != 0) then (some true) else (bnd (elt ([2, 5, 7] : List Int) k_p1) fun x3 => bif decide ((a_p0.Fields.length : Int) < x3) then (some true) else (some (decide ((a_p0.Fields.length : Int) > 16))))) else (bnd (elt ([2, 5, 7] : List Int) k_p1) fun x4 => bif decide ((a_p0.Fields.length : Int) < x4) then (some true) else (some (decide ((a_p0.Fields.length : Int) > 16))))) : Option Bool)) fun o2 => bif o2 then (some false) else (bnd ((bnd (m_slices_ContainsFunc__api_Field_api_Field_f54 a_p0.Fields) fun r1 => bif !r1 then (bnd (m_unitinfo_encodeArea a_p0 k_p1) fun r2 => some (decide ((r2.length : Int) ≤ 2040))) else (some false) : Option Bool)) fun o3 => some o3))

set_option maxHeartbeats 4000000 in
theorem c_unitinfo_validArea {a_p0 : T_Area} {k_p1 : Int} {A1 : Option Addr} {c1 : Nat} {r : Bool} (h : m_unitinfo_validArea a_p0 k_p1 = some r) :
  Fun Tryd.prog 38 [.agg (bx_T_Area a_p0 A1 c1).toArray, .int .i64 k_p1] [.ro (SlL e_Field A1 c1 a_p0.Fields), .ro (SlL ei64 (some ⟨0, 0, none⟩) 3 ([2, 5, 7] : List Int))] (Val (.bool r)) := by
 unfold m_unitinfo_validArea at h
 refine Fun.intro Tryd.func38 rfl rfl rfl fun w R => ?_
 refine St.seq ?_
 refine St.region ?_
 refine St.box rfl rfl fun g1 => ?_
 refine St.p rfl rfl ?_
 refine St.done ?_
 refine St.thenN ?_
 refine St.prune (Γ' := [(1, _), (2, _)]) ⟨rfl, rfl, trivial⟩ (.k (.k (.k .z))) ?_
 refine St.seq ?_
 refine St.seq ?_
 refine St.region ?_
 refine St.p rfl rfl ?_
 refine St.loadB 0 rfl rfl (.head _) rfl rfl ?_
 refine St.p rfl rfl ?_
 refine St.done ?_
 refine St.thenN ?_
 refine St.prune (Γ' := [(1, _), (2, _), (7, _)]) ⟨rfl, rfl, rfl, trivial⟩ (.k (.k (.k .z))) ?_
 refine St.cond _ rfl (fun hb1 => ?_) (fun hb1 => ?_)
 ·replace h := bif_t hb1 h
  refine St.seq ?_
  obtain ⟨o1, hj1, h⟩ := bnd_e h
  refine St.cutE (fun (e1 : Unit) => [(4, .bool o1)]) (fun e1 => .ro (SlL ei64 (some ⟨0, 0, none⟩) 3 ([2, 5, 7] : List Int)) :: R) ?_ ?_
  ·refine St.region ?_
   refine St.p rfl rfl ?_
   refine St.loadB 1 rfl rfl (.head _) rfl rfl ?_
   refine St.p rfl rfl ?_
   refine St.p rfl rfl ?_
   refine St.gSplit (dj := 11) _ rfl (fun hb2 => ?_) (fun hb2 => ?_)
   ·replace hj1 := bif_t hb2 hj1
    refine St.gOn (dj := 11) rfl rfl ?_
    refine St.p rfl rfl ?_
    refine St.gOn (dj := 11) rfl rfl ?_
    refine St.loadB 2 rfl rfl (.head _) rfl rfl ?_
    refine St.gOn (dj := 11) rfl rfl ?_
    iterate 3 refine St.p rfl rfl ?_
    refine St.gSplit (dj := 16) _ rfl (fun hb3 => ?_) (fun hb3 => ?_)
    ·replace hj1 := bif_t hb3 hj1
     refine St.gOn (dj := 16) rfl rfl ?_
     refine St.p rfl rfl ?_
     refine St.gOn (dj := 16) rfl rfl ?_
     refine St.loadB 3 rfl rfl (.head _) rfl rfl ?_
     refine St.gOn (dj := 16) rfl rfl ?_
     refine St.p rfl rfl ?_
     refine St.gOn (dj := 16) rfl rfl ?_
     iterate 3 refine St.p rfl rfl ?_
     refine St.done ?_
     injection hj1 with hj1
     subst hj1
     refine St.thenN ?_
     exact St.hereE () ⟨rfl, trivial⟩ (fun _ w => ((.d (.d (.k .z))) : Keep _ _).sat w)
    ·replace hj1 := bif_f hb3 hj1
     refine St.gOff (dj := 16) rfl rfl rfl rfl ?_
     refine St.gOff (dj := 16) rfl rfl rfl rfl ?_
     refine St.gOff (dj := 16) rfl rfl rfl rfl ?_
     refine St.gOff (dj := 16) rfl rfl rfl rfl ?_
     refine St.p rfl rfl ?_
     refine St.p rfl rfl ?_
     refine St.done ?_
     injection hj1 with hj1
     subst hj1
     refine St.thenN ?_
     exact St.hereE () ⟨rfl, trivial⟩ (fun _ w => ((.d (.d (.k .z))) : Keep _ _).sat w)
   ·replace hj1 := bif_f hb2 hj1
    refine St.gOff (dj := 11) rfl rfl rfl rfl ?_
    refine St.gOff (dj := 11) rfl rfl rfl rfl ?_
    refine St.gOff (dj := 11) rfl rfl rfl rfl ?_
    refine St.p rfl rfl ?_
    refine St.p rfl rfl ?_
    refine St.gOff (dj := 16) rfl rfl rfl rfl ?_
    refine St.gOff (dj := 16) rfl rfl rfl rfl ?_
    refine St.gOff (dj := 16) rfl rfl rfl rfl ?_
    refine St.gOff (dj := 16) rfl rfl rfl rfl ?_
    refine St.p rfl rfl ?_
    refine St.p rfl rfl ?_
    refine St.done ?_
    injection hj1 with hj1
    subst hj1
    refine St.thenN ?_
    exact St.hereE () ⟨rfl, trivial⟩ (fun _ w => ((.d (.d (.k .z))) : Keep _ _).sat w)
  ·rintro e1
   refine St.ret ?_
   repeat (first | refine St.thenR ?_ | refine St.blkR ?_)
   injection h with h
   subst h
   exact St.finR Tryd.results38 (.tmp rfl .nil) rfl [] ⟨rfl, rfl⟩ (fun _ w => ((.d .z) : Keep _ _).sat w)
 ·replace h := bif_f hb1 h
  refine St.skip ?_
  refine St.thenN ?_
  refine St.prune (Γ' := [(1, _), (2, _)]) ⟨rfl, rfl, trivial⟩ (.k (.k (.k .z))) ?_
  refine St.seq ?_
  refine St.seq ?_
  obtain ⟨o2, hj2, h⟩ := bnd_e h
  refine St.cutE (fun (e2 : Unit) => [(1, .int .i64 k_p1), (2, .pointer (some ⟨g1, 0, none⟩)), (52, .bool o2)]) (fun e2 => .res (Box g1 25 (bx_T_Area a_p0 A1 c1)) :: .ro (SlL e_Field A1 c1 a_p0.Fields) :: .ro (SlL ei64 (some ⟨0, 0, none⟩) 3 ([2, 5, 7] : List Int)) :: R) ?_ ?_
  ·refine St.regionF mixed (by kernel_rfl) ?_
   iterate 3 refine St.p rfl rfl ?_
   refine St.gSplit (dj := 24) _ rfl (fun hb4 => ?_) (fun hb4 => ?_)
   ·replace hj2 := bif_t hb4 hj2
    refine St.gOn (dj := 24) rfl rfl ?_
    refine St.p rfl rfl ?_
    refine St.gOn (dj := 24) rfl rfl ?_
    refine St.loadB 2 rfl rfl (.head _) rfl rfl ?_
    refine St.gOn (dj := 24) rfl rfl ?_
    iterate 3 refine St.p rfl rfl ?_
    refine St.gSplit (dj := 29) _ rfl (fun hb5 => ?_) (fun hb5 => ?_)
    ·replace hj2 := bif_t hb5 hj2
     refine St.gOff (dj := 29) rfl rfl rfl rfl ?_
     refine St.gOff (dj := 29) rfl rfl rfl rfl ?_
     refine St.gOff (dj := 29) rfl rfl rfl rfl ?_
     refine St.gOff (dj := 32) rfl rfl rfl rfl ?_
     refine St.gOff (dj := 32) rfl rfl rfl rfl ?_
     refine St.gOff (dj := 32) rfl rfl rfl rfl ?_
     refine St.gOff (dj := 29) rfl rfl rfl rfl ?_
     refine St.p rfl rfl ?_
     refine St.p rfl rfl ?_
     refine St.gOff (dj := 38) rfl rfl rfl rfl ?_
     refine St.gOff (dj := 38) rfl rfl rfl rfl ?_
     refine St.gOff (dj := 38) rfl rfl rfl rfl ?_
     refine St.gOff (dj := 38) rfl rfl rfl rfl ?_
     refine St.gOff (dj := 38) rfl rfl rfl rfl ?_
     refine St.gOff (dj := 38) rfl rfl rfl rfl ?_
     refine St.gOff (dj := 38) rfl rfl rfl rfl ?_
     refine St.p rfl rfl ?_
     refine St.p rfl rfl ?_
     refine St.gOff (dj := 47) rfl rfl rfl rfl ?_
     refine St.gOff (dj := 47) rfl rfl rfl rfl ?_
     refine St.gOff (dj := 47) rfl rfl rfl rfl ?_
     refine St.gOff (dj := 47) rfl rfl rfl rfl ?_
     refine St.p rfl rfl ?_
     refine St.doneQ ?_
     injection hj2 with hj2
     subst hj2
     refine St.thenN ?_
     exact St.hereE () ⟨rfl, rfl, rfl, trivial⟩ (fun _ w => ((.k (.k (.k .z))) : Keep _ _).sat w)
    ·replace hj2 := bif_f hb5 hj2
     refine St.gOn (dj := 29) rfl rfl ?_
     refine St.p rfl rfl ?_
     refine St.gOn (dj := 29) rfl rfl ?_
     refine St.p rfl rfl ?_
     refine St.gOn (dj := 29) rfl rfl ?_
     refine St.p rfl rfl ?_
     refine St.gSplit (dj := 32) _ rfl (fun hb6 => ?_) (fun hb6 => ?_)
     ·replace hj2 := bif_t hb6 hj2
      refine St.gOn (dj := 32) rfl rfl ?_
      refine St.p rfl rfl ?_
      refine St.gOn (dj := 32) rfl rfl ?_
      refine St.loadB 2 rfl rfl (.head _) rfl rfl ?_
      refine St.gOn (dj := 32) rfl rfl ?_
      refine St.p rfl rfl ?_
      refine St.gOn (dj := 29) rfl rfl ?_
      iterate 3 refine St.p rfl rfl ?_
      refine St.gSplit (dj := 38) _ rfl (fun hb7 => ?_) (fun hb7 => ?_)
      ·replace hj2 := bif_t hb7 hj2
       refine St.gOff (dj := 38) rfl rfl rfl rfl ?_
       refine St.gOff (dj := 38) rfl rfl rfl rfl ?_
       refine St.gOff (dj := 38) rfl rfl rfl rfl ?_
       refine St.gOff (dj := 38) rfl rfl rfl rfl ?_
       refine St.gOff (dj := 38) rfl rfl rfl rfl ?_
       refine St.gOff (dj := 38) rfl rfl rfl rfl ?_
       refine St.gOff (dj := 38) rfl rfl rfl rfl ?_
       refine St.p rfl rfl ?_
       refine St.p rfl rfl ?_
       refine St.gOff (dj := 47) rfl rfl rfl rfl ?_
       refine St.gOff (dj := 47) rfl rfl rfl rfl ?_
       refine St.gOff (dj := 47) rfl rfl rfl rfl ?_
       refine St.gOff (dj := 47) rfl rfl rfl rfl ?_
       refine St.p rfl rfl ?_
       refine St.doneQ ?_
       injection hj2 with hj2
       subst hj2
       refine St.thenN ?_
       exact St.hereE () ⟨rfl, rfl, rfl, trivial⟩ (fun _ w => ((.k (.k (.k .z))) : Keep _ _).sat w)
      ·replace hj2 := bif_f hb7 hj2
       refine St.gOn (dj := 38) rfl rfl ?_
       refine St.p rfl rfl ?_
       refine St.gOn (dj := 38) rfl rfl ?_
       refine St.loadB 3 rfl rfl (.head _) rfl rfl ?_
       refine St.gOn (dj := 38) rfl rfl ?_
       refine St.p rfl rfl ?_
       refine St.gOn (dj := 38) rfl rfl ?_
       refine St.p rfl rfl ?_
       refine St.gOn (dj := 38) rfl rfl ?_
       obtain ⟨x1, hx1, hj2⟩ := bnd_e hj2
       refine St.ixG (E := ei64) hx1 rfl rfl rfl (.tail _ (.tail _ (.head _))) rfl rfl rfl rfl rfl fun b1 ob1 => ?_
       refine St.gOn (dj := 38) rfl rfl ?_
       refine St.load ob1 0 rfl rfl (.head _) rfl rfl ?_
       refine St.gOn (dj := 38) rfl rfl ?_
       iterate 3 refine St.p rfl rfl ?_
       refine St.gSplit (dj := 47) _ rfl (fun hb8 => ?_) (fun hb8 => ?_)
       ·replace hj2 := bif_t hb8 hj2
        refine St.gOff (dj := 47) rfl rfl rfl rfl ?_
        refine St.gOff (dj := 47) rfl rfl rfl rfl ?_
        refine St.gOff (dj := 47) rfl rfl rfl rfl ?_
        refine St.gOff (dj := 47) rfl rfl rfl rfl ?_
        refine St.p rfl rfl ?_
        refine St.doneQ ?_
        injection hj2 with hj2
        subst hj2
        refine St.thenN ?_
        exact St.hereE () ⟨rfl, rfl, rfl, trivial⟩ (fun _ w => ((.d (.k (.k (.k .z)))) : Keep _ _).sat w)
       ·replace hj2 := bif_f hb8 hj2
        refine St.gOn (dj := 47) rfl rfl ?_
        refine St.p rfl rfl ?_
        refine St.gOn (dj := 47) rfl rfl ?_
        refine St.loadB 3 rfl rfl (.tail _ (.head _)) rfl rfl ?_
        refine St.gOn (dj := 47) rfl rfl ?_
        refine St.p rfl rfl ?_
        refine St.gOn (dj := 47) rfl rfl ?_
        refine St.p rfl rfl ?_
        refine St.p rfl rfl ?_
        refine St.doneQ ?_
        injection hj2 with hj2
        subst hj2
        refine St.thenN ?_
        exact St.hereE () ⟨rfl, rfl, rfl, trivial⟩ (fun _ w => ((.d (.k (.k (.k .z)))) : Keep _ _).sat w)
     ·replace hj2 := bif_f hb6 hj2
      refine St.gOff (dj := 32) rfl rfl rfl rfl ?_
      refine St.gOff (dj := 32) rfl rfl rfl rfl ?_
      refine St.gOff (dj := 32) rfl rfl rfl rfl ?_
      refine St.gOn (dj := 29) rfl rfl ?_
      iterate 3 refine St.p rfl rfl ?_
      refine St.gOn (dj := 38) rfl rfl ?_
      refine St.p rfl rfl ?_
      refine St.gOn (dj := 38) rfl rfl ?_
      refine St.loadB 3 rfl rfl (.head _) rfl rfl ?_
      refine St.gOn (dj := 38) rfl rfl ?_
      refine St.p rfl rfl ?_
      refine St.gOn (dj := 38) rfl rfl ?_
      refine St.p rfl rfl ?_
      refine St.gOn (dj := 38) rfl rfl ?_
      obtain ⟨x2, hx2, hj2⟩ := bnd_e hj2
      refine St.ixG (E := ei64) hx2 rfl rfl rfl (.tail _ (.tail _ (.head _))) rfl rfl rfl rfl rfl fun b2 ob2 => ?_
      refine St.gOn (dj := 38) rfl rfl ?_
      refine St.load ob2 0 rfl rfl (.head _) rfl rfl ?_
      refine St.gOn (dj := 38) rfl rfl ?_
      iterate 3 refine St.p rfl rfl ?_
      refine St.gSplit (dj := 47) _ rfl (fun hb9 => ?_) (fun hb9 => ?_)
      ·replace hj2 := bif_t hb9 hj2
       refine St.gOff (dj := 47) rfl rfl rfl rfl ?_
       refine St.gOff (dj := 47) rfl rfl rfl rfl ?_
       refine St.gOff (dj := 47) rfl rfl rfl rfl ?_
       refine St.gOff (dj := 47) rfl rfl rfl rfl ?_
       refine St.p rfl rfl ?_
       refine St.doneQ ?_
       injection hj2 with hj2
       subst hj2
       refine St.thenN ?_
       exact St.hereE () ⟨rfl, rfl, rfl, trivial⟩ (fun _ w => ((.d (.k (.k (.k .z)))) : Keep _ _).sat w)
      ·replace hj2 := bif_f hb9 hj2
       refine St.gOn (dj := 47) rfl rfl ?_
       refine St.p rfl rfl ?_
       refine St.gOn (dj := 47) rfl rfl ?_
       refine St.loadB 3 rfl rfl (.tail _ (.head _)) rfl rfl ?_
       refine St.gOn (dj := 47) rfl rfl ?_
       refine St.p rfl rfl ?_
       refine St.gOn (dj := 47) rfl rfl ?_
       refine St.p rfl rfl ?_
       refine St.p rfl rfl ?_
       refine St.doneQ ?_
       injection hj2 with hj2
       subst hj2
       refine St.thenN ?_
       exact St.hereE () ⟨rfl, rfl, rfl, trivial⟩ (fun _ w => ((.d (.k (.k (.k .z)))) : Keep _ _).sat w)
   ·replace hj2 := bif_f hb4 hj2
    refine St.gOff (dj := 24) rfl rfl rfl rfl ?_
    refine St.gOff (dj := 24) rfl rfl rfl rfl ?_
    refine St.gOff (dj := 24) rfl rfl rfl rfl ?_
    refine St.p rfl rfl ?_
    refine St.p rfl rfl ?_
    refine St.gOn (dj := 29) rfl rfl ?_
    refine St.p rfl rfl ?_
    refine St.gOn (dj := 29) rfl rfl ?_
    refine St.p rfl rfl ?_
    refine St.gOn (dj := 29) rfl rfl ?_
    refine St.p rfl rfl ?_
    refine St.gSplit (dj := 32) _ rfl (fun hb10 => ?_) (fun hb10 => ?_)
    ·replace hj2 := bif_t hb10 hj2
     refine St.gOn (dj := 32) rfl rfl ?_
     refine St.p rfl rfl ?_
     refine St.gOn (dj := 32) rfl rfl ?_
     refine St.loadB 2 rfl rfl (.head _) rfl rfl ?_
     refine St.gOn (dj := 32) rfl rfl ?_
     refine St.p rfl rfl ?_
     refine St.gOn (dj := 29) rfl rfl ?_
     iterate 3 refine St.p rfl rfl ?_
     refine St.gSplit (dj := 38) _ rfl (fun hb11 => ?_) (fun hb11 => ?_)
     ·replace hj2 := bif_t hb11 hj2
      refine St.gOff (dj := 38) rfl rfl rfl rfl ?_
      refine St.gOff (dj := 38) rfl rfl rfl rfl ?_
      refine St.gOff (dj := 38) rfl rfl rfl rfl ?_
      refine St.gOff (dj := 38) rfl rfl rfl rfl ?_
      refine St.gOff (dj := 38) rfl rfl rfl rfl ?_
      refine St.gOff (dj := 38) rfl rfl rfl rfl ?_
      refine St.gOff (dj := 38) rfl rfl rfl rfl ?_
      refine St.p rfl rfl ?_
      refine St.p rfl rfl ?_
      refine St.gOff (dj := 47) rfl rfl rfl rfl ?_
      refine St.gOff (dj := 47) rfl rfl rfl rfl ?_
      refine St.gOff (dj := 47) rfl rfl rfl rfl ?_
      refine St.gOff (dj := 47) rfl rfl rfl rfl ?_
      refine St.p rfl rfl ?_
      refine St.doneQ ?_
      injection hj2 with hj2
      subst hj2
      refine St.thenN ?_
      exact St.hereE () ⟨rfl, rfl, rfl, trivial⟩ (fun _ w => ((.k (.k (.k .z))) : Keep _ _).sat w)
     ·replace hj2 := bif_f hb11 hj2
      refine St.gOn (dj := 38) rfl rfl ?_
      refine St.p rfl rfl ?_
      refine St.gOn (dj := 38) rfl rfl ?_
      refine St.loadB 3 rfl rfl (.head _) rfl rfl ?_
      refine St.gOn (dj := 38) rfl rfl ?_
      refine St.p rfl rfl ?_
      refine St.gOn (dj := 38) rfl rfl ?_
      refine St.p rfl rfl ?_
      refine St.gOn (dj := 38) rfl rfl ?_
      obtain ⟨x3, hx3, hj2⟩ := bnd_e hj2
      refine St.ixG (E := ei64) hx3 rfl rfl rfl (.tail _ (.tail _ (.head _))) rfl rfl rfl rfl rfl fun b3 ob3 => ?_
      refine St.gOn (dj := 38) rfl rfl ?_
      refine St.load ob3 0 rfl rfl (.head _) rfl rfl ?_
      refine St.gOn (dj := 38) rfl rfl ?_
      iterate 3 refine St.p rfl rfl ?_
      refine St.gSplit (dj := 47) _ rfl (fun hb12 => ?_) (fun hb12 => ?_)
      ·replace hj2 := bif_t hb12 hj2
       refine St.gOff (dj := 47) rfl rfl rfl rfl ?_
       refine St.gOff (dj := 47) rfl rfl rfl rfl ?_
       refine St.gOff (dj := 47) rfl rfl rfl rfl ?_
       refine St.gOff (dj := 47) rfl rfl rfl rfl ?_
       refine St.p rfl rfl ?_
       refine St.doneQ ?_
       injection hj2 with hj2
       subst hj2
       refine St.thenN ?_
       exact St.hereE () ⟨rfl, rfl, rfl, trivial⟩ (fun _ w => ((.d (.k (.k (.k .z)))) : Keep _ _).sat w)
      ·replace hj2 := bif_f hb12 hj2
       refine St.gOn (dj := 47) rfl rfl ?_
       refine St.p rfl rfl ?_
       refine St.gOn (dj := 47) rfl rfl ?_
       refine St.loadB 3 rfl rfl (.tail _ (.head _)) rfl rfl ?_
       refine St.gOn (dj := 47) rfl rfl ?_
       refine St.p rfl rfl ?_
       refine St.gOn (dj := 47) rfl rfl ?_
       refine St.p rfl rfl ?_
       refine St.p rfl rfl ?_
       refine St.doneQ ?_
       injection hj2 with hj2
       subst hj2
       refine St.thenN ?_
       exact St.hereE () ⟨rfl, rfl, rfl, trivial⟩ (fun _ w => ((.d (.k (.k (.k .z)))) : Keep _ _).sat w)
    ·replace hj2 := bif_f hb10 hj2
     refine St.gOff (dj := 32) rfl rfl rfl rfl ?_
     refine St.gOff (dj := 32) rfl rfl rfl rfl ?_
     refine St.gOff (dj := 32) rfl rfl rfl rfl ?_
     refine St.gOn (dj := 29) rfl rfl ?_
     iterate 3 refine St.p rfl rfl ?_
     refine St.gOn (dj := 38) rfl rfl ?_
     refine St.p rfl rfl ?_
     refine St.gOn (dj := 38) rfl rfl ?_
     refine St.loadB 3 rfl rfl (.head _) rfl rfl ?_
     refine St.gOn (dj := 38) rfl rfl ?_
     refine St.p rfl rfl ?_
     refine St.gOn (dj := 38) rfl rfl ?_
     refine St.p rfl rfl ?_
     refine St.gOn (dj := 38) rfl rfl ?_
     obtain ⟨x4, hx4, hj2⟩ := bnd_e hj2
     refine St.ixG (E := ei64) hx4 rfl rfl rfl (.tail _ (.tail _ (.head _))) rfl rfl rfl rfl rfl fun b4 ob4 => ?_
     refine St.gOn (dj := 38) rfl rfl ?_
     refine St.load ob4 0 rfl rfl (.head _) rfl rfl ?_
     refine St.gOn (dj := 38) rfl rfl ?_
     iterate 3 refine St.p rfl rfl ?_
     refine St.gSplit (dj := 47) _ rfl (fun hb13 => ?_) (fun hb13 => ?_)
     ·replace hj2 := bif_t hb13 hj2
      refine St.gOff (dj := 47) rfl rfl rfl rfl ?_
      refine St.gOff (dj := 47) rfl rfl rfl rfl ?_
      refine St.gOff (dj := 47) rfl rfl rfl rfl ?_
      refine St.gOff (dj := 47) rfl rfl rfl rfl ?_
      refine St.p rfl rfl ?_
      refine St.doneQ ?_
      injection hj2 with hj2
      subst hj2
      refine St.thenN ?_
      exact St.hereE () ⟨rfl, rfl, rfl, trivial⟩ (fun _ w => ((.d (.k (.k (.k .z)))) : Keep _ _).sat w)
     ·replace hj2 := bif_f hb13 hj2
      refine St.gOn (dj := 47) rfl rfl ?_
      refine St.p rfl rfl ?_
      refine St.gOn (dj := 47) rfl rfl ?_
      refine St.loadB 3 rfl rfl (.tail _ (.head _)) rfl rfl ?_
      refine St.gOn (dj := 47) rfl rfl ?_
      refine St.p rfl rfl ?_
      refine St.gOn (dj := 47) rfl rfl ?_
      refine St.p rfl rfl ?_
      refine St.p rfl rfl ?_
      refine St.doneQ ?_
      injection hj2 with hj2
      subst hj2
      refine St.thenN ?_
      exact St.hereE () ⟨rfl, rfl, rfl, trivial⟩ (fun _ w => ((.d (.k (.k (.k .z)))) : Keep _ _).sat w)
  ·rintro e2
   refine St.cond _ rfl (fun hb14 => ?_) (fun hb14 => ?_)
   ·replace h := bif_t hb14 h
    refine St.seq ?_
    refine St.region ?_
    refine St.p rfl rfl ?_
    refine St.done ?_
    refine St.thenN ?_
    refine St.prune (Γ' := [(4, _)]) ⟨rfl, trivial⟩ (.d (.d (.k .z))) ?_
    refine St.ret ?_
    repeat (first | refine St.thenR ?_ | refine St.blkR ?_)
    injection h with h
    subst h
    exact St.finR Tryd.results38 (.tmp rfl .nil) rfl [] ⟨rfl, rfl⟩ (fun _ w => ((.d .z) : Keep _ _).sat w)
   ·replace h := bif_f hb14 h
    refine St.skip ?_
    refine St.thenN ?_
    refine St.prune (Γ' := [(1, _), (2, _)]) ⟨rfl, rfl, trivial⟩ (.k (.k (.k .z))) ?_
    refine St.seq ?_
    obtain ⟨o3, hj3, h⟩ := bnd_e h
    refine St.cutE (fun (e3 : Unit) => [(4, .bool o3)]) (fun e3 => .ro (SlL ei64 (some ⟨0, 0, none⟩) 3 ([2, 5, 7] : List Int)) :: R) ?_ ?_
    ·refine St.region ?_
     refine St.p rfl rfl ?_
     refine St.loadB 3 rfl rfl (.head _) rfl rfl ?_
     obtain ⟨r1, hr1, hj3⟩ := bnd_e hj3
     refine St.callV (c_slices_ContainsFunc__api_Field_api_Field_f54 hr1) ent53 rfl rfl rfl rfl ⟨(.tail _ (.head _)), trivial⟩ ?_
     refine St.p rfl rfl ?_
     refine St.p rfl rfl ?_
     refine St.gSplit (dj := 57) _ rfl (fun hb15 => ?_) (fun hb15 => ?_)
     ·replace hj3 := bif_t hb15 hj3
      refine St.gOn (dj := 57) rfl rfl ?_
      refine St.loadB 0 rfl rfl (.head _) rfl rfl ?_
      refine St.gOn (dj := 57) rfl rfl ?_
      refine St.p rfl rfl ?_
      refine St.gOn (dj := 57) rfl rfl ?_
      obtain ⟨r2, hr2, hj3⟩ := bnd_e hj3
      refine St.call (c_unitinfo_encodeArea hr2) ent48 rfl rfl rfl (fun _ w => Sat.dup (G := [.ro (SlL e_Field A1 c1 a_p0.Fields)]) rfl ⟨(.tail _ (.head _)), trivial⟩ w) ?_
      rintro _ _ ⟨A2, c2, rfl, rfl⟩
      refine St.asrt (F' := .res (OwnL eu8 5 A2 c2 r2) :: .res (Box g1 25 (bx_T_Area a_p0 A1 c1)) :: .ro (SlL e_Field A1 c1 a_p0.Fields) :: .ro (SlL ei64 (some ⟨0, 0, none⟩) 3 ([2, 5, 7] : List Int)) :: R) (fun _ w => w) ?_
      refine St.gOn (dj := 57) rfl rfl ?_
      refine St.p rfl rfl ?_
      refine St.gOn (dj := 57) rfl rfl ?_
      iterate 3 refine St.p rfl rfl ?_
      refine St.done ?_
      injection hj3 with hj3
      subst hj3
      refine St.thenN ?_
      exact St.hereE () ⟨rfl, trivial⟩ (fun _ w => ((.d (.d (.d (.k .z)))) : Keep _ _).sat w)
     ·replace hj3 := bif_f hb15 hj3
      refine St.gOff (dj := 57) rfl rfl rfl rfl ?_
      refine St.gOff (dj := 57) rfl rfl rfl rfl ?_
      refine St.gOff (dj := 57) rfl rfl rfl rfl ?_
      refine St.gOff (dj := 57) rfl rfl rfl rfl ?_
      refine St.gOff (dj := 57) rfl rfl rfl rfl ?_
      refine St.p rfl rfl ?_
      refine St.p rfl rfl ?_
      refine St.done ?_
      injection hj3 with hj3
      subst hj3
      refine St.thenN ?_
      exact St.hereE () ⟨rfl, trivial⟩ (fun _ w => ((.d (.d (.k .z))) : Keep _ _).sat w)
    ·rintro e3
     refine St.ret ?_
     repeat (first | refine St.thenR ?_ | refine St.blkR ?_)
     injection h with h
     subst h
     exact St.finR Tryd.results38 (.tmp rfl .nil) rfl [] ⟨rfl, rfl⟩ (fun _ w => ((.d .z) : Keep _ _).sat w)

theorem ent49 : Ent Tryd.prog 49 := ⟨_, Tryd.func49, by kernel_rfl, by kernel_rfl⟩

noncomputable def m_slices_Concat__byte_byte (slices : (List (List Int))) : Option (List Int) :=
 bnd (loopM (τ := Int) (fun (s1 : Int × Int) => bif decide (s1.2 < (slices.length : Int)) then (bnd (elt slices s1.2) fun x1 => bif decide ((IntKind.wrap .i64 (s1.1 + (x1.length : Int))) < 0) then (none) else (some (.next (IntKind.wrap .i64 (s1.1 + (x1.length : Int)), IntKind.wrap .i64 (s1.2 + 1))))) else (some (.done s1.1))) (0, 0)) fun o1 => bnd (growM o1) fun r1 => bnd (loopM (τ := List Int) (fun (s2 : List Int × Int) => bif decide (s2.2 < (slices.length : Int)) then (bnd (elt slices s2.2) fun x2 => bnd (app 1 s2.1 x2) fun l1 => some (.next (l1, IntKind.wrap .i64 (s2.2 + 1)))) else (some (.done s2.1))) (r1, 0)) fun o2 => some o2

theorem c_slices_Concat__byte_byte {slices : (List (List Int))} {A1 : Option Addr} {c1 : Nat} {r : (List Int)} (h : m_slices_Concat__byte_byte slices = some r) :
  Fun Tryd.prog 49 [.slice A1 slices.length c1] [.ro (Sl (codL l_sl_u8) A1 c1 slices)] (fun v_ F_ => ∃ (A1 : Option Addr) (c1 : Nat), v_ = .slice A1 r.length c1 ∧ F_ = [.res (OwnL eu8 5 A1 c1 r)]) := by
 unfold m_slices_Concat__byte_byte at h
 refine Fun.intro Tryd.func49 rfl rfl rfl fun w R => ?_
 refine St.seq ?_
 refine St.region ?_
 refine St.p rfl rfl ?_
 refine St.done ?_
 refine St.thenN ?_
 refine St.prune (Γ' := [(0, _)]) ⟨rfl, trivial⟩ (.k .z) ?_
 refine St.seq ?_
 refine St.region ?_
 refine St.p rfl rfl ?_
 refine St.done ?_
 refine St.thenN ?_
 refine St.seq ?_
 refine St.seq ?_
 refine St.region ?_
 iterate 3 refine St.p rfl rfl ?_
 refine St.done ?_
 refine St.thenN ?_
 obtain ⟨o1, hl1, h⟩ := bnd_e h
 refine St.cutE (fun (e2 : Unit) => [(0, .slice A1 slices.length c1), (3, .int .i64 o1)]) (fun e2 => .ro (Sl (codL l_sl_u8) A1 c1 slices) :: R) ?_ ?_
 ·refine St.block ?_
  refine St.loop hl1 (fun (s1 : Int × Int) (e1 : Unit) => [(0, .slice A1 slices.length c1), (3, .int .i64 s1.1), (9, .slice A1 slices.length c1), (10, .int .i64 (slices.length : Int)), (11, .int .i64 s1.2)]) (fun s1 e1 => .ro (Sl (codL l_sl_u8) A1 c1 slices) :: R) (fun _ _ => True) () trivial ⟨rfl, rfl, rfl, rfl, rfl, trivial⟩ (fun _ w => ((.k .z) : Keep _ _).sat w) ?_
  rintro s1 e1 - hit1
  obtain ⟨st1, hm1, hd1⟩ := iter_e hit1
  have h1 := hm1
  refine St.seq ?_
  refine St.region ?_
  refine St.p rfl rfl ?_
  refine St.done ?_
  refine St.thenN ?_
  refine St.seq ?_
  refine St.cond _ rfl (fun hb1 => ?_) (fun hb1 => ?_)
  ·replace h1 := bif_t hb1 h1
   refine St.skip ?_
   refine St.thenN ?_
   refine St.prune (Γ' := [(0, _), (3, _), (9, _), (10, _), (11, _)]) ⟨rfl, rfl, rfl, rfl, rfl, trivial⟩ (.k .z) ?_
   refine St.seq ?_
   refine St.block ?_
   refine St.seq ?_
   refine St.region ?_
   obtain ⟨x1, hx1, h1⟩ := bnd_e h1
   refine St.ixN hx1 rfl rfl rfl (.head _) rfl rfl rfl rfl rfl fun b1 ob1 ex1 => ?_
   obtain ⟨⟨A2, c2⟩, _⟩ := ex1
   refine St.asrt (F' := .ro (Cells b1 ob1 [.slice A2 x1.length c2]) :: .ro (SlL eu8 A2 c2 x1) :: .ro (Sl (codL l_sl_u8) A1 c1 slices) :: R) (fun _ w => w) ?_
   refine St.load ob1 0 rfl rfl (.head _) rfl rfl ?_
   refine St.p rfl rfl ?_
   refine St.done ?_
   refine St.thenN ?_
   refine St.prune (Γ' := [(0, _), (3, _), (5, _), (9, _), (10, _), (11, _)]) ⟨rfl, rfl, rfl, rfl, rfl, rfl, trivial⟩ (.d (.k (.k .z))) ?_
   refine St.seq ?_
   refine St.region ?_
   iterate 5 refine St.p rfl rfl ?_
   refine St.done ?_
   refine St.thenN ?_
   refine St.prune (Γ' := [(0, _), (3, _), (9, _), (10, _), (11, _)]) ⟨rfl, rfl, rfl, rfl, rfl, trivial⟩ (.d (.k .z)) ?_
   refine St.seq ?_
   refine St.region ?_
   refine St.p rfl rfl ?_
   refine St.p rfl rfl ?_
   refine St.done ?_
   refine St.thenN ?_
   refine St.prune (Γ' := [(0, _), (3, _), (9, _), (10, _), (11, _), (20, _)]) ⟨rfl, rfl, rfl, rfl, rfl, rfl, trivial⟩ (.k .z) ?_
   refine St.cond _ rfl (fun hb2 => ?_) (fun hb2 => ?_)
   ·replace h1 := bif_t hb2 h1
    refine St.region ?_
    cases h1
   ·replace h1 := bif_f hb2 h1
    refine St.skip ?_
    refine St.blkN ?_
    refine St.thenN ?_
    refine St.prune (Γ' := [(0, _), (3, _), (9, _), (10, _), (11, _)]) ⟨rfl, rfl, rfl, rfl, rfl, trivial⟩ (.k .z) ?_
    refine St.region ?_
    refine St.p rfl rfl ?_
    refine St.p rfl rfl ?_
    refine St.done ?_
    injection h1 with h1
    subst h1
    refine St.thenN ?_
    exact St.again _ () hm1 trivial ⟨rfl, rfl, rfl, rfl, rfl, trivial⟩ (fun _ w => ((.k .z) : Keep _ _).sat w)
  ·replace h1 := bif_f hb1 h1
   refine St.exit ?_
   repeat (first | refine St.thenX ?_ | refine St.blkMiss rfl ?_)
   refine St.blkHit ?_
   injection h1 with h1
   subst h1
   have ho := hd1 _ rfl
   subst ho
   refine St.thenN ?_
   exact St.hereE () ⟨rfl, rfl, trivial⟩ (fun _ w => ((.k .z) : Keep _ _).sat w)
 ·rintro e2
  refine St.seq ?_
  refine St.region ?_
  refine St.p rfl rfl ?_
  obtain ⟨r1, hr1, h⟩ := bnd_e h
  refine St.call (c_grow hr1) ent67 rfl rfl rfl (fun _ w => w) ?_
  rintro _ _ ⟨A3, c3, rfl, rfl⟩
  refine St.asrt (F' := .res (OwnL eu8 5 A3 c3 r1) :: .ro (Sl (codL l_sl_u8) A1 c1 slices) :: R) (fun _ w => w) ?_
  refine St.p rfl rfl ?_
  refine St.done ?_
  refine St.thenN ?_
  refine St.prune (Γ' := [(0, _), (6, _)]) ⟨rfl, rfl, trivial⟩ (.k (.k .z)) ?_
  refine St.seq ?_
  refine St.seq ?_
  refine St.region ?_
  iterate 3 refine St.p rfl rfl ?_
  refine St.done ?_
  refine St.thenN ?_
  refine St.prune (Γ' := [(6, _), (25, _), (26, _), (27, _)]) ⟨rfl, rfl, rfl, rfl, trivial⟩ (.k (.k .z)) ?_
  obtain ⟨o2, hl2, h⟩ := bnd_e h
  refine St.cutE (fun (e4 : Option Addr × Nat) => [(6, .slice e4.1 o2.length e4.2)]) (fun e4 => .res (OwnL eu8 5 e4.1 e4.2 o2) :: R) ?_ ?_
  ·refine St.block ?_
   refine St.loop hl2 (fun (s2 : List Int × Int) (e3 : Option Addr × Nat) => [(6, .slice e3.1 s2.1.length e3.2), (25, .slice A1 slices.length c1), (26, .int .i64 (slices.length : Int)), (27, .int .i64 s2.2)]) (fun s2 e3 => .res (OwnL eu8 5 e3.1 e3.2 s2.1) :: .ro (Sl (codL l_sl_u8) A1 c1 slices) :: R) (fun _ _ => True) (A3, c3) trivial ⟨rfl, rfl, rfl, rfl, trivial⟩ (fun _ w => ((.k (.k .z)) : Keep _ _).sat w) ?_
   rintro s2 ⟨A4, c4⟩ - hit2
   obtain ⟨st2, hm2, hd2⟩ := iter_e hit2
   have h2 := hm2
   refine St.seq ?_
   refine St.region ?_
   refine St.p rfl rfl ?_
   refine St.done ?_
   refine St.thenN ?_
   refine St.seq ?_
   refine St.cond _ rfl (fun hb3 => ?_) (fun hb3 => ?_)
   ·replace h2 := bif_t hb3 h2
    refine St.skip ?_
    refine St.thenN ?_
    refine St.prune (Γ' := [(6, _), (25, _), (26, _), (27, _)]) ⟨rfl, rfl, rfl, rfl, trivial⟩ (.k (.k .z)) ?_
    refine St.seq ?_
    refine St.block ?_
    refine St.seq ?_
    refine St.region ?_
    obtain ⟨x2, hx2, h2⟩ := bnd_e h2
    refine St.ixN hx2 rfl rfl rfl (.tail _ (.head _)) rfl rfl rfl rfl rfl fun b2 ob2 ex2 => ?_
    obtain ⟨⟨A6, c6⟩, _⟩ := ex2
    refine St.asrt (F' := .ro (Cells b2 ob2 [.slice A6 x2.length c6]) :: .ro (SlL eu8 A6 c6 x2) :: .res (OwnL eu8 5 A4 c4 s2.1) :: .ro (Sl (codL l_sl_u8) A1 c1 slices) :: R) (fun _ w => w) ?_
    refine St.load ob2 0 rfl rfl (.head _) rfl rfl ?_
    refine St.p rfl rfl ?_
    refine St.done ?_
    refine St.thenN ?_
    refine St.prune (Γ' := [(6, _), (8, _), (25, _), (26, _), (27, _)]) ⟨rfl, rfl, rfl, rfl, rfl, trivial⟩ (.d (.k (.k (.k .z)))) ?_
    refine St.region ?_
    refine St.p rfl rfl ?_
    refine St.p rfl rfl ?_
    obtain ⟨l1, hl1, h2⟩ := bnd_e h2
    refine St.app (E := eu8) hl1 rfl rfl rfl (.s .z) rfl rfl rfl rfl rfl rfl rfl rfl (srcL (.head _)) rfl rfl fun A7 c7 => ?_
    refine St.p rfl rfl ?_
    refine St.done ?_
    refine St.blkN ?_
    refine St.thenN ?_
    refine St.prune (Γ' := [(6, _), (25, _), (26, _), (27, _)]) ⟨rfl, rfl, rfl, rfl, trivial⟩ (.k (.d (.k .z))) ?_
    refine St.region ?_
    refine St.p rfl rfl ?_
    refine St.p rfl rfl ?_
    refine St.done ?_
    injection h2 with h2
    subst h2
    refine St.thenN ?_
    exact St.again _ (A7, c7) hm2 trivial ⟨rfl, rfl, rfl, rfl, trivial⟩ (fun _ w => ((.k (.k .z)) : Keep _ _).sat w)
   ·replace h2 := bif_f hb3 h2
    refine St.exit ?_
    repeat (first | refine St.thenX ?_ | refine St.blkMiss rfl ?_)
    refine St.blkHit ?_
    injection h2 with h2
    subst h2
    have ho := hd2 _ rfl
    subst ho
    refine St.thenN ?_
    exact St.hereE (A4, c4) ⟨rfl, trivial⟩ (fun _ w => ((.k (.d .z)) : Keep _ _).sat w)
  ·rintro ⟨A5, c5⟩
   refine St.seq ?_
   refine St.region ?_
   refine St.p rfl rfl ?_
   refine St.p rfl rfl ?_
   refine St.done ?_
   refine St.thenN ?_
   refine St.prune (Γ' := [(2, _)]) ⟨rfl, trivial⟩ (.k .z) ?_
   refine St.ret ?_
   repeat (first | refine St.thenR ?_ | refine St.blkR ?_)
   injection h with h
   subst h
   exact St.finR Tryd.results49 (.tmp rfl .nil) rfl [.res (OwnL eu8 5 A5 c5 o2)] ⟨A5, c5, rfl, rfl⟩ (fun _ w => ((.k .z) : Keep _ _).sat w)

theorem ent35 : Ent Tryd.prog 35 := ⟨_, Tryd.func35, by kernel_rfl, by kernel_rfl⟩

noncomputable def m_unitinfo_encode (i_p0 : T_Info) : Option (List Int) :=
 bnd (m_unitinfo_areas i_p0) fun r1 => bnd ((bif r1.e0.Present then (bnd (m_unitinfo_encodeArea r1.e0 0) fun r2 => bnd (app 1 ([]) r2) fun l1 => some (l1, IntKind.wrap .u8 (IntKind.wrap .i64 ((8 : Int).tdiv 8)))) else (some ([], 0)) : Option (List Int × Int))) fun o1 => bnd ((bif r1.e1.Present then (bnd (m_unitinfo_encodeArea r1.e1 1) fun r3 => bnd (app 1 o1.1 r3) fun l2 => some (l2, IntKind.wrap .u8 (IntKind.wrap .i64 ((IntKind.wrap .i64 (8 + (o1.1.length : Int))).tdiv 8)))) else (some (o1.1, 0)) : Option (List Int × Int))) fun o2 => bnd ((bif r1.e2.Present then (bnd (m_unitinfo_encodeArea r1.e2 2) fun r4 => bnd (app 1 o2.1 r4) fun l3 => some (l3, IntKind.wrap .u8 (IntKind.wrap .i64 ((IntKind.wrap .i64 (8 + (o2.1.length : Int))).tdiv 8)))) else (some (o2.1, 0)) : Option (List Int × Int))) fun o3 => bif decide ((i_p0.Multi.length : Int) > 0) then (bnd (m_checksum_Seal8 ([1, 0, o1.2, o2.2, o3.2, IntKind.wrap .u8 (IntKind.wrap .i64 ((IntKind.wrap .i64 (8 + (o3.1.length : Int))).tdiv 8)), 0])) fun r5 => bnd (m_slices_Concat__byte_byte ([r5, o3.1, i_p0.Multi])) fun r6 => some r6) else (bnd (m_checksum_Seal8 ([1, 0, o1.2, o2.2, o3.2, 0, 0])) fun r7 => bnd (m_slices_Concat__byte_byte ([r7, o3.1, i_p0.Multi])) fun r8 => some r8)

set_option maxHeartbeats 4000000 in
theorem c_unitinfo_encode {i_p0 : T_Info} {A1 : Option Addr} {c1 : Nat} {A2 : Option Addr} {c2 : Nat} {A3 : Option Addr} {c3 : Nat} {A4 : Option Addr} {c4 : Nat} {r : (List Int)} (h : m_unitinfo_encode i_p0 = some r) :
  Fun Tryd.prog 35 [.agg (bx_T_Info i_p0 A1 c1 A2 c2 A3 c3 A4 c4).toArray] [.ro (SlL e_Field A1 c1 i_p0.Chassis.Fields), .ro (SlL e_Field A2 c2 i_p0.Board.Fields), .ro (SlL e_Field A3 c3 i_p0.Product.Fields), .ro (SlL eu8 A4 c4 i_p0.Multi)] (fun v_ F_ => ∃ (A1 : Option Addr) (c1 : Nat), v_ = .slice A1 r.length c1 ∧ F_ = [.res (OwnL eu8 5 A1 c1 r)]) := by
 unfold m_unitinfo_encode at h
 refine Fun.intro Tryd.func35 rfl rfl rfl fun w R => ?_
 refine St.seq ?_
 refine St.region ?_
 refine St.box rfl rfl fun g1 => ?_
 refine St.p rfl rfl ?_
 refine St.done ?_
 refine St.thenN ?_
 refine St.prune (Γ' := [(1, _)]) ⟨rfl, trivial⟩ (.k (.k (.k (.k (.k .z))))) ?_
 refine St.seq ?_
 refine St.region ?_
 refine St.buildSlice rfl rfl rfl rfl rfl rfl rfl rfl fun g2 => ?_
 refine St.p rfl rfl ?_
 refine St.done ?_
 refine St.thenN ?_
 refine St.prune (Γ' := [(1, _), (3, _)]) ⟨rfl, rfl, trivial⟩ (.k (.k (.k (.k (.k (.k .z)))))) ?_
 refine St.seq ?_
 refine St.region ?_
 refine St.p rfl rfl ?_
 refine St.done ?_
 refine St.thenN ?_
 refine St.seq ?_
 refine St.seq ?_
 refine St.region ?_
 refine St.loadB 0 rfl rfl (.tail _ (.head _)) rfl rfl ?_
 obtain ⟨r1, hr1, h⟩ := bnd_e h
 refine St.call (c_unitinfo_areas hr1) ent37 rfl rfl rfl (fun _ w => Sat.dup (G := [.ro (SlL e_Field A1 c1 i_p0.Chassis.Fields), .ro (SlL e_Field A2 c2 i_p0.Board.Fields), .ro (SlL e_Field A3 c3 i_p0.Product.Fields), .ro (SlL eu8 A4 c4 i_p0.Multi)]) rfl ⟨(.tail _ (.tail _ (.head _))), (.tail _ (.tail _ (.tail _ (.head _)))), (.tail _ (.tail _ (.tail _ (.tail _ (.head _))))), (.tail _ (.tail _ (.tail _ (.tail _ (.tail _ (.head _)))))), trivial⟩ w) ?_
 rintro _ _ ⟨A5, c5, A6, c6, A7, c7, rfl, rfl⟩
 refine St.asrt (F' := .ro (SlL e_Field A5 c5 r1.e0.Fields) :: .ro (SlL e_Field A6 c6 r1.e1.Fields) :: .ro (SlL e_Field A7 c7 r1.e2.Fields) :: .res (Box g2 5 [.int .u8 1, .int .u8 0, .int .u8 0, .int .u8 0, .int .u8 0, .int .u8 0, .int .u8 0]) :: .res (Box g1 28 (bx_T_Info i_p0 A1 c1 A2 c2 A3 c3 A4 c4)) :: .ro (SlL e_Field A1 c1 i_p0.Chassis.Fields) :: .ro (SlL e_Field A2 c2 i_p0.Board.Fields) :: .ro (SlL e_Field A3 c3 i_p0.Product.Fields) :: .ro (SlL eu8 A4 c4 i_p0.Multi) :: R) (fun _ w => w) ?_
 refine St.p rfl rfl ?_
 refine St.done ?_
 refine St.thenN ?_
 refine St.prune (Γ' := [(1, _), (3, _), (4, _), (9, _), (10, _)]) ⟨rfl, rfl, rfl, rfl, rfl, trivial⟩ (.k (.k (.k (.k (.k (.k (.k (.k (.k .z))))))))) ?_
 refine St.block ?_
 refine St.rounds 9 ?_
 refine St.round ?_
 refine St.seq ?_
 refine St.region ?_
 refine St.p rfl rfl ?_
 refine St.done ?_
 refine St.thenN ?_
 refine St.seq ?_
 refine St.condT rfl ?_
 refine St.skip ?_
 refine St.thenN ?_
 refine St.prune (Γ' := [(1, _), (3, _), (4, _), (9, _), (10, _)]) ⟨rfl, rfl, rfl, rfl, rfl, trivial⟩ (.k (.k (.k (.k (.k (.k (.k (.k (.k .z))))))))) ?_
 refine St.seq ?_
 obtain ⟨o1, hj1, h⟩ := bnd_e h
 refine St.cutE (fun (e1 : Option Addr × Nat) => [(1, .pointer (some ⟨g1, 0, none⟩)), (3, .slice (some ⟨g2, 0, none⟩) 7 7), (4, .slice e1.1 o1.1.length e1.2), (9, .agg (bx_aArr3T_Area r1 A5 c5 A6 c6 A7 c7).toArray), (10, .int .i64 0)]) (fun e1 => .res (OwnL eu8 5 e1.1 e1.2 o1.1) :: .ro (SlL e_Field A5 c5 r1.e0.Fields) :: .ro (SlL e_Field A6 c6 r1.e1.Fields) :: .ro (SlL e_Field A7 c7 r1.e2.Fields) :: .res (Box g2 5 [.int .u8 1, .int .u8 0, .int .u8 o1.2, .int .u8 0, .int .u8 0, .int .u8 0, .int .u8 0]) :: .res (Box g1 28 (bx_T_Info i_p0 A1 c1 A2 c2 A3 c3 A4 c4)) :: .ro (SlL e_Field A1 c1 i_p0.Chassis.Fields) :: .ro (SlL e_Field A2 c2 i_p0.Board.Fields) :: .ro (SlL e_Field A3 c3 i_p0.Product.Fields) :: .ro (SlL eu8 A4 c4 i_p0.Multi) :: R) ?_ ?_
 ·refine St.block ?_
  refine St.seq ?_
  refine St.region ?_
  refine St.p rfl rfl ?_
  refine St.p rfl rfl ?_
  refine St.alloc rfl rfl fun g3 => ?_
  refine St.p rfl rfl ?_
  refine St.store 0 rfl rfl rfl rfl rfl rfl .z rfl ?_
  refine St.done ?_
  refine St.thenN ?_
  refine St.prune (Γ' := [(1, _), (3, _), (4, _), (5, _), (6, _), (9, _), (10, _)]) ⟨rfl, rfl, rfl, rfl, rfl, rfl, rfl, trivial⟩ (.k (.k (.k (.k (.k (.k (.k (.k (.k (.k .z)))))))))) ?_
  refine St.seq ?_
  refine St.region ?_
  refine St.p rfl rfl ?_
  refine St.loadB 0 rfl rfl (.head _) rfl rfl ?_
  refine St.done ?_
  refine St.thenN ?_
  refine St.prune (Γ' := [(1, _), (3, _), (4, _), (5, _), (6, _), (9, _), (10, _), (15, _)]) ⟨rfl, rfl, rfl, rfl, rfl, rfl, rfl, rfl, trivial⟩ (.k (.k (.k (.k (.k (.k (.k (.k (.k (.k .z)))))))))) ?_
  refine St.cond _ rfl (fun hb1 => ?_) (fun hb1 => ?_)
  ·replace hj1 := bif_t hb1 hj1
   refine St.seq ?_
   refine St.region ?_
   iterate 8 refine St.p rfl rfl ?_
   refine St.ixB 2 rfl rfl rfl rfl rfl rfl rfl rfl rfl rfl ?_
   refine St.store 2 rfl rfl rfl rfl rfl rfl (.s (.s (.s (.s .z)))) rfl ?_
   refine St.done ?_
   refine St.thenN ?_
   refine St.prune (Γ' := [(1, _), (3, _), (4, _), (5, _), (6, _), (9, _), (10, _)]) ⟨rfl, rfl, rfl, rfl, rfl, rfl, rfl, trivial⟩ (.k (.k (.k (.k (.k (.k (.k (.k (.k (.k .z)))))))))) ?_
   refine St.region ?_
   refine St.p rfl rfl ?_
   refine St.loadB 0 rfl rfl (.tail _ (.head _)) rfl rfl ?_
   refine St.p rfl rfl ?_
   obtain ⟨r2, hr2, hj1⟩ := bnd_e hj1
   refine St.call (c_unitinfo_encodeArea hr2) ent48 rfl rfl rfl (fun _ w => Sat.dup (G := [.ro (SlL e_Field A5 c5 r1.e0.Fields)]) rfl ⟨(.tail _ (.tail _ (.head _))), trivial⟩ w) ?_
   rintro _ _ ⟨A9, c9, rfl, rfl⟩
   refine St.asrt (F' := .res (OwnL eu8 5 A9 c9 r2) :: .res (Box g2 5 [.int .u8 1, .int .u8 0, .int .u8 (IntKind.wrap .u8 (IntKind.wrap .i64 ((8 : Int).tdiv 8))), .int .u8 0, .int .u8 0, .int .u8 0, .int .u8 0]) :: .res (Box g3 25 (bx_T_Area r1.e0 A5 c5)) :: .ro (SlL e_Field A5 c5 r1.e0.Fields) :: .ro (SlL e_Field A6 c6 r1.e1.Fields) :: .ro (SlL e_Field A7 c7 r1.e2.Fields) :: .res (Box g1 28 (bx_T_Info i_p0 A1 c1 A2 c2 A3 c3 A4 c4)) :: .ro (SlL e_Field A1 c1 i_p0.Chassis.Fields) :: .ro (SlL e_Field A2 c2 i_p0.Board.Fields) :: .ro (SlL e_Field A3 c3 i_p0.Product.Fields) :: .ro (SlL eu8 A4 c4 i_p0.Multi) :: R) (fun _ w => w) ?_
   refine St.asrt (fun _ w => (w.front .z).meltL) ?_
   refine St.asrt (fun _ w => w.nilL eu8 5) ?_
   obtain ⟨l1, hl1, hj1⟩ := bnd_e hj1
   refine St.app (E := eu8) hl1 rfl rfl rfl .z rfl rfl rfl rfl rfl rfl rfl rfl (srcL (.tail _ (.head _))) rfl rfl fun A10 c10 => ?_
   refine St.p rfl rfl ?_
   refine St.done ?_
   refine St.blkN ?_
   injection hj1 with hj1
   subst hj1
   refine St.thenN ?_
   exact St.hereE (A10, c10) ⟨rfl, rfl, rfl, rfl, rfl, trivial⟩ (fun _ w => ((.k (.k (.k (.k (.k (.k (.k (.k (.k (.k (.d (.d .z)))))))))))) : Keep _ _).sat ((((((((((w.front (.s (.s (.s (.s (.s (.s (.s (.s (.s (.s (.s .z)))))))))))).front (.s (.s (.s (.s (.s (.s (.s (.s (.s (.s (.s .z)))))))))))).front (.s (.s (.s (.s (.s (.s (.s (.s (.s (.s (.s .z)))))))))))).front (.s (.s (.s (.s (.s (.s (.s (.s (.s (.s (.s .z)))))))))))).front (.s (.s (.s (.s (.s (.s (.s (.s (.s (.s (.s .z)))))))))))).front (.s (.s (.s (.s (.s (.s (.s .z)))))))).front (.s (.s (.s (.s (.s (.s (.s (.s (.s (.s (.s .z)))))))))))).front (.s (.s (.s (.s (.s (.s (.s (.s (.s (.s (.s .z)))))))))))).front (.s (.s (.s (.s (.s (.s (.s (.s (.s (.s (.s .z)))))))))))).front (.s (.s (.s (.s (.s (.s (.s (.s (.s .z)))))))))))
  ·replace hj1 := bif_f hb1 hj1
   refine St.skip ?_
   refine St.blkN ?_
   refine St.asrt (fun _ w => w.nilL eu8 5) ?_
   injection hj1 with hj1
   subst hj1
   refine St.thenN ?_
   exact St.hereE (none, 0) ⟨rfl, rfl, rfl, rfl, rfl, trivial⟩ (fun _ w => ((.k (.d (.k (.k (.k (.k (.k (.k (.k (.k (.k .z))))))))))) : Keep _ _).sat w)
 ·rintro ⟨A8, c8⟩
  refine St.region ?_
  refine St.p rfl rfl ?_
  refine St.p rfl rfl ?_
  refine St.done ?_
  refine St.thenN ?_
  refine St.round ?_
  refine St.prune (Γ' := [(1, _), (3, _), (4, _), (9, _), (10, _)]) ⟨rfl, rfl, rfl, rfl, rfl, trivial⟩ (.k (.k (.k (.k (.k (.k (.k (.k (.k (.k .z)))))))))) ?_
  refine St.seq ?_
  refine St.region ?_
  refine St.p rfl rfl ?_
  refine St.done ?_
  refine St.thenN ?_
  refine St.seq ?_
  refine St.condT rfl ?_
  refine St.skip ?_
  refine St.thenN ?_
  refine St.prune (Γ' := [(1, _), (3, _), (4, _), (9, _), (10, _)]) ⟨rfl, rfl, rfl, rfl, rfl, trivial⟩ (.k (.k (.k (.k (.k (.k (.k (.k (.k (.k .z)))))))))) ?_
  refine St.seq ?_
  obtain ⟨o2, hj2, h⟩ := bnd_e h
  refine St.cutE (fun (e2 : Option Addr × Nat) => [(1, .pointer (some ⟨g1, 0, none⟩)), (3, .slice (some ⟨g2, 0, none⟩) 7 7), (4, .slice e2.1 o2.1.length e2.2), (9, .agg (bx_aArr3T_Area r1 A5 c5 A6 c6 A7 c7).toArray), (10, .int .i64 1)]) (fun e2 => .res (OwnL eu8 5 e2.1 e2.2 o2.1) :: .ro (SlL e_Field A5 c5 r1.e0.Fields) :: .ro (SlL e_Field A6 c6 r1.e1.Fields) :: .ro (SlL e_Field A7 c7 r1.e2.Fields) :: .res (Box g2 5 [.int .u8 1, .int .u8 0, .int .u8 o1.2, .int .u8 o2.2, .int .u8 0, .int .u8 0, .int .u8 0]) :: .res (Box g1 28 (bx_T_Info i_p0 A1 c1 A2 c2 A3 c3 A4 c4)) :: .ro (SlL e_Field A1 c1 i_p0.Chassis.Fields) :: .ro (SlL e_Field A2 c2 i_p0.Board.Fields) :: .ro (SlL e_Field A3 c3 i_p0.Product.Fields) :: .ro (SlL eu8 A4 c4 i_p0.Multi) :: R) ?_ ?_
  ·refine St.block ?_
   refine St.seq ?_
   refine St.region ?_
   refine St.p rfl rfl ?_
   refine St.p rfl rfl ?_
   refine St.alloc rfl rfl fun g4 => ?_
   refine St.p rfl rfl ?_
   refine St.store 0 rfl rfl rfl rfl rfl rfl .z rfl ?_
   refine St.done ?_
   refine St.thenN ?_
   refine St.prune (Γ' := [(1, _), (3, _), (4, _), (5, _), (6, _), (9, _), (10, _)]) ⟨rfl, rfl, rfl, rfl, rfl, rfl, rfl, trivial⟩ (.k (.k (.k (.k (.k (.k (.k (.k (.k (.k (.k .z))))))))))) ?_
   refine St.seq ?_
   refine St.region ?_
   refine St.p rfl rfl ?_
   refine St.loadB 0 rfl rfl (.head _) rfl rfl ?_
   refine St.done ?_
   refine St.thenN ?_
   refine St.prune (Γ' := [(1, _), (3, _), (4, _), (5, _), (6, _), (9, _), (10, _), (15, _)]) ⟨rfl, rfl, rfl, rfl, rfl, rfl, rfl, rfl, trivial⟩ (.k (.k (.k (.k (.k (.k (.k (.k (.k (.k (.k .z))))))))))) ?_
   refine St.cond _ rfl (fun hb2 => ?_) (fun hb2 => ?_)
   ·replace hj2 := bif_t hb2 hj2
    refine St.seq ?_
    refine St.region ?_
    iterate 8 refine St.p rfl rfl ?_
    refine St.ixB 3 rfl rfl rfl rfl rfl rfl rfl rfl rfl rfl ?_
    refine St.store 3 rfl rfl rfl rfl rfl rfl (.s (.s (.s (.s (.s .z))))) rfl ?_
    refine St.done ?_
    refine St.thenN ?_
    refine St.prune (Γ' := [(1, _), (3, _), (4, _), (5, _), (6, _), (9, _), (10, _)]) ⟨rfl, rfl, rfl, rfl, rfl, rfl, rfl, trivial⟩ (.k (.k (.k (.k (.k (.k (.k (.k (.k (.k (.k .z))))))))))) ?_
    refine St.region ?_
    refine St.p rfl rfl ?_
    refine St.loadB 0 rfl rfl (.tail _ (.head _)) rfl rfl ?_
    refine St.p rfl rfl ?_
    obtain ⟨r3, hr3, hj2⟩ := bnd_e hj2
    refine St.call (c_unitinfo_encodeArea hr3) ent48 rfl rfl rfl (fun _ w => Sat.dup (G := [.ro (SlL e_Field A6 c6 r1.e1.Fields)]) rfl ⟨(.tail _ (.tail _ (.tail _ (.tail _ (.head _))))), trivial⟩ w) ?_
    rintro _ _ ⟨A12, c12, rfl, rfl⟩
    refine St.asrt (F' := .res (OwnL eu8 5 A12 c12 r3) :: .res (Box g2 5 [.int .u8 1, .int .u8 0, .int .u8 o1.2, .int .u8 (IntKind.wrap .u8 (IntKind.wrap .i64 ((IntKind.wrap .i64 (8 + (o1.1.length : Int))).tdiv 8))), .int .u8 0, .int .u8 0, .int .u8 0]) :: .res (Box g4 25 (bx_T_Area r1.e1 A6 c6)) :: .res (OwnL eu8 5 A8 c8 o1.1) :: .ro (SlL e_Field A5 c5 r1.e0.Fields) :: .ro (SlL e_Field A6 c6 r1.e1.Fields) :: .ro (SlL e_Field A7 c7 r1.e2.Fields) :: .res (Box g1 28 (bx_T_Info i_p0 A1 c1 A2 c2 A3 c3 A4 c4)) :: .ro (SlL e_Field A1 c1 i_p0.Chassis.Fields) :: .ro (SlL e_Field A2 c2 i_p0.Board.Fields) :: .ro (SlL e_Field A3 c3 i_p0.Product.Fields) :: .ro (SlL eu8 A4 c4 i_p0.Multi) :: R) (fun _ w => w) ?_
    refine St.asrt (fun _ w => (w.front .z).meltL) ?_
    obtain ⟨l2, hl2, hj2⟩ := bnd_e hj2
    refine St.app (E := eu8) hl2 rfl rfl rfl (.s (.s (.s .z))) rfl rfl rfl rfl rfl rfl rfl rfl (srcL (.head _)) rfl rfl fun A13 c13 => ?_
    refine St.p rfl rfl ?_
    refine St.done ?_
    refine St.blkN ?_
    injection hj2 with hj2
    subst hj2
    refine St.thenN ?_
    exact St.hereE (A13, c13) ⟨rfl, rfl, rfl, rfl, rfl, trivial⟩ (fun _ w => ((.k (.k (.k (.k (.k (.k (.k (.k (.k (.k (.d (.d .z)))))))))))) : Keep _ _).sat ((((((((((w.front (.s (.s (.s (.s (.s (.s (.s (.s (.s (.s (.s .z)))))))))))).front (.s (.s (.s (.s (.s (.s (.s (.s (.s (.s (.s .z)))))))))))).front (.s (.s (.s (.s (.s (.s (.s (.s (.s (.s (.s .z)))))))))))).front (.s (.s (.s (.s (.s (.s (.s (.s (.s (.s (.s .z)))))))))))).front (.s (.s (.s (.s (.s (.s (.s (.s (.s (.s (.s .z)))))))))))).front (.s (.s (.s (.s (.s (.s (.s .z)))))))).front (.s (.s (.s (.s (.s (.s (.s (.s (.s (.s (.s .z)))))))))))).front (.s (.s (.s (.s (.s (.s (.s (.s (.s (.s (.s .z)))))))))))).front (.s (.s (.s (.s (.s (.s (.s (.s (.s (.s (.s .z)))))))))))).front (.s (.s (.s (.s (.s (.s (.s (.s (.s .z)))))))))))
   ·replace hj2 := bif_f hb2 hj2
    refine St.skip ?_
    refine St.blkN ?_
    injection hj2 with hj2
    subst hj2
    refine St.thenN ?_
    exact St.hereE (A8, c8) ⟨rfl, rfl, rfl, rfl, rfl, trivial⟩ (fun _ w => ((.d (.k (.k (.k (.k (.k (.k (.k (.k (.k (.k .z))))))))))) : Keep _ _).sat w)
  ·rintro ⟨A11, c11⟩
   refine St.region ?_
   refine St.p rfl rfl ?_
   refine St.p rfl rfl ?_
   refine St.done ?_
   refine St.thenN ?_
   refine St.round ?_
   refine St.prune (Γ' := [(1, _), (3, _), (4, _), (9, _), (10, _)]) ⟨rfl, rfl, rfl, rfl, rfl, trivial⟩ (.k (.k (.k (.k (.k (.k (.k (.k (.k (.k .z)))))))))) ?_
   refine St.seq ?_
   refine St.region ?_
   refine St.p rfl rfl ?_
   refine St.done ?_
   refine St.thenN ?_
   refine St.seq ?_
   refine St.condT rfl ?_
   refine St.skip ?_
   refine St.thenN ?_
   refine St.prune (Γ' := [(1, _), (3, _), (4, _), (9, _), (10, _)]) ⟨rfl, rfl, rfl, rfl, rfl, trivial⟩ (.k (.k (.k (.k (.k (.k (.k (.k (.k (.k .z)))))))))) ?_
   refine St.seq ?_
   obtain ⟨o3, hj3, h⟩ := bnd_e h
   refine St.cutE (fun (e3 : Option Addr × Nat) => [(1, .pointer (some ⟨g1, 0, none⟩)), (3, .slice (some ⟨g2, 0, none⟩) 7 7), (4, .slice e3.1 o3.1.length e3.2), (9, .agg (bx_aArr3T_Area r1 A5 c5 A6 c6 A7 c7).toArray), (10, .int .i64 2)]) (fun e3 => .res (OwnL eu8 5 e3.1 e3.2 o3.1) :: .ro (SlL e_Field A5 c5 r1.e0.Fields) :: .ro (SlL e_Field A6 c6 r1.e1.Fields) :: .ro (SlL e_Field A7 c7 r1.e2.Fields) :: .res (Box g2 5 [.int .u8 1, .int .u8 0, .int .u8 o1.2, .int .u8 o2.2, .int .u8 o3.2, .int .u8 0, .int .u8 0]) :: .res (Box g1 28 (bx_T_Info i_p0 A1 c1 A2 c2 A3 c3 A4 c4)) :: .ro (SlL e_Field A1 c1 i_p0.Chassis.Fields) :: .ro (SlL e_Field A2 c2 i_p0.Board.Fields) :: .ro (SlL e_Field A3 c3 i_p0.Product.Fields) :: .ro (SlL eu8 A4 c4 i_p0.Multi) :: R) ?_ ?_
   ·refine St.block ?_
    refine St.seq ?_
    refine St.region ?_
    refine St.p rfl rfl ?_
    refine St.p rfl rfl ?_
    refine St.alloc rfl rfl fun g5 => ?_
    refine St.p rfl rfl ?_
    refine St.store 0 rfl rfl rfl rfl rfl rfl .z rfl ?_
    refine St.done ?_
    refine St.thenN ?_
    refine St.prune (Γ' := [(1, _), (3, _), (4, _), (5, _), (6, _), (9, _), (10, _)]) ⟨rfl, rfl, rfl, rfl, rfl, rfl, rfl, trivial⟩ (.k (.k (.k (.k (.k (.k (.k (.k (.k (.k (.k .z))))))))))) ?_
    refine St.seq ?_
    refine St.region ?_
    refine St.p rfl rfl ?_
    refine St.loadB 0 rfl rfl (.head _) rfl rfl ?_
    refine St.done ?_
    refine St.thenN ?_
    refine St.prune (Γ' := [(1, _), (3, _), (4, _), (5, _), (6, _), (9, _), (10, _), (15, _)]) ⟨rfl, rfl, rfl, rfl, rfl, rfl, rfl, rfl, trivial⟩ (.k (.k (.k (.k (.k (.k (.k (.k (.k (.k (.k .z))))))))))) ?_
    refine St.cond _ rfl (fun hb3 => ?_) (fun hb3 => ?_)
    ·replace hj3 := bif_t hb3 hj3
     refine St.seq ?_
     refine St.region ?_
     iterate 8 refine St.p rfl rfl ?_
     refine St.ixB 4 rfl rfl rfl rfl rfl rfl rfl rfl rfl rfl ?_
     refine St.store 4 rfl rfl rfl rfl rfl rfl (.s (.s (.s (.s (.s .z))))) rfl ?_
     refine St.done ?_
     refine St.thenN ?_
     refine St.prune (Γ' := [(1, _), (3, _), (4, _), (5, _), (6, _), (9, _), (10, _)]) ⟨rfl, rfl, rfl, rfl, rfl, rfl, rfl, trivial⟩ (.k (.k (.k (.k (.k (.k (.k (.k (.k (.k (.k .z))))))))))) ?_
     refine St.region ?_
     refine St.p rfl rfl ?_
     refine St.loadB 0 rfl rfl (.tail _ (.head _)) rfl rfl ?_
     refine St.p rfl rfl ?_
     obtain ⟨r4, hr4, hj3⟩ := bnd_e hj3
     refine St.call (c_unitinfo_encodeArea hr4) ent48 rfl rfl rfl (fun _ w => Sat.dup (G := [.ro (SlL e_Field A7 c7 r1.e2.Fields)]) rfl ⟨(.tail _ (.tail _ (.tail _ (.tail _ (.tail _ (.head _)))))), trivial⟩ w) ?_
     rintro _ _ ⟨A15, c15, rfl, rfl⟩
     refine St.asrt (F' := .res (OwnL eu8 5 A15 c15 r4) :: .res (Box g2 5 [.int .u8 1, .int .u8 0, .int .u8 o1.2, .int .u8 o2.2, .int .u8 (IntKind.wrap .u8 (IntKind.wrap .i64 ((IntKind.wrap .i64 (8 + (o2.1.length : Int))).tdiv 8))), .int .u8 0, .int .u8 0]) :: .res (Box g5 25 (bx_T_Area r1.e2 A7 c7)) :: .res (OwnL eu8 5 A11 c11 o2.1) :: .ro (SlL e_Field A5 c5 r1.e0.Fields) :: .ro (SlL e_Field A6 c6 r1.e1.Fields) :: .ro (SlL e_Field A7 c7 r1.e2.Fields) :: .res (Box g1 28 (bx_T_Info i_p0 A1 c1 A2 c2 A3 c3 A4 c4)) :: .ro (SlL e_Field A1 c1 i_p0.Chassis.Fields) :: .ro (SlL e_Field A2 c2 i_p0.Board.Fields) :: .ro (SlL e_Field A3 c3 i_p0.Product.Fields) :: .ro (SlL eu8 A4 c4 i_p0.Multi) :: R) (fun _ w => w) ?_
     refine St.asrt (fun _ w => (w.front .z).meltL) ?_
     obtain ⟨l3, hl3, hj3⟩ := bnd_e hj3
     refine St.app (E := eu8) hl3 rfl rfl rfl (.s (.s (.s .z))) rfl rfl rfl rfl rfl rfl rfl rfl (srcL (.head _)) rfl rfl fun A16 c16 => ?_
     refine St.p rfl rfl ?_
     refine St.done ?_
     refine St.blkN ?_
     injection hj3 with hj3
     subst hj3
     refine St.thenN ?_
     exact St.hereE (A16, c16) ⟨rfl, rfl, rfl, rfl, rfl, trivial⟩ (fun _ w => ((.k (.k (.k (.k (.k (.k (.k (.k (.k (.k (.d (.d .z)))))))))))) : Keep _ _).sat ((((((((((w.front (.s (.s (.s (.s (.s (.s (.s (.s (.s (.s (.s .z)))))))))))).front (.s (.s (.s (.s (.s (.s (.s (.s (.s (.s (.s .z)))))))))))).front (.s (.s (.s (.s (.s (.s (.s (.s (.s (.s (.s .z)))))))))))).front (.s (.s (.s (.s (.s (.s (.s (.s (.s (.s (.s .z)))))))))))).front (.s (.s (.s (.s (.s (.s (.s (.s (.s (.s (.s .z)))))))))))).front (.s (.s (.s (.s (.s (.s (.s .z)))))))).front (.s (.s (.s (.s (.s (.s (.s (.s (.s (.s (.s .z)))))))))))).front (.s (.s (.s (.s (.s (.s (.s (.s (.s (.s (.s .z)))))))))))).front (.s (.s (.s (.s (.s (.s (.s (.s (.s (.s (.s .z)))))))))))).front (.s (.s (.s (.s (.s (.s (.s (.s (.s .z)))))))))))
    ·replace hj3 := bif_f hb3 hj3
     refine St.skip ?_
     refine St.blkN ?_
     injection hj3 with hj3
     subst hj3
     refine St.thenN ?_
     exact St.hereE (A11, c11) ⟨rfl, rfl, rfl, rfl, rfl, trivial⟩ (fun _ w => ((.d (.k (.k (.k (.k (.k (.k (.k (.k (.k (.k .z))))))))))) : Keep _ _).sat w)
   ·rintro ⟨A14, c14⟩
    refine St.region ?_
    refine St.p rfl rfl ?_
    refine St.p rfl rfl ?_
    refine St.done ?_
    refine St.thenN ?_
    refine St.round ?_
    refine St.prune (Γ' := [(1, _), (3, _), (4, _), (9, _), (10, _)]) ⟨rfl, rfl, rfl, rfl, rfl, trivial⟩ (.k (.k (.k (.k (.k (.k (.k (.k (.k (.k .z)))))))))) ?_
    refine St.seq ?_
    refine St.region ?_
    refine St.p rfl rfl ?_
    refine St.done ?_
    refine St.thenN ?_
    refine St.seq ?_
    refine St.condF rfl ?_
    refine St.exit ?_
    repeat (first | refine St.thenX ?_ | refine St.blkMiss rfl ?_)
    refine St.blkHit ?_
    refine St.thenN ?_
    refine St.prune (Γ' := [(1, _), (3, _), (4, _)]) ⟨rfl, rfl, rfl, trivial⟩ (.k (.d (.d (.d (.k (.k (.k (.k (.k (.k .z)))))))))) ?_
    refine St.seq ?_
    refine St.seq ?_
    refine St.region ?_
    refine St.p rfl rfl ?_
    refine St.loadB 12 rfl rfl (.tail _ (.tail _ (.head _))) rfl rfl ?_
    refine St.p rfl rfl ?_
    refine St.p rfl rfl ?_
    refine St.done ?_
    refine St.thenN ?_
    refine St.prune (Γ' := [(1, _), (3, _), (4, _), (34, _)]) ⟨rfl, rfl, rfl, rfl, trivial⟩ (.k (.k (.k (.k (.k (.k (.k .z))))))) ?_
    refine St.cond _ rfl (fun hb4 => ?_) (fun hb4 => ?_)
    ·replace h := bif_t hb4 h
     refine St.region ?_
     iterate 6 refine St.p rfl rfl ?_
     refine St.ixB 5 rfl rfl rfl rfl rfl rfl rfl rfl rfl rfl ?_
     refine St.store 5 rfl rfl rfl rfl rfl rfl (.s .z) rfl ?_
     refine St.done ?_
     refine St.thenN ?_
     refine St.prune (Γ' := [(1, _), (3, _), (4, _)]) ⟨rfl, rfl, rfl, trivial⟩ (.k (.k (.k (.k (.k (.k (.k .z))))))) ?_
     refine St.seq ?_
     refine St.regionX (iL [(.fl, 0), (.fl, 2), (.fl, 3), (.fl, 4), (.ef, 1), (.ef, 5), (.ef, 6), (.fl, 7)] .nil) (.res (Box g1 28 (bx_T_Info i_p0 A1 c1 A2 c2 A3 c3 A4 c4)) :: .ro (SlL e_Field A1 c1 i_p0.Chassis.Fields) :: .ro (SlL e_Field A2 c2 i_p0.Board.Fields) :: .ro (SlL e_Field A3 c3 i_p0.Product.Fields) :: .ro (SlL eu8 A4 c4 i_p0.Multi) :: R) mixed (by kernel_rfl) (fun _ w => ((.d (.d (.k (.k (.k (.k (.k .z))))))) : Keep _ _).sat w) ?_
     refine St.xfl (fun _ h => h) (Rd.p rfl) rfl ?_
     refine St.xfl (fun _ h => h) (Rd.p rfl) rfl ?_
     refine St.xfl (fun _ h => h) (Rd.p rfl) rfl ?_
     refine St.xfl (fun _ h => h) (Rd.loadB 12 rfl (.head _) rfl rfl) rfl ?_
     refine St.xef ?_
     refine St.asrt (fun _ w => (w.front .z).litL (E := eu8) (e := 5) [1, 0, o1.2, o2.2, o3.2, IntKind.wrap .u8 (IntKind.wrap .i64 ((IntKind.wrap .i64 (8 + (o3.1.length : Int))).tdiv 8)), 0] rfl rfl) ?_
     refine St.asrt (fun _ w => (w.front .z).meltL) ?_
     obtain ⟨r5, hr5, h⟩ := bnd_e h
     refine St.call (c_checksum_Seal8 hr5) ent50 rfl rfl rfl (fun _ w => Sat.dup (G := [.ro (SlL eu8 (some ⟨g2, 0, none⟩) ([1, 0, o1.2, o2.2, o3.2, IntKind.wrap .u8 (IntKind.wrap .i64 ((IntKind.wrap .i64 (8 + (o3.1.length : Int))).tdiv 8)), 0] : List Int).length ([1, 0, o1.2, o2.2, o3.2, IntKind.wrap .u8 (IntKind.wrap .i64 ((IntKind.wrap .i64 (8 + (o3.1.length : Int))).tdiv 8)), 0]))]) rfl ⟨(.head _), trivial⟩ w) ?_
     rintro _ _ ⟨A17, c17, rfl, rfl⟩
     refine St.asrt (F' := .res (OwnL eu8 5 A17 c17 r5) :: .ro (SlL eu8 (some ⟨g2, 0, none⟩) ([1, 0, o1.2, o2.2, o3.2, IntKind.wrap .u8 (IntKind.wrap .i64 ((IntKind.wrap .i64 (8 + (o3.1.length : Int))).tdiv 8)), 0] : List Int).length ([1, 0, o1.2, o2.2, o3.2, IntKind.wrap .u8 (IntKind.wrap .i64 ((IntKind.wrap .i64 (8 + (o3.1.length : Int))).tdiv 8)), 0])) :: .res (OwnL eu8 5 A14 c14 o3.1) :: .res (Box g1 28 (bx_T_Info i_p0 A1 c1 A2 c2 A3 c3 A4 c4)) :: .ro (SlL e_Field A1 c1 i_p0.Chassis.Fields) :: .ro (SlL e_Field A2 c2 i_p0.Board.Fields) :: .ro (SlL e_Field A3 c3 i_p0.Product.Fields) :: .ro (SlL eu8 A4 c4 i_p0.Multi) :: R) (fun _ w => w) ?_
     refine St.xk (fun _ w => ((.d (.d (.d (.k (.k (.k (.k (.k .z)))))))) : Keep _ _).sat w) ?_
     refine St.xef ?_
     refine St.buildSlice rfl rfl rfl rfl rfl rfl rfl rfl fun g6 => ?_
     refine St.xk (fun _ w => ((.d (.d (.d (.d (.k (.k (.k (.k (.k .z))))))))) : Keep _ _).sat w) ?_
     refine St.xef ?_
     refine St.asrt (fun _ w => (w.front (.s .z)).meltL) ?_
     refine St.asrt (fun _ w => (w.front (.s (.s (.s .z)))).meltL) ?_
     refine St.asrt (fun _ w => Sat.litC (ls := l_sl_u8) (e := 26) [(r5, ((A17, c17), ())), (o3.1, ((A14, c14), ())), (i_p0.Multi, ((A4, c4), ()))] rfl rfl rfl ⟨(.tail _ (.head _)), (.head _), (.tail _ (.tail _ (.tail _ (.tail _ (.tail _ (.tail _ (.tail _ (.head _)))))))), trivial⟩ (w.front (.s (.s .z)))) ?_
     refine St.asrt (fun _ w => (w.front .z).meltC) ?_
     obtain ⟨r6, hr6, h⟩ := bnd_e h
     refine St.call (c_slices_Concat__byte_byte hr6) ent49 rfl rfl rfl (fun _ w => Sat.dup (G := [.ro (Sl (codL l_sl_u8) (some ⟨g6, 0, none⟩) ([r5, o3.1, i_p0.Multi] : List (List Int)).length ([r5, o3.1, i_p0.Multi]))]) rfl ⟨(.head _), trivial⟩ w) ?_
     rintro _ _ ⟨A18, c18, rfl, rfl⟩
     refine St.asrt (F' := .res (OwnL eu8 5 A18 c18 r6) :: .ro (Sl (codL l_sl_u8) (some ⟨g6, 0, none⟩) ([r5, o3.1, i_p0.Multi] : List (List Int)).length ([r5, o3.1, i_p0.Multi])) :: .ro (SlL eu8 A14 c14 o3.1) :: .ro (SlL eu8 A17 c17 r5) :: .ro (SlL eu8 (some ⟨g2, 0, none⟩) ([1, 0, o1.2, o2.2, o3.2, IntKind.wrap .u8 (IntKind.wrap .i64 ((IntKind.wrap .i64 (8 + (o3.1.length : Int))).tdiv 8)), 0] : List Int).length ([1, 0, o1.2, o2.2, o3.2, IntKind.wrap .u8 (IntKind.wrap .i64 ((IntKind.wrap .i64 (8 + (o3.1.length : Int))).tdiv 8)), 0])) :: .res (Box g1 28 (bx_T_Info i_p0 A1 c1 A2 c2 A3 c3 A4 c4)) :: .ro (SlL e_Field A1 c1 i_p0.Chassis.Fields) :: .ro (SlL e_Field A2 c2 i_p0.Board.Fields) :: .ro (SlL e_Field A3 c3 i_p0.Product.Fields) :: .ro (SlL eu8 A4 c4 i_p0.Multi) :: R) (fun _ w => w) ?_
     refine St.xk (fun _ w => ((.d (.d (.d (.d (.d (.k (.k (.k (.k (.k .z)))))))))) : Keep _ _).sat w) ?_
     refine St.xfl (fun _ h => h) (Rd.p rfl) rfl ?_
     refine St.xdone ?_
     refine St.thenN ?_
     refine St.prune (Γ' := [(2, _)]) ⟨rfl, trivial⟩ (.k (.d (.d (.d (.d (.d (.d (.d (.d (.d .z)))))))))) ?_
     refine St.ret ?_
     repeat (first | refine St.thenR ?_ | refine St.blkR ?_)
     injection h with h
     subst h
     exact St.finR Tryd.results35 (.tmp rfl .nil) rfl [.res (OwnL eu8 5 A18 c18 r6)] ⟨A18, c18, rfl, rfl⟩ (fun _ w => ((.k .z) : Keep _ _).sat w)
    ·replace h := bif_f hb4 h
     refine St.skip ?_
     refine St.thenN ?_
     refine St.prune (Γ' := [(1, _), (3, _), (4, _)]) ⟨rfl, rfl, rfl, trivial⟩ (.k (.k (.k (.k (.k (.k (.k .z))))))) ?_
     refine St.seq ?_
     refine St.regionX (iL [(.fl, 0), (.fl, 2), (.fl, 3), (.fl, 4), (.ef, 1), (.ef, 5), (.ef, 6), (.fl, 7)] .nil) (.res (Box g1 28 (bx_T_Info i_p0 A1 c1 A2 c2 A3 c3 A4 c4)) :: .ro (SlL e_Field A1 c1 i_p0.Chassis.Fields) :: .ro (SlL e_Field A2 c2 i_p0.Board.Fields) :: .ro (SlL e_Field A3 c3 i_p0.Product.Fields) :: .ro (SlL eu8 A4 c4 i_p0.Multi) :: R) mixed (by kernel_rfl) (fun _ w => ((.d (.d (.k (.k (.k (.k (.k .z))))))) : Keep _ _).sat w) ?_
     refine St.xfl (fun _ h => h) (Rd.p rfl) rfl ?_
     refine St.xfl (fun _ h => h) (Rd.p rfl) rfl ?_
     refine St.xfl (fun _ h => h) (Rd.p rfl) rfl ?_
     refine St.xfl (fun _ h => h) (Rd.loadB 12 rfl (.head _) rfl rfl) rfl ?_
     refine St.xef ?_
     refine St.asrt (fun _ w => (w.front (.s .z)).litL (E := eu8) (e := 5) [1, 0, o1.2, o2.2, o3.2, 0, 0] rfl rfl) ?_
     refine St.asrt (fun _ w => (w.front .z).meltL) ?_
     obtain ⟨r7, hr7, h⟩ := bnd_e h
     refine St.call (c_checksum_Seal8 hr7) ent50 rfl rfl rfl (fun _ w => Sat.dup (G := [.ro (SlL eu8 (some ⟨g2, 0, none⟩) ([1, 0, o1.2, o2.2, o3.2, 0, 0] : List Int).length ([1, 0, o1.2, o2.2, o3.2, 0, 0]))]) rfl ⟨(.head _), trivial⟩ w) ?_
     rintro _ _ ⟨A19, c19, rfl, rfl⟩
     refine St.asrt (F' := .res (OwnL eu8 5 A19 c19 r7) :: .ro (SlL eu8 (some ⟨g2, 0, none⟩) ([1, 0, o1.2, o2.2, o3.2, 0, 0] : List Int).length ([1, 0, o1.2, o2.2, o3.2, 0, 0])) :: .res (OwnL eu8 5 A14 c14 o3.1) :: .res (Box g1 28 (bx_T_Info i_p0 A1 c1 A2 c2 A3 c3 A4 c4)) :: .ro (SlL e_Field A1 c1 i_p0.Chassis.Fields) :: .ro (SlL e_Field A2 c2 i_p0.Board.Fields) :: .ro (SlL e_Field A3 c3 i_p0.Product.Fields) :: .ro (SlL eu8 A4 c4 i_p0.Multi) :: R) (fun _ w => w) ?_
     refine St.xk (fun _ w => ((.d (.d (.d (.k (.k (.k (.k (.k .z)))))))) : Keep _ _).sat w) ?_
     refine St.xef ?_
     refine St.buildSlice rfl rfl rfl rfl rfl rfl rfl rfl fun g7 => ?_
     refine St.xk (fun _ w => ((.d (.d (.d (.d (.k (.k (.k (.k (.k .z))))))))) : Keep _ _).sat w) ?_
     refine St.xef ?_
     refine St.asrt (fun _ w => (w.front (.s .z)).meltL) ?_
     refine St.asrt (fun _ w => (w.front (.s (.s (.s .z)))).meltL) ?_
     refine St.asrt (fun _ w => Sat.litC (ls := l_sl_u8) (e := 26) [(r7, ((A19, c19), ())), (o3.1, ((A14, c14), ())), (i_p0.Multi, ((A4, c4), ()))] rfl rfl rfl ⟨(.tail _ (.head _)), (.head _), (.tail _ (.tail _ (.tail _ (.tail _ (.tail _ (.tail _ (.tail _ (.head _)))))))), trivial⟩ (w.front (.s (.s .z)))) ?_
     refine St.asrt (fun _ w => (w.front .z).meltC) ?_
     obtain ⟨r8, hr8, h⟩ := bnd_e h
     refine St.call (c_slices_Concat__byte_byte hr8) ent49 rfl rfl rfl (fun _ w => Sat.dup (G := [.ro (Sl (codL l_sl_u8) (some ⟨g7, 0, none⟩) ([r7, o3.1, i_p0.Multi] : List (List Int)).length ([r7, o3.1, i_p0.Multi]))]) rfl ⟨(.head _), trivial⟩ w) ?_
     rintro _ _ ⟨A20, c20, rfl, rfl⟩
     refine St.asrt (F' := .res (OwnL eu8 5 A20 c20 r8) :: .ro (Sl (codL l_sl_u8) (some ⟨g7, 0, none⟩) ([r7, o3.1, i_p0.Multi] : List (List Int)).length ([r7, o3.1, i_p0.Multi])) :: .ro (SlL eu8 A14 c14 o3.1) :: .ro (SlL eu8 A19 c19 r7) :: .ro (SlL eu8 (some ⟨g2, 0, none⟩) ([1, 0, o1.2, o2.2, o3.2, 0, 0] : List Int).length ([1, 0, o1.2, o2.2, o3.2, 0, 0])) :: .res (Box g1 28 (bx_T_Info i_p0 A1 c1 A2 c2 A3 c3 A4 c4)) :: .ro (SlL e_Field A1 c1 i_p0.Chassis.Fields) :: .ro (SlL e_Field A2 c2 i_p0.Board.Fields) :: .ro (SlL e_Field A3 c3 i_p0.Product.Fields) :: .ro (SlL eu8 A4 c4 i_p0.Multi) :: R) (fun _ w => w) ?_
     refine St.xk (fun _ w => ((.d (.d (.d (.d (.d (.k (.k (.k (.k (.k .z)))))))))) : Keep _ _).sat w) ?_
     refine St.xfl (fun _ h => h) (Rd.p rfl) rfl ?_
     refine St.xdone ?_
     refine St.thenN ?_
     refine St.prune (Γ' := [(2, _)]) ⟨rfl, trivial⟩ (.k (.d (.d (.d (.d (.d (.d (.d (.d (.d .z)))))))))) ?_
     refine St.ret ?_
     repeat (first | refine St.thenR ?_ | refine St.blkR ?_)
     injection h with h
     subst h
     exact St.finR Tryd.results35 (.tmp rfl .nil) rfl [.res (OwnL eu8 5 A20 c20 r8)] ⟨A20, c20, rfl, rfl⟩ (fun _ w => ((.k .z) : Keep _ _).sat w)

theorem ent16 : Ent Tryd.prog 16 := ⟨_, Tryd.func16, by kernel_rfl, by kernel_rfl⟩

noncomputable def m_unitinfo_Valid (i_p0 : T_Info) : Option Bool :=
 bnd (m_unitinfo_areas i_p0) fun r1 => bnd (m_unitinfo_validArea r1.e0 0) fun r2 => bif !r2 then (some false) else (bnd (m_unitinfo_validArea r1.e1 1) fun r3 => bif !r3 then (some false) else (bnd (m_unitinfo_validArea r1.e2 2) fun r4 => bif !r4 then (some false) else (bnd (m_unitinfo_encode i_p0) fun r5 => some (decide ((r5.length : Int) ≤ 2048)))))

theorem c_unitinfo_Valid {i_p0 : T_Info} {A1 : Option Addr} {c1 : Nat} {A2 : Option Addr} {c2 : Nat} {A3 : Option Addr} {c3 : Nat} {A4 : Option Addr} {c4 : Nat} {r : Bool} (h : m_unitinfo_Valid i_p0 = some r) :
  Fun Tryd.prog 16 [.agg (bx_T_Info i_p0 A1 c1 A2 c2 A3 c3 A4 c4).toArray] [.ro (SlL e_Field A1 c1 i_p0.Chassis.Fields), .ro (SlL e_Field A2 c2 i_p0.Board.Fields), .ro (SlL e_Field A3 c3 i_p0.Product.Fields), .ro (SlL eu8 A4 c4 i_p0.Multi), .ro (SlL ei64 (some ⟨0, 0, none⟩) 3 ([2, 5, 7] : List Int))] (Val (.bool r)) := by
 unfold m_unitinfo_Valid at h
 refine Fun.intro Tryd.func16 rfl rfl rfl fun w R => ?_
 refine St.seq ?_
 refine St.region ?_
 refine St.box rfl rfl fun g1 => ?_
 refine St.p rfl rfl ?_
 refine St.done ?_
 refine St.thenN ?_
 refine St.prune (Γ' := [(1, _)]) ⟨rfl, trivial⟩ (.k (.k (.k (.k (.k (.k .z)))))) ?_
 refine St.seq ?_
 refine St.seq ?_
 refine St.region ?_
 refine St.loadB 0 rfl rfl (.head _) rfl rfl ?_
 obtain ⟨r1, hr1, h⟩ := bnd_e h
 refine St.call (c_unitinfo_areas hr1) ent37 rfl rfl rfl (fun _ w => Sat.dup (G := [.ro (SlL e_Field A1 c1 i_p0.Chassis.Fields), .ro (SlL e_Field A2 c2 i_p0.Board.Fields), .ro (SlL e_Field A3 c3 i_p0.Product.Fields), .ro (SlL eu8 A4 c4 i_p0.Multi)]) rfl ⟨(.tail _ (.head _)), (.tail _ (.tail _ (.head _))), (.tail _ (.tail _ (.tail _ (.head _)))), (.tail _ (.tail _ (.tail _ (.tail _ (.head _))))), trivial⟩ w) ?_
 rintro _ _ ⟨A5, c5, A6, c6, A7, c7, rfl, rfl⟩
 refine St.asrt (F' := .ro (SlL e_Field A5 c5 r1.e0.Fields) :: .ro (SlL e_Field A6 c6 r1.e1.Fields) :: .ro (SlL e_Field A7 c7 r1.e2.Fields) :: .res (Box g1 28 (bx_T_Info i_p0 A1 c1 A2 c2 A3 c3 A4 c4)) :: .ro (SlL e_Field A1 c1 i_p0.Chassis.Fields) :: .ro (SlL e_Field A2 c2 i_p0.Board.Fields) :: .ro (SlL e_Field A3 c3 i_p0.Product.Fields) :: .ro (SlL eu8 A4 c4 i_p0.Multi) :: .ro (SlL ei64 (some ⟨0, 0, none⟩) 3 ([2, 5, 7] : List Int)) :: R) (fun _ w => w) ?_
 refine St.p rfl rfl ?_
 refine St.done ?_
 refine St.thenN ?_
 refine St.prune (Γ' := [(1, _), (6, _), (7, _)]) ⟨rfl, rfl, rfl, trivial⟩ (.k (.k (.k (.k (.k (.k (.k (.k (.k .z))))))))) ?_
 refine St.block ?_
 refine St.rounds 9 ?_
 refine St.round ?_
 refine St.seq ?_
 refine St.region ?_
 refine St.p rfl rfl ?_
 refine St.done ?_
 refine St.thenN ?_
 refine St.seq ?_
 refine St.condT rfl ?_
 refine St.skip ?_
 refine St.thenN ?_
 refine St.prune (Γ' := [(1, _), (6, _), (7, _)]) ⟨rfl, rfl, rfl, trivial⟩ (.k (.k (.k (.k (.k (.k (.k (.k (.k .z))))))))) ?_
 refine St.seq ?_
 refine St.block ?_
 refine St.seq ?_
 refine St.region ?_
 refine St.p rfl rfl ?_
 refine St.p rfl rfl ?_
 refine St.alloc rfl rfl fun g2 => ?_
 refine St.p rfl rfl ?_
 refine St.store 0 rfl rfl rfl rfl rfl rfl .z rfl ?_
 refine St.done ?_
 refine St.thenN ?_
 refine St.prune (Γ' := [(1, _), (3, _), (4, _), (6, _), (7, _)]) ⟨rfl, rfl, rfl, rfl, rfl, trivial⟩ (.k (.k (.k (.k (.k (.k (.k (.k (.k (.k .z)))))))))) ?_
 refine St.seq ?_
 refine St.region ?_
 refine St.loadB 0 rfl rfl (.head _) rfl rfl ?_
 refine St.p rfl rfl ?_
 obtain ⟨r2, hr2, h⟩ := bnd_e h
 refine St.callV (c_unitinfo_validArea hr2) ent38 rfl rfl rfl rfl ⟨(.tail _ (.head _)), (.tail _ (.tail _ (.tail _ (.tail _ (.tail _ (.tail _ (.tail _ (.tail _ (.tail _ (.head _)))))))))), trivial⟩ ?_
 refine St.p rfl rfl ?_
 refine St.done ?_
 refine St.thenN ?_
 refine St.prune (Γ' := [(1, _), (6, _), (7, _), (14, _)]) ⟨rfl, rfl, rfl, rfl, trivial⟩ (.d (.k (.k (.k (.k (.k (.k (.k (.k (.k .z)))))))))) ?_
 refine St.cond _ rfl (fun hb1 => ?_) (fun hb1 => ?_)
 ·replace h := bif_t hb1 h
  refine St.seq ?_
  refine St.region ?_
  refine St.p rfl rfl ?_
  refine St.done ?_
  refine St.thenN ?_
  refine St.prune (Γ' := [(2, _)]) ⟨rfl, trivial⟩ (.d (.d (.d (.d (.d (.d (.d (.d (.k .z))))))))) ?_
  refine St.ret ?_
  repeat (first | refine St.thenR ?_ | refine St.blkR ?_)
  injection h with h
  subst h
  exact St.finR Tryd.results16 (.tmp rfl .nil) rfl [] ⟨rfl, rfl⟩ (fun _ w => ((.d .z) : Keep _ _).sat w)
 ·replace h := bif_f hb1 h
  refine St.skip ?_
  refine St.blkN ?_
  refine St.thenN ?_
  refine St.prune (Γ' := [(1, _), (6, _), (7, _)]) ⟨rfl, rfl, rfl, trivial⟩ (.k (.k (.k (.k (.k (.k (.k (.k (.k .z))))))))) ?_
  refine St.region ?_
  refine St.p rfl rfl ?_
  refine St.p rfl rfl ?_
  refine St.done ?_
  refine St.thenN ?_
  refine St.round ?_
  refine St.prune (Γ' := [(1, _), (6, _), (7, _)]) ⟨rfl, rfl, rfl, trivial⟩ (.k (.k (.k (.k (.k (.k (.k (.k (.k .z))))))))) ?_
  refine St.seq ?_
  refine St.region ?_
  refine St.p rfl rfl ?_
  refine St.done ?_
  refine St.thenN ?_
  refine St.seq ?_
  refine St.condT rfl ?_
  refine St.skip ?_
  refine St.thenN ?_
  refine St.prune (Γ' := [(1, _), (6, _), (7, _)]) ⟨rfl, rfl, rfl, trivial⟩ (.k (.k (.k (.k (.k (.k (.k (.k (.k .z))))))))) ?_
  refine St.seq ?_
  refine St.block ?_
  refine St.seq ?_
  refine St.region ?_
  refine St.p rfl rfl ?_
  refine St.p rfl rfl ?_
  refine St.alloc rfl rfl fun g3 => ?_
  refine St.p rfl rfl ?_
  refine St.store 0 rfl rfl rfl rfl rfl rfl .z rfl ?_
  refine St.done ?_
  refine St.thenN ?_
  refine St.prune (Γ' := [(1, _), (3, _), (4, _), (6, _), (7, _)]) ⟨rfl, rfl, rfl, rfl, rfl, trivial⟩ (.k (.k (.k (.k (.k (.k (.k (.k (.k (.k .z)))))))))) ?_
  refine St.seq ?_
  refine St.region ?_
  refine St.loadB 0 rfl rfl (.head _) rfl rfl ?_
  refine St.p rfl rfl ?_
  obtain ⟨r3, hr3, h⟩ := bnd_e h
  refine St.callV (c_unitinfo_validArea hr3) ent38 rfl rfl rfl rfl ⟨(.tail _ (.tail _ (.head _))), (.tail _ (.tail _ (.tail _ (.tail _ (.tail _ (.tail _ (.tail _ (.tail _ (.tail _ (.head _)))))))))), trivial⟩ ?_
  refine St.p rfl rfl ?_
  refine St.done ?_
  refine St.thenN ?_
  refine St.prune (Γ' := [(1, _), (6, _), (7, _), (14, _)]) ⟨rfl, rfl, rfl, rfl, trivial⟩ (.d (.k (.k (.k (.k (.k (.k (.k (.k (.k .z)))))))))) ?_
  refine St.cond _ rfl (fun hb2 => ?_) (fun hb2 => ?_)
  ·replace h := bif_t hb2 h
   refine St.seq ?_
   refine St.region ?_
   refine St.p rfl rfl ?_
   refine St.done ?_
   refine St.thenN ?_
   refine St.prune (Γ' := [(2, _)]) ⟨rfl, trivial⟩ (.d (.d (.d (.d (.d (.d (.d (.d (.k .z))))))))) ?_
   refine St.ret ?_
   repeat (first | refine St.thenR ?_ | refine St.blkR ?_)
   injection h with h
   subst h
   exact St.finR Tryd.results16 (.tmp rfl .nil) rfl [] ⟨rfl, rfl⟩ (fun _ w => ((.d .z) : Keep _ _).sat w)
  ·replace h := bif_f hb2 h
   refine St.skip ?_
   refine St.blkN ?_
   refine St.thenN ?_
   refine St.prune (Γ' := [(1, _), (6, _), (7, _)]) ⟨rfl, rfl, rfl, trivial⟩ (.k (.k (.k (.k (.k (.k (.k (.k (.k .z))))))))) ?_
   refine St.region ?_
   refine St.p rfl rfl ?_
   refine St.p rfl rfl ?_
   refine St.done ?_
   refine St.thenN ?_
   refine St.round ?_
   refine St.prune (Γ' := [(1, _), (6, _), (7, _)]) ⟨rfl, rfl, rfl, trivial⟩ (.k (.k (.k (.k (.k (.k (.k (.k (.k .z))))))))) ?_
   refine St.seq ?_
   refine St.region ?_
   refine St.p rfl rfl ?_
   refine St.done ?_
   refine St.thenN ?_
   refine St.seq ?_
   refine St.condT rfl ?_
   refine St.skip ?_
   refine St.thenN ?_
   refine St.prune (Γ' := [(1, _), (6, _), (7, _)]) ⟨rfl, rfl, rfl, trivial⟩ (.k (.k (.k (.k (.k (.k (.k (.k (.k .z))))))))) ?_
   refine St.seq ?_
   refine St.block ?_
   refine St.seq ?_
   refine St.region ?_
   refine St.p rfl rfl ?_
   refine St.p rfl rfl ?_
   refine St.alloc rfl rfl fun g4 => ?_
   refine St.p rfl rfl ?_
   refine St.store 0 rfl rfl rfl rfl rfl rfl .z rfl ?_
   refine St.done ?_
   refine St.thenN ?_
   refine St.prune (Γ' := [(1, _), (3, _), (4, _), (6, _), (7, _)]) ⟨rfl, rfl, rfl, rfl, rfl, trivial⟩ (.k (.k (.k (.k (.k (.k (.k (.k (.k (.k .z)))))))))) ?_
   refine St.seq ?_
   refine St.region ?_
   refine St.loadB 0 rfl rfl (.head _) rfl rfl ?_
   refine St.p rfl rfl ?_
   obtain ⟨r4, hr4, h⟩ := bnd_e h
   refine St.callV (c_unitinfo_validArea hr4) ent38 rfl rfl rfl rfl ⟨(.tail _ (.tail _ (.tail _ (.head _)))), (.tail _ (.tail _ (.tail _ (.tail _ (.tail _ (.tail _ (.tail _ (.tail _ (.tail _ (.head _)))))))))), trivial⟩ ?_
   refine St.p rfl rfl ?_
   refine St.done ?_
   refine St.thenN ?_
   refine St.prune (Γ' := [(1, _), (6, _), (7, _), (14, _)]) ⟨rfl, rfl, rfl, rfl, trivial⟩ (.d (.k (.k (.k (.k (.k (.k (.k (.k (.k .z)))))))))) ?_
   refine St.cond _ rfl (fun hb3 => ?_) (fun hb3 => ?_)
   ·replace h := bif_t hb3 h
    refine St.seq ?_
    refine St.region ?_
    refine St.p rfl rfl ?_
    refine St.done ?_
    refine St.thenN ?_
    refine St.prune (Γ' := [(2, _)]) ⟨rfl, trivial⟩ (.d (.d (.d (.d (.d (.d (.d (.d (.k .z))))))))) ?_
    refine St.ret ?_
    repeat (first | refine St.thenR ?_ | refine St.blkR ?_)
    injection h with h
    subst h
    exact St.finR Tryd.results16 (.tmp rfl .nil) rfl [] ⟨rfl, rfl⟩ (fun _ w => ((.d .z) : Keep _ _).sat w)
   ·replace h := bif_f hb3 h
    refine St.skip ?_
    refine St.blkN ?_
    refine St.thenN ?_
    refine St.prune (Γ' := [(1, _), (6, _), (7, _)]) ⟨rfl, rfl, rfl, trivial⟩ (.k (.k (.k (.k (.k (.k (.k (.k (.k .z))))))))) ?_
    refine St.region ?_
    refine St.p rfl rfl ?_
    refine St.p rfl rfl ?_
    refine St.done ?_
    refine St.thenN ?_
    refine St.round ?_
    refine St.prune (Γ' := [(1, _), (6, _), (7, _)]) ⟨rfl, rfl, rfl, trivial⟩ (.k (.k (.k (.k (.k (.k (.k (.k (.k .z))))))))) ?_
    refine St.seq ?_
    refine St.region ?_
    refine St.p rfl rfl ?_
    refine St.done ?_
    refine St.thenN ?_
    refine St.seq ?_
    refine St.condF rfl ?_
    refine St.exit ?_
    repeat (first | refine St.thenX ?_ | refine St.blkMiss rfl ?_)
    refine St.blkHit ?_
    refine St.thenN ?_
    refine St.prune (Γ' := [(1, _)]) ⟨rfl, trivial⟩ (.d (.d (.d (.k (.k (.k (.k (.k (.k .z))))))))) ?_
    refine St.seq ?_
    refine St.region ?_
    refine St.loadB 0 rfl rfl (.head _) rfl rfl ?_
    obtain ⟨r5, hr5, h⟩ := bnd_e h
    refine St.call (c_unitinfo_encode hr5) ent35 rfl rfl rfl (fun _ w => Sat.dup (G := [.ro (SlL e_Field A1 c1 i_p0.Chassis.Fields), .ro (SlL e_Field A2 c2 i_p0.Board.Fields), .ro (SlL e_Field A3 c3 i_p0.Product.Fields), .ro (SlL eu8 A4 c4 i_p0.Multi)]) rfl ⟨(.tail _ (.head _)), (.tail _ (.tail _ (.head _))), (.tail _ (.tail _ (.tail _ (.head _)))), (.tail _ (.tail _ (.tail _ (.tail _ (.head _))))), trivial⟩ w) ?_
    rintro _ _ ⟨A8, c8, rfl, rfl⟩
    refine St.asrt (F' := .res (OwnL eu8 5 A8 c8 r5) :: .res (Box g1 28 (bx_T_Info i_p0 A1 c1 A2 c2 A3 c3 A4 c4)) :: .ro (SlL e_Field A1 c1 i_p0.Chassis.Fields) :: .ro (SlL e_Field A2 c2 i_p0.Board.Fields) :: .ro (SlL e_Field A3 c3 i_p0.Product.Fields) :: .ro (SlL eu8 A4 c4 i_p0.Multi) :: .ro (SlL ei64 (some ⟨0, 0, none⟩) 3 ([2, 5, 7] : List Int)) :: R) (fun _ w => w) ?_
    iterate 3 refine St.p rfl rfl ?_
    refine St.done ?_
    refine St.thenN ?_
    refine St.prune (Γ' := [(2, _)]) ⟨rfl, trivial⟩ (.d (.d (.d (.d (.d (.d (.k .z))))))) ?_
    refine St.ret ?_
    repeat (first | refine St.thenR ?_ | refine St.blkR ?_)
    injection h with h
    subst h
    exact St.finR Tryd.results16 (.tmp rfl .nil) rfl [] ⟨rfl, rfl⟩ (fun _ w => ((.d .z) : Keep _ _).sat w)

theorem ent14 : Ent Tryd.prog 14 := ⟨_, Tryd.func14, by kernel_rfl, by kernel_rfl⟩

noncomputable def m_unitinfo_Encode (i_p0 : T_Info) : Option ((List Int) × Int) :=
 bnd (m_unitinfo_Valid i_p0) fun r1 => bif !r1 then (some ([], 1)) else (bnd (m_unitinfo_encode i_p0) fun r2 => some (r2, 0))

theorem c_unitinfo_Encode {i_p0 : T_Info} {A1 : Option Addr} {c1 : Nat} {A2 : Option Addr} {c2 : Nat} {A3 : Option Addr} {c3 : Nat} {A4 : Option Addr} {c4 : Nat} {r : ((List Int) × Int)} (h : m_unitinfo_Encode i_p0 = some r) :
  Fun Tryd.prog 14 [.agg (bx_T_Info i_p0 A1 c1 A2 c2 A3 c3 A4 c4).toArray] [.ro (SlL e_Field A1 c1 i_p0.Chassis.Fields), .ro (SlL e_Field A2 c2 i_p0.Board.Fields), .ro (SlL e_Field A3 c3 i_p0.Product.Fields), .ro (SlL eu8 A4 c4 i_p0.Multi), .ro (SlL ei64 (some ⟨0, 0, none⟩) 3 ([2, 5, 7] : List Int))] (fun v_ F_ => ∃ (A1 : Option Addr) (c1 : Nat), v_ = .tuple #[.slice A1 r.1.length c1, .int .i64 r.2] ∧ F_ = [.res (OwnL eu8 5 A1 c1 r.1)]) := by
 unfold m_unitinfo_Encode at h
 refine Fun.intro Tryd.func14 rfl rfl rfl fun w R => ?_
 refine St.seq ?_
 refine St.region ?_
 refine St.box rfl rfl fun g1 => ?_
 refine St.p rfl rfl ?_
 refine St.p rfl rfl ?_
 refine St.done ?_
 refine St.thenN ?_
 refine St.prune (Γ' := [(1, _)]) ⟨rfl, trivial⟩ (.k (.k (.k (.k (.k (.k .z)))))) ?_
 refine St.seq ?_
 refine St.seq ?_
 refine St.region ?_
 refine St.loadB 0 rfl rfl (.head _) rfl rfl ?_
 obtain ⟨r1, hr1, h⟩ := bnd_e h
 refine St.callV (c_unitinfo_Valid hr1) ent16 rfl rfl rfl rfl ⟨(.tail _ (.head _)), (.tail _ (.tail _ (.head _))), (.tail _ (.tail _ (.tail _ (.head _)))), (.tail _ (.tail _ (.tail _ (.tail _ (.head _))))), (.tail _ (.tail _ (.tail _ (.tail _ (.tail _ (.head _)))))), trivial⟩ ?_
 refine St.p rfl rfl ?_
 refine St.done ?_
 refine St.thenN ?_
 refine St.prune (Γ' := [(1, _), (6, _)]) ⟨rfl, rfl, trivial⟩ (.k (.k (.k (.k (.k (.k .z)))))) ?_
 refine St.cond _ rfl (fun hb1 => ?_) (fun hb1 => ?_)
 ·replace h := bif_t hb1 h
  refine St.seq ?_
  refine St.region ?_
  refine St.p rfl rfl ?_
  refine St.p rfl rfl ?_
  refine St.done ?_
  refine St.thenN ?_
  refine St.prune (Γ' := [(2, _), (3, _)]) ⟨rfl, rfl, trivial⟩ (.d (.d (.d (.d (.d (.k .z)))))) ?_
  refine St.ret ?_
  repeat (first | refine St.thenR ?_ | refine St.blkR ?_)
  refine St.asrt (fun _ w => w.nilL eu8 5) ?_
  injection h with h
  subst h
  exact St.finR Tryd.results14 (.tmp rfl (.tmp rfl .nil)) rfl [.res (OwnL eu8 5 none 0 ([] : List Int))] ⟨none, 0, rfl, rfl⟩ (fun _ w => ((.k (.d .z)) : Keep _ _).sat w)
 ·replace h := bif_f hb1 h
  refine St.skip ?_
  refine St.thenN ?_
  refine St.prune (Γ' := [(1, _)]) ⟨rfl, trivial⟩ (.k (.k (.k (.k (.k (.k .z)))))) ?_
  refine St.seq ?_
  refine St.region ?_
  refine St.loadB 0 rfl rfl (.head _) rfl rfl ?_
  obtain ⟨r2, hr2, h⟩ := bnd_e h
  refine St.call (c_unitinfo_encode hr2) ent35 rfl rfl rfl (fun _ w => Sat.dup (G := [.ro (SlL e_Field A1 c1 i_p0.Chassis.Fields), .ro (SlL e_Field A2 c2 i_p0.Board.Fields), .ro (SlL e_Field A3 c3 i_p0.Product.Fields), .ro (SlL eu8 A4 c4 i_p0.Multi)]) rfl ⟨(.tail _ (.head _)), (.tail _ (.tail _ (.head _))), (.tail _ (.tail _ (.tail _ (.head _)))), (.tail _ (.tail _ (.tail _ (.tail _ (.head _))))), trivial⟩ w) ?_
  rintro _ _ ⟨A5, c5, rfl, rfl⟩
  refine St.asrt (F' := .res (OwnL eu8 5 A5 c5 r2) :: .res (Box g1 28 (bx_T_Info i_p0 A1 c1 A2 c2 A3 c3 A4 c4)) :: .ro (SlL e_Field A1 c1 i_p0.Chassis.Fields) :: .ro (SlL e_Field A2 c2 i_p0.Board.Fields) :: .ro (SlL e_Field A3 c3 i_p0.Product.Fields) :: .ro (SlL eu8 A4 c4 i_p0.Multi) :: .ro (SlL ei64 (some ⟨0, 0, none⟩) 3 ([2, 5, 7] : List Int)) :: R) (fun _ w => w) ?_
  refine St.p rfl rfl ?_
  refine St.p rfl rfl ?_
  refine St.done ?_
  refine St.thenN ?_
  refine St.prune (Γ' := [(2, _), (3, _)]) ⟨rfl, rfl, trivial⟩ (.k (.d (.d (.d (.d (.d (.k .z))))))) ?_
  refine St.ret ?_
  repeat (first | refine St.thenR ?_ | refine St.blkR ?_)
  injection h with h
  subst h
  exact St.finR Tryd.results14 (.tmp rfl (.tmp rfl .nil)) rfl [.res (OwnL eu8 5 A5 c5 r2)] ⟨A5, c5, rfl, rfl⟩ (fun _ w => ((.k (.d .z)) : Keep _ _).sat w)

theorem ent18 : Ent Tryd.prog 18 := ⟨_, Tryd.func18, by kernel_rfl, by kernel_rfl⟩

noncomputable def m_ref01_Same (a_p0 : (List Int)) (b_p1 : (List Int)) : Option Bool :=
 bif ((a_p0.length : Int) != (b_p1.length : Int)) then (some false) else (bnd (loopM (τ := Bool ⊕ Unit) (fun (s1 : Int) => bif decide (s1 < (a_p0.length : Int)) then (bnd (elt a_p0 s1) fun x1 => bnd (elt b_p1 s1) fun x2 => bif (x1 != x2) then (some (.done (.inl false))) else (some (.next (IntKind.wrap .i64 (s1 + 1))))) else (some (.done (.inr ())))) 0) fun o1 => retOr o1 fun o2 => some true)

theorem c_ref01_Same {a_p0 : (List Int)} {b_p1 : (List Int)} {A1 : Option Addr} {c1 : Nat} {A2 : Option Addr} {c2 : Nat} {r : Bool} (h : m_ref01_Same a_p0 b_p1 = some r) :
  Fun Tryd.prog 18 [.slice A1 a_p0.length c1, .slice A2 b_p1.length c2] [.ro (SlL eu8 A1 c1 a_p0), .ro (SlL eu8 A2 c2 b_p1)] (Val (.bool r)) := by
 unfold m_ref01_Same at h
 refine Fun.intro Tryd.func18 rfl rfl rfl fun w R => ?_
 refine St.seq ?_
 refine St.region ?_
 refine St.p rfl rfl ?_
 refine St.done ?_
 refine St.thenN ?_
 refine St.prune (Γ' := [(0, _), (1, _)]) ⟨rfl, rfl, trivial⟩ (.k (.k .z)) ?_
 refine St.seq ?_
 refine St.seq ?_
 refine St.region ?_
 iterate 5 refine St.p rfl rfl ?_
 refine St.done ?_
 refine St.thenN ?_
 refine St.prune (Γ' := [(0, _), (1, _), (10, _)]) ⟨rfl, rfl, rfl, trivial⟩ (.k (.k .z)) ?_
 refine St.cond _ rfl (fun hb1 => ?_) (fun hb1 => ?_)
 ·replace h := bif_t hb1 h
  refine St.seq ?_
  refine St.region ?_
  refine St.p rfl rfl ?_
  refine St.done ?_
  refine St.thenN ?_
  refine St.prune (Γ' := [(4, _)]) ⟨rfl, trivial⟩ (.d (.d .z)) ?_
  refine St.ret ?_
  repeat (first | refine St.thenR ?_ | refine St.blkR ?_)
  injection h with h
  subst h
  exact St.finR Tryd.results18 (.tmp rfl .nil) rfl [] ⟨rfl, rfl⟩ (fun _ w => (.z : Keep _ _).sat w)
 ·replace h := bif_f hb1 h
  refine St.skip ?_
  refine St.thenN ?_
  refine St.prune (Γ' := [(0, _), (1, _)]) ⟨rfl, rfl, trivial⟩ (.k (.k .z)) ?_
  refine St.seq ?_
  refine St.seq ?_
  refine St.region ?_
  refine St.p rfl rfl ?_
  refine St.done ?_
  refine St.thenN ?_
  obtain ⟨o1, hl1, h⟩ := bnd_e h
  refine St.cutI (fun (o2 : Unit) (e2 : Unit) => []) (fun o2 e2 => R) (fun o2 => o1 = .inr o2) ?_ ?_
  ·refine St.block ?_
   refine St.loop hl1 (fun (s1 : Int) (e1 : Unit) => [(0, .slice A1 a_p0.length c1), (1, .slice A2 b_p1.length c2), (5, .int .i64 s1)]) (fun s1 e1 => .ro (SlL eu8 A1 c1 a_p0) :: .ro (SlL eu8 A2 c2 b_p1) :: R) (fun _ _ => True) () trivial ⟨rfl, rfl, rfl, trivial⟩ (fun _ w => ((.k (.k .z)) : Keep _ _).sat w) ?_
   rintro s1 e1 - hit1
   obtain ⟨st1, hm1, hd1⟩ := iter_e hit1
   have h1 := hm1
   refine St.seq ?_
   refine St.seq ?_
   refine St.region ?_
   iterate 4 refine St.p rfl rfl ?_
   refine St.done ?_
   refine St.thenN ?_
   refine St.prune (Γ' := [(0, _), (1, _), (5, _), (14, _)]) ⟨rfl, rfl, rfl, rfl, trivial⟩ (.k (.k .z)) ?_
   refine St.cond _ rfl (fun hb2 => ?_) (fun hb2 => ?_)
   ·replace h1 := bif_t hb2 h1
    refine St.skip ?_
    refine St.thenN ?_
    refine St.prune (Γ' := [(0, _), (1, _), (5, _)]) ⟨rfl, rfl, rfl, trivial⟩ (.k (.k .z)) ?_
    refine St.seq ?_
    refine St.block ?_
    refine St.seq ?_
    refine St.regionF mixed (by kernel_rfl) ?_
    refine St.p rfl rfl ?_
    refine St.p rfl rfl ?_
    obtain ⟨x1, hx1, h1⟩ := bnd_e h1
    refine St.ixL hx1 rfl rfl rfl (.head _) rfl rfl rfl rfl rfl fun b1 ob1 => ?_
    refine St.load ob1 0 rfl rfl (.head _) rfl rfl ?_
    refine St.p rfl rfl ?_
    refine St.p rfl rfl ?_
    obtain ⟨x2, hx2, h1⟩ := bnd_e h1
    refine St.ixL hx2 rfl rfl rfl (.tail _ (.tail _ (.head _))) rfl rfl rfl rfl rfl fun b2 ob2 => ?_
    refine St.load ob2 0 rfl rfl (.head _) rfl rfl ?_
    refine St.p rfl rfl ?_
    refine St.doneQ ?_
    refine St.thenN ?_
    refine St.prune (Γ' := [(0, _), (1, _), (5, _), (25, _)]) ⟨rfl, rfl, rfl, rfl, trivial⟩ (.d (.d (.k (.k .z)))) ?_
    refine St.cond _ rfl (fun hb3 => ?_) (fun hb3 => ?_)
    ·replace h1 := bif_t hb3 h1
     refine St.seq ?_
     refine St.region ?_
     refine St.p rfl rfl ?_
     refine St.done ?_
     refine St.thenN ?_
     refine St.prune (Γ' := [(4, _)]) ⟨rfl, trivial⟩ (.d (.d .z)) ?_
     refine St.ret ?_
     repeat (first | refine St.thenR ?_ | refine St.blkR ?_)
     injection h1 with h1
     subst h1
     have ho := hd1 _ rfl
     subst ho
     have h : some _ = some _ := h
     injection h with h
     subst h
     exact St.finR Tryd.results18 (.tmp rfl .nil) rfl [] ⟨rfl, rfl⟩ (fun _ w => (.z : Keep _ _).sat w)
    ·replace h1 := bif_f hb3 h1
     refine St.skip ?_
     refine St.blkN ?_
     refine St.thenN ?_
     refine St.prune (Γ' := [(0, _), (1, _), (5, _)]) ⟨rfl, rfl, rfl, trivial⟩ (.k (.k .z)) ?_
     refine St.region ?_
     iterate 3 refine St.p rfl rfl ?_
     refine St.done ?_
     injection h1 with h1
     subst h1
     refine St.thenN ?_
     exact St.again _ () hm1 trivial ⟨rfl, rfl, rfl, trivial⟩ (fun _ w => ((.k (.k .z)) : Keep _ _).sat w)
   ·replace h1 := bif_f hb2 h1
    refine St.exit ?_
    repeat (first | refine St.thenX ?_ | refine St.blkMiss rfl ?_)
    refine St.blkHit ?_
    injection h1 with h1
    subst h1
    have ho := hd1 _ rfl
    subst ho
    refine St.thenN ?_
    exact St.hereI () () rfl trivial (fun _ w => ((.d (.d .z)) : Keep _ _).sat w)
  ·rintro o2 e2 ho
   subst ho
   have h : _ = some _ := h
   refine St.seq ?_
   refine St.region ?_
   refine St.p rfl rfl ?_
   refine St.done ?_
   refine St.thenN ?_
   refine St.ret ?_
   repeat (first | refine St.thenR ?_ | refine St.blkR ?_)
   injection h with h
   subst h
   exact St.finR Tryd.results18 (.tmp rfl .nil) rfl [] ⟨rfl, rfl⟩ (fun _ w => (.z : Keep _ _).sat w)

theorem ent10 : Ent Tryd.prog 10 := ⟨_, Tryd.func10, by kernel_rfl, by kernel_rfl⟩

noncomputable def m_law17_awake  : Option Bool :=
 bnd (m_unitinfo_Encode (⟨(⟨true, 23, 0, [(⟨3, ⟨#[]⟩⟩ : T_Field), (⟨3, ⟨#[]⟩⟩ : T_Field)]⟩ : T_Area), (⟨false, 0, 0, []⟩ : T_Area), (⟨false, 0, 0, []⟩ : T_Area), []⟩ : T_Info)) fun r1 => bnd ((bif (r1.2 == 0) then (bif ((r1.1.length : Int) == 16) then (bnd (sub r1.1 8 (r1.1.length : Int)) fun l1 => bnd (m_ref01_Same l1 ([1, 1, 23, 192, 192, 193, 0, 166])) fun r2 => some r2) else (some false)) else (some false) : Option Bool)) fun o1 => some o1

theorem c_law17_awake  {r : Bool} (h : m_law17_awake = some r) :
  Fun Tryd.prog 10 [] [.ro (SlL ei64 (some ⟨0, 0, none⟩) 3 ([2, 5, 7] : List Int))] (Val (.bool r)) := by
 unfold m_law17_awake at h
 refine Fun.intro Tryd.func10 rfl rfl rfl fun w R => ?_
 refine St.seq ?_
 refine St.region ?_
 refine St.p rfl rfl ?_
 refine St.done ?_
 refine St.thenN ?_
 refine St.prune (Γ' := []) trivial (.k .z) ?_
 refine St.seq ?_
 refine St.region ?_
 refine St.p rfl rfl ?_
 refine St.alloc rfl rfl fun g1 => ?_
 refine St.store 0 rfl rfl rfl rfl rfl rfl .z rfl ?_
 refine St.done ?_
 refine St.thenN ?_
 refine St.prune (Γ' := [(1, _)]) ⟨rfl, trivial⟩ (.k (.k .z)) ?_
 refine St.seq ?_
 refine St.region ?_
 refine St.loadB 0 rfl rfl (.head _) rfl rfl ?_
 refine St.loadB 0 rfl rfl (.head _) rfl rfl ?_
 refine St.buildSlice rfl rfl rfl rfl rfl rfl rfl rfl fun g2 => ?_
 refine St.p rfl rfl ?_
 refine St.p rfl rfl ?_
 refine St.asrt (fun _ w => (w.front .z).litL (E := e_Field) (e := 60) [(⟨3, ⟨#[]⟩⟩ : T_Field), (⟨3, ⟨#[]⟩⟩ : T_Field)] rfl rfl) ?_
 refine St.asrt (fun _ w => (w.front .z).meltL) ?_
 refine St.asrt (fun _ w => w.nilSl (cod e_Field)) ?_
 refine St.asrt (fun _ w => w.nilSl (cod e_Field)) ?_
 refine St.asrt (fun _ w => w.nilSl (cod eu8)) ?_
 obtain ⟨r1, hr1, h⟩ := bnd_e h
 refine St.call (c_unitinfo_Encode hr1) ent14 rfl rfl rfl (fun _ w => Sat.dup (G := [.ro (SlL e_Field (some ⟨g2, 0, none⟩) ([(⟨3, ⟨#[]⟩⟩ : T_Field), (⟨3, ⟨#[]⟩⟩ : T_Field)] : List T_Field).length ([(⟨3, ⟨#[]⟩⟩ : T_Field), (⟨3, ⟨#[]⟩⟩ : T_Field)])), .ro (SlL e_Field none 0 ([] : List T_Field)), .ro (SlL e_Field none 0 ([] : List T_Field)), .ro (SlL eu8 none 0 ([] : List Int)), .ro (SlL ei64 (some ⟨0, 0, none⟩) 3 ([2, 5, 7] : List Int))]) rfl ⟨(.tail _ (.tail _ (.tail _ (.head _)))), (.tail _ (.head _)), (.tail _ (.head _)), (.head _), (.tail _ (.tail _ (.tail _ (.tail _ (.tail _ (.head _)))))), trivial⟩ w) ?_
 rintro _ _ ⟨A1, c1, rfl, rfl⟩
 refine St.asrt (F' := .res (OwnL eu8 5 A1 c1 r1.1) :: .ro (SlL eu8 none 0 ([] : List Int)) :: .ro (SlL e_Field none 0 ([] : List T_Field)) :: .ro (SlL e_Field none 0 ([] : List T_Field)) :: .ro (SlL e_Field (some ⟨g2, 0, none⟩) ([(⟨3, ⟨#[]⟩⟩ : T_Field), (⟨3, ⟨#[]⟩⟩ : T_Field)] : List T_Field).length ([(⟨3, ⟨#[]⟩⟩ : T_Field), (⟨3, ⟨#[]⟩⟩ : T_Field)])) :: .res (Box g1 60 [.int .i64 3, .string (⟨#[]⟩)]) :: .ro (SlL ei64 (some ⟨0, 0, none⟩) 3 ([2, 5, 7] : List Int)) :: R) (fun _ w => w) ?_
 iterate 5 refine St.p rfl rfl ?_
 refine St.done ?_
 refine St.thenN ?_
 refine St.prune (Γ' := [(2, _), (3, _)]) ⟨rfl, rfl, trivial⟩ (.k (.d (.d (.d (.d (.d (.k .z))))))) ?_
 refine St.seq ?_
 obtain ⟨o1, hj1, h⟩ := bnd_e h
 refine St.cutE (fun (e1 : Unit) => [(0, .bool o1)]) (fun e1 => .ro (SlL ei64 (some ⟨0, 0, none⟩) 3 ([2, 5, 7] : List Int)) :: R) ?_ ?_
 ·refine St.region ?_
  iterate 3 refine St.p rfl rfl ?_
  refine St.gSplit (dj := 16) _ rfl (fun hb1 => ?_) (fun hb1 => ?_)
  ·replace hj1 := bif_t hb1 hj1
   refine St.gOn (dj := 16) rfl rfl ?_
   refine St.p rfl rfl ?_
   refine St.gOn (dj := 16) rfl rfl ?_
   refine St.p rfl rfl ?_
   refine St.gOn (dj := 16) rfl rfl ?_
   iterate 3 refine St.p rfl rfl ?_
   refine St.gSplit (dj := 21) _ rfl (fun hb2 => ?_) (fun hb2 => ?_)
   ·replace hj1 := bif_t hb2 hj1
    refine St.gOn (dj := 21) rfl rfl ?_
    refine St.p rfl rfl ?_
    refine St.gOn (dj := 21) rfl rfl ?_
    refine St.asrt (fun _ w => (w.front .z).meltL) ?_
    obtain ⟨l1, hl1, hj1⟩ := bnd_e hj1
    refine St.sub (E := (cod eu8)) rfl rfl (.head _) rfl rfl rfl rfl rfl rfl rfl hl1 fun A2 c2 => ?_
    refine St.gOn (dj := 21) rfl rfl ?_
    refine St.buildSlice rfl rfl rfl rfl rfl rfl rfl rfl fun g3 => ?_
    refine St.gOn (dj := 21) rfl rfl ?_
    refine St.asrt (fun _ w => (w.front .z).litL (E := eu8) (e := 5) [1, 1, 23, 192, 192, 193, 0, 166] rfl rfl) ?_
    refine St.asrt (fun _ w => (w.front .z).meltL) ?_
    obtain ⟨r2, hr2, hj1⟩ := bnd_e hj1
    refine St.callV (c_ref01_Same hr2) ent18 rfl rfl rfl rfl ⟨(.tail _ (.head _)), (.head _), trivial⟩ ?_
    refine St.p rfl rfl ?_
    refine St.p rfl rfl ?_
    refine St.done ?_
    injection hj1 with hj1
    subst hj1
    refine St.thenN ?_
    exact St.hereE () ⟨rfl, trivial⟩ (fun _ w => ((.d (.d (.d (.k .z)))) : Keep _ _).sat w)
   ·replace hj1 := bif_f hb2 hj1
    refine St.gOff (dj := 21) rfl rfl rfl rfl ?_
    refine St.gOff (dj := 21) rfl rfl rfl rfl ?_
    refine St.gOff (dj := 21) rfl rfl rfl rfl ?_
    refine St.gOff (dj := 21) rfl rfl rfl rfl ?_
    refine St.p rfl rfl ?_
    refine St.p rfl rfl ?_
    refine St.done ?_
    injection hj1 with hj1
    subst hj1
    refine St.thenN ?_
    exact St.hereE () ⟨rfl, trivial⟩ (fun _ w => ((.d (.k .z)) : Keep _ _).sat w)
  ·replace hj1 := bif_f hb1 hj1
   refine St.gOff (dj := 16) rfl rfl rfl rfl ?_
   refine St.gOff (dj := 16) rfl rfl rfl rfl ?_
   refine St.gOff (dj := 16) rfl rfl rfl rfl ?_
   refine St.p rfl rfl ?_
   refine St.p rfl rfl ?_
   refine St.gOff (dj := 21) rfl rfl rfl rfl ?_
   refine St.gOff (dj := 21) rfl rfl rfl rfl ?_
   refine St.gOff (dj := 21) rfl rfl rfl rfl ?_
   refine St.gOff (dj := 21) rfl rfl rfl rfl ?_
   refine St.p rfl rfl ?_
   refine St.p rfl rfl ?_
   refine St.done ?_
   injection hj1 with hj1
   subst hj1
   refine St.thenN ?_
   exact St.hereE () ⟨rfl, trivial⟩ (fun _ w => ((.d (.k .z)) : Keep _ _).sat w)
 ·rintro e1
  refine St.ret ?_
  repeat (first | refine St.thenR ?_ | refine St.blkR ?_)
  injection h with h
  subst h
  exact St.finR Tryd.results10 (.tmp rfl .nil) rfl [] ⟨rfl, rfl⟩ (fun _ w => ((.d .z) : Keep _ _).sat w)

theorem ent11 : Ent Tryd.prog 11 := ⟨_, Tryd.func11, by kernel_rfl, by kernel_rfl⟩

noncomputable def m_made_Roll (l_p0 : (List Int)) : Option T_Dice :=
 some (⟨l_p0, 0⟩ : T_Dice)

theorem c_made_Roll {l_p0 : (List Int)} {A1 : Option Addr} {c1 : Nat} {r : T_Dice} (h : m_made_Roll l_p0 = some r) :
  Fun Tryd.prog 11 [.slice A1 l_p0.length c1] [.ro (SlL ei64 A1 c1 l_p0)] (fun v_ F_ => ∃ (g1 : Nat) (A1 : Option Addr) (c1 : Nat), v_ = .pointer (some ⟨g1, 0, none⟩) ∧ F_ = [.ro (SlL ei64 A1 c1 r.L), .res (Box g1 62 [.slice A1 r.L.length c1, .int .i64 r.At])]) := by
 unfold m_made_Roll at h
 refine Fun.intro Tryd.func11 rfl rfl rfl fun w R => ?_
 refine St.seq ?_
 refine St.region ?_
 refine St.p rfl rfl ?_
 refine St.done ?_
 refine St.thenN ?_
 refine St.prune (Γ' := [(0, _)]) ⟨rfl, trivial⟩ (.k .z) ?_
 refine St.seq ?_
 refine St.region ?_
 refine St.p rfl rfl ?_
 refine St.p rfl rfl ?_
 refine St.box rfl rfl fun g1 => ?_
 refine St.p rfl rfl ?_
 refine St.done ?_
 refine St.thenN ?_
 refine St.prune (Γ' := [(2, _)]) ⟨rfl, trivial⟩ (.k (.k .z)) ?_
 refine St.ret ?_
 repeat (first | refine St.thenR ?_ | refine St.blkR ?_)
 injection h with h
 subst h
 exact St.finR Tryd.results11 (.tmp rfl .nil) rfl [.ro (SlL ei64 A1 c1 l_p0), .res (Box g1 62 [.slice A1 l_p0.length c1, .int .i64 0])] ⟨g1, A1, c1, rfl, rfl⟩ (fun _ w => ((.k (.k (.d .z))) : Keep _ _).sat (Sat.dup (G := [.ro (SlL ei64 A1 c1 l_p0)]) rfl ⟨(.tail _ (.head _)), trivial⟩ w))

theorem ent21 : Ent Tryd.prog 21 := ⟨_, Tryd.func21, by kernel_rfl, by kernel_rfl⟩

noncomputable def m_made_Mod (n_p0 : Int) (m_p1 : Int) : Option Int :=
 bnd (remM n_p0 m_p1) fun q1 => bif decide (q1 < 0) then (some (IntKind.wrap .i64 (q1 + m_p1))) else (some q1)

theorem c_made_Mod {n_p0 : Int} {m_p1 : Int} {r : Int} (h : m_made_Mod n_p0 m_p1 = some r) :
  Fun Tryd.prog 21 [.int .i64 n_p0, .int .i64 m_p1] [] (Val (.int .i64 r)) := by
 unfold m_made_Mod at h
 refine Fun.intro Tryd.func21 rfl rfl rfl fun w R => ?_
 refine St.seq ?_
 refine St.region ?_
 refine St.p rfl rfl ?_
 refine St.done ?_
 refine St.thenN ?_
 refine St.prune (Γ' := [(0, _), (1, _)]) ⟨rfl, rfl, trivial⟩ .z ?_
 refine St.seq ?_
 refine St.region ?_
 refine St.p rfl rfl ?_
 refine St.p rfl rfl ?_
 obtain ⟨q1, hq1, h⟩ := bnd_e h
 refine St.rem rfl rfl rfl hq1 ?_
 refine St.p rfl rfl ?_
 refine St.done ?_
 refine St.thenN ?_
 refine St.prune (Γ' := [(0, _), (1, _)]) ⟨rfl, rfl, trivial⟩ .z ?_
 refine St.seq ?_
 refine St.seq ?_
 refine St.region ?_
 refine St.p rfl rfl ?_
 refine St.p rfl rfl ?_
 refine St.done ?_
 refine St.thenN ?_
 refine St.prune (Γ' := [(0, _), (1, _), (9, _)]) ⟨rfl, rfl, rfl, trivial⟩ .z ?_
 refine St.cond _ rfl (fun hb1 => ?_) (fun hb1 => ?_)
 ·replace h := bif_t hb1 h
  refine St.region ?_
  iterate 4 refine St.p rfl rfl ?_
  refine St.done ?_
  refine St.thenN ?_
  refine St.prune (Γ' := [(0, _)]) ⟨rfl, trivial⟩ .z ?_
  refine St.seq ?_
  refine St.region ?_
  refine St.p rfl rfl ?_
  refine St.p rfl rfl ?_
  refine St.done ?_
  refine St.thenN ?_
  refine St.prune (Γ' := [(4, _)]) ⟨rfl, trivial⟩ .z ?_
  refine St.ret ?_
  repeat (first | refine St.thenR ?_ | refine St.blkR ?_)
  injection h with h
  subst h
  exact St.finR Tryd.results21 (.tmp rfl .nil) rfl [] ⟨rfl, rfl⟩ (fun _ w => (.z : Keep _ _).sat w)
 ·replace h := bif_f hb1 h
  refine St.skip ?_
  refine St.thenN ?_
  refine St.prune (Γ' := [(0, _)]) ⟨rfl, trivial⟩ .z ?_
  refine St.seq ?_
  refine St.region ?_
  refine St.p rfl rfl ?_
  refine St.p rfl rfl ?_
  refine St.done ?_
  refine St.thenN ?_
  refine St.prune (Γ' := [(4, _)]) ⟨rfl, trivial⟩ .z ?_
  refine St.ret ?_
  repeat (first | refine St.thenR ?_ | refine St.blkR ?_)
  injection h with h
  subst h
  exact St.finR Tryd.results21 (.tmp rfl .nil) rfl [] ⟨rfl, rfl⟩ (fun _ w => (.z : Keep _ _).sat w)

theorem ent23 : Ent Tryd.prog 23 := ⟨_, Tryd.func23, by kernel_rfl, by kernel_rfl⟩

noncomputable def m_made_Dice_Next (d_p0 : T_Dice) (n_p1 : Int) : Option (T_Dice × Int) :=
 bif decide (d_p0.At ≥ (d_p0.L.length : Int)) then (some (d_p0, 0)) else (bnd (elt d_p0.L (IntKind.wrap .i64 ((IntKind.wrap .i64 (d_p0.At + 1)) - 1))) fun x1 => bnd (m_made_Mod x1 n_p1) fun r1 => some ((⟨d_p0.L, IntKind.wrap .i64 (d_p0.At + 1)⟩ : T_Dice), r1))

theorem c_made_Dice_Next {d_p0 : T_Dice} {n_p1 : Int} {A1 : Option Addr} {c1 : Nat} {gb1 : Nat} {r : (T_Dice × Int)} (h : m_made_Dice_Next d_p0 n_p1 = some r) :
  Fun Tryd.prog 23 [.pointer (some ⟨gb1, 0, none⟩), .int .i64 n_p1] [.ro (SlL ei64 A1 c1 d_p0.L), .res (Box gb1 62 [.slice A1 d_p0.L.length c1, .int .i64 d_p0.At])] (fun v_ F_ => ∃ (A1 : Option Addr) (c1 : Nat), v_ = .int .i64 r.2 ∧ F_ = [.ro (SlL ei64 A1 c1 r.1.L), .res (Box gb1 62 [.slice A1 r.1.L.length c1, .int .i64 r.1.At])]) := by
 unfold m_made_Dice_Next at h
 refine Fun.intro Tryd.func23 rfl rfl rfl fun w R => ?_
 refine St.seq ?_
 refine St.region ?_
 refine St.p rfl rfl ?_
 refine St.done ?_
 refine St.thenN ?_
 refine St.prune (Γ' := [(0, _), (1, _)]) ⟨rfl, rfl, trivial⟩ (.k (.k .z)) ?_
 refine St.seq ?_
 refine St.seq ?_
 refine St.regionF mixed (by kernel_rfl) ?_
 iterate 3 refine St.p rfl rfl ?_
 refine St.loadB 1 rfl rfl (.tail _ (.head _)) rfl rfl ?_
 iterate 3 refine St.p rfl rfl ?_
 refine St.loadB 0 rfl rfl (.tail _ (.head _)) rfl rfl ?_
 refine St.p rfl rfl ?_
 refine St.p rfl rfl ?_
 refine St.doneQ ?_
 refine St.thenN ?_
 refine St.prune (Γ' := [(0, _), (1, _), (14, _)]) ⟨rfl, rfl, rfl, trivial⟩ (.k (.k .z)) ?_
 refine St.cond _ rfl (fun hb1 => ?_) (fun hb1 => ?_)
 ·replace h := bif_t hb1 h
  refine St.seq ?_
  refine St.region ?_
  refine St.p rfl rfl ?_
  refine St.done ?_
  refine St.thenN ?_
  refine St.prune (Γ' := [(4, _)]) ⟨rfl, trivial⟩ (.k (.k .z)) ?_
  refine St.ret ?_
  repeat (first | refine St.thenR ?_ | refine St.blkR ?_)
  injection h with h
  subst h
  exact St.finR Tryd.results23 (.tmp rfl .nil) rfl [.ro (SlL ei64 A1 c1 d_p0.L), .res (Box gb1 62 [.slice A1 d_p0.L.length c1, .int .i64 d_p0.At])] ⟨A1, c1, rfl, rfl⟩ (fun _ w => ((.k (.k (.d .z))) : Keep _ _).sat (Sat.dup (G := [.ro (SlL ei64 A1 c1 d_p0.L)]) rfl ⟨(.tail _ (.head _)), trivial⟩ (w.front (.s .z))))
 ·replace h := bif_f hb1 h
  refine St.skip ?_
  refine St.thenN ?_
  refine St.prune (Γ' := [(0, _), (1, _)]) ⟨rfl, rfl, trivial⟩ (.k (.k .z)) ?_
  refine St.seq ?_
  refine St.region ?_
  iterate 3 refine St.p rfl rfl ?_
  refine St.loadB 1 rfl rfl (.tail _ (.head _)) rfl rfl ?_
  iterate 3 refine St.p rfl rfl ?_
  refine St.store 1 rfl rfl rfl rfl rfl rfl (.s .z) rfl ?_
  refine St.done ?_
  refine St.thenN ?_
  refine St.prune (Γ' := [(0, _), (1, _)]) ⟨rfl, rfl, trivial⟩ (.k (.k .z)) ?_
  refine St.seq ?_
  refine St.regionF mixed (by kernel_rfl) ?_
  iterate 3 refine St.p rfl rfl ?_
  refine St.loadB 0 rfl rfl (.head _) rfl rfl ?_
  iterate 3 refine St.p rfl rfl ?_
  refine St.loadB 1 rfl rfl (.head _) rfl rfl ?_
  refine St.p rfl rfl ?_
  obtain ⟨x1, hx1, h⟩ := bnd_e h
  refine St.ixL hx1 rfl rfl rfl (.tail _ (.head _)) rfl rfl rfl rfl rfl fun b1 ob1 => ?_
  refine St.load ob1 0 rfl rfl (.head _) rfl rfl ?_
  refine St.p rfl rfl ?_
  obtain ⟨r1, hr1, h⟩ := bnd_e h
  refine St.callV (c_made_Mod hr1) ent21 rfl rfl rfl rfl trivial ?_
  refine St.p rfl rfl ?_
  refine St.doneQ ?_
  refine St.thenN ?_
  refine St.prune (Γ' := [(4, _)]) ⟨rfl, trivial⟩ (.d (.k (.k .z))) ?_
  refine St.ret ?_
  repeat (first | refine St.thenR ?_ | refine St.blkR ?_)
  injection h with h
  subst h
  exact St.finR Tryd.results23 (.tmp rfl .nil) rfl [.ro (SlL ei64 A1 c1 d_p0.L), .res (Box gb1 62 [.slice A1 d_p0.L.length c1, .int .i64 (IntKind.wrap .i64 (d_p0.At + 1))])] ⟨A1, c1, rfl, rfl⟩ (fun _ w => ((.k (.k (.d .z))) : Keep _ _).sat (Sat.dup (G := [.ro (SlL ei64 A1 c1 d_p0.L)]) rfl ⟨(.tail _ (.head _)), trivial⟩ w))

theorem ent24 : Ent Tryd.prog 24 := ⟨_, Tryd.func24, by kernel_rfl, by kernel_rfl⟩

noncomputable def m_made_Dice_Bool (d_p0 : T_Dice) (n_p1 : Int) : Option (T_Dice × Bool) :=
 bnd (m_made_Dice_Next d_p0 n_p1) fun r1 => some (r1.1, (r1.2 == (IntKind.wrap .i64 (n_p1 - 1))))

theorem c_made_Dice_Bool {d_p0 : T_Dice} {n_p1 : Int} {A1 : Option Addr} {c1 : Nat} {gb1 : Nat} {r : (T_Dice × Bool)} (h : m_made_Dice_Bool d_p0 n_p1 = some r) :
  Fun Tryd.prog 24 [.pointer (some ⟨gb1, 0, none⟩), .int .i64 n_p1] [.ro (SlL ei64 A1 c1 d_p0.L), .res (Box gb1 62 [.slice A1 d_p0.L.length c1, .int .i64 d_p0.At])] (fun v_ F_ => ∃ (A1 : Option Addr) (c1 : Nat), v_ = .bool r.2 ∧ F_ = [.ro (SlL ei64 A1 c1 r.1.L), .res (Box gb1 62 [.slice A1 r.1.L.length c1, .int .i64 r.1.At])]) := by
 unfold m_made_Dice_Bool at h
 refine Fun.intro Tryd.func24 rfl rfl rfl fun w R => ?_
 refine St.seq ?_
 refine St.region ?_
 refine St.p rfl rfl ?_
 refine St.done ?_
 refine St.thenN ?_
 refine St.prune (Γ' := [(0, _), (1, _)]) ⟨rfl, rfl, trivial⟩ (.k (.k .z)) ?_
 refine St.seq ?_
 refine St.region ?_
 refine St.p rfl rfl ?_
 refine St.p rfl rfl ?_
 obtain ⟨r1, hr1, h⟩ := bnd_e h
 refine St.call (c_made_Dice_Next hr1) ent23 rfl rfl rfl (fun _ w => Sat.dup (G := [.ro (SlL ei64 A1 c1 d_p0.L)]) rfl ⟨(.tail _ (.head _)), trivial⟩ (w.front (.s .z))) ?_
 rintro _ _ ⟨A2, c2, rfl, rfl⟩
 refine St.asrt (F' := .ro (SlL ei64 A2 c2 r1.1.L) :: .res (Box gb1 62 [.slice A2 r1.1.L.length c2, .int .i64 r1.1.At]) :: .ro (SlL ei64 A1 c1 d_p0.L) :: R) (fun _ w => w) ?_
 iterate 4 refine St.p rfl rfl ?_
 refine St.done ?_
 refine St.thenN ?_
 refine St.prune (Γ' := [(4, _)]) ⟨rfl, trivial⟩ (.k (.k (.d .z))) ?_
 refine St.ret ?_
 repeat (first | refine St.thenR ?_ | refine St.blkR ?_)
 injection h with h
 subst h
 exact St.finR Tryd.results24 (.tmp rfl .nil) rfl [.ro (SlL ei64 A2 c2 r1.1.L), .res (Box gb1 62 [.slice A2 r1.1.L.length c2, .int .i64 r1.1.At])] ⟨A2, c2, rfl, rfl⟩ (fun _ w => ((.k (.k (.d .z))) : Keep _ _).sat (Sat.dup (G := [.ro (SlL ei64 A2 c2 r1.1.L)]) rfl ⟨(.tail _ (.head _)), trivial⟩ (w.front (.s .z))))

theorem ent25 : Ent Tryd.prog 25 := ⟨_, Tryd.func25, by kernel_rfl, by kernel_rfl⟩

noncomputable def m_made_Dice_Byte (d_p0 : T_Dice) : Option (T_Dice × Int) :=
 bnd (m_made_Dice_Bool d_p0 3) fun r1 => bif r1.2 then (bnd (m_made_Dice_Next r1.1 8) fun r2 => bnd (elt ([0, 1, 127, 128, 254, 255, 15, 240]) r2.2) fun x1 => some (r2.1, x1)) else (bnd (m_made_Dice_Next r1.1 256) fun r3 => some (r3.1, IntKind.wrap .u8 r3.2))

theorem c_made_Dice_Byte {d_p0 : T_Dice} {A1 : Option Addr} {c1 : Nat} {gb1 : Nat} {r : (T_Dice × Int)} (h : m_made_Dice_Byte d_p0 = some r) :
  Fun Tryd.prog 25 [.pointer (some ⟨gb1, 0, none⟩)] [.ro (SlL ei64 A1 c1 d_p0.L), .res (Box gb1 62 [.slice A1 d_p0.L.length c1, .int .i64 d_p0.At])] (fun v_ F_ => ∃ (A1 : Option Addr) (c1 : Nat), v_ = .int .u8 r.2 ∧ F_ = [.ro (SlL ei64 A1 c1 r.1.L), .res (Box gb1 62 [.slice A1 r.1.L.length c1, .int .i64 r.1.At])]) := by
 unfold m_made_Dice_Byte at h
 refine Fun.intro Tryd.func25 rfl rfl rfl fun w R => ?_
 refine St.seq ?_
 refine St.region ?_
 refine St.p rfl rfl ?_
 refine St.done ?_
 refine St.thenN ?_
 refine St.prune (Γ' := [(0, _)]) ⟨rfl, trivial⟩ (.k (.k .z)) ?_
 refine St.seq ?_
 refine St.region ?_
 refine St.p rfl rfl ?_
 refine St.alloc rfl rfl fun g1 => ?_
 refine St.store 0 rfl rfl rfl rfl rfl rfl .z rfl ?_
 refine St.asrt (fun _ w => (w.front .z).litL (E := eu8) (e := 75) [0, 1, 127, 128, 254, 255, 15, 240] rfl rfl) ?_
 refine St.done ?_
 refine St.thenN ?_
 refine St.prune (Γ' := [(0, _), (3, _)]) ⟨rfl, rfl, trivial⟩ (.k (.k (.k .z))) ?_
 refine St.seq ?_
 refine St.seq ?_
 refine St.region ?_
 refine St.p rfl rfl ?_
 obtain ⟨r1, hr1, h⟩ := bnd_e h
 refine St.call (c_made_Dice_Bool hr1) ent24 rfl rfl rfl (fun _ w => Sat.dup (G := [.ro (SlL ei64 A1 c1 d_p0.L)]) rfl ⟨(.tail _ (.tail _ (.head _))), trivial⟩ (w.front (.s (.s .z)))) ?_
 rintro _ _ ⟨A2, c2, rfl, rfl⟩
 refine St.asrt (F' := .ro (SlL ei64 A2 c2 r1.1.L) :: .res (Box gb1 62 [.slice A2 r1.1.L.length c2, .int .i64 r1.1.At]) :: .res (OwnL eu8 75 (some ⟨g1, 0, none⟩) ([0, 1, 127, 128, 254, 255, 15, 240] : List Int).length ([0, 1, 127, 128, 254, 255, 15, 240])) :: .ro (SlL ei64 A1 c1 d_p0.L) :: R) (fun _ w => w) ?_
 refine St.done ?_
 refine St.thenN ?_
 refine St.prune (Γ' := [(0, _), (3, _), (6, _)]) ⟨rfl, rfl, rfl, trivial⟩ (.k (.k (.k (.d .z)))) ?_
 refine St.cond _ rfl (fun hb1 => ?_) (fun hb1 => ?_)
 ·replace h := bif_t hb1 h
  refine St.seq ?_
  refine St.region ?_
  refine St.p rfl rfl ?_
  obtain ⟨r2, hr2, h⟩ := bnd_e h
  refine St.call (c_made_Dice_Next hr2) ent23 rfl rfl rfl (fun _ w => Sat.dup (G := [.ro (SlL ei64 A2 c2 r1.1.L)]) rfl ⟨(.tail _ (.head _)), trivial⟩ (w.front (.s .z))) ?_
  rintro _ _ ⟨A3, c3, rfl, rfl⟩
  refine St.asrt (F' := .ro (SlL ei64 A3 c3 r2.1.L) :: .res (Box gb1 62 [.slice A3 r2.1.L.length c3, .int .i64 r2.1.At]) :: .ro (SlL ei64 A2 c2 r1.1.L) :: .res (OwnL eu8 75 (some ⟨g1, 0, none⟩) ([0, 1, 127, 128, 254, 255, 15, 240] : List Int).length ([0, 1, 127, 128, 254, 255, 15, 240])) :: R) (fun _ w => w) ?_
  obtain ⟨x1, hx1, h⟩ := bnd_e h
  refine St.ixA (sz := 1) hx1 rfl rfl rfl rfl rfl rfl rfl rfl ?_
  refine St.ldO 0 hx1 rfl rfl (.tail _ (.tail _ (.tail _ (.head _)))) rfl rfl ?_
  refine St.p rfl rfl ?_
  refine St.done ?_
  refine St.thenN ?_
  refine St.prune (Γ' := [(2, _)]) ⟨rfl, trivial⟩ (.k (.k (.d (.d .z)))) ?_
  refine St.ret ?_
  repeat (first | refine St.thenR ?_ | refine St.blkR ?_)
  injection h with h
  subst h
  exact St.finR Tryd.results25 (.tmp rfl .nil) rfl [.ro (SlL ei64 A3 c3 r2.1.L), .res (Box gb1 62 [.slice A3 r2.1.L.length c3, .int .i64 r2.1.At])] ⟨A3, c3, rfl, rfl⟩ (fun _ w => ((.k (.k (.d .z))) : Keep _ _).sat (Sat.dup (G := [.ro (SlL ei64 A3 c3 r2.1.L)]) rfl ⟨(.tail _ (.head _)), trivial⟩ (w.front (.s .z))))
 ·replace h := bif_f hb1 h
  refine St.skip ?_
  refine St.thenN ?_
  refine St.prune (Γ' := [(0, _)]) ⟨rfl, trivial⟩ (.k (.k (.d .z))) ?_
  refine St.seq ?_
  refine St.region ?_
  refine St.p rfl rfl ?_
  obtain ⟨r3, hr3, h⟩ := bnd_e h
  refine St.call (c_made_Dice_Next hr3) ent23 rfl rfl rfl (fun _ w => Sat.dup (G := [.ro (SlL ei64 A2 c2 r1.1.L)]) rfl ⟨(.tail _ (.head _)), trivial⟩ (w.front (.s .z))) ?_
  rintro _ _ ⟨A4, c4, rfl, rfl⟩
  refine St.asrt (F' := .ro (SlL ei64 A4 c4 r3.1.L) :: .res (Box gb1 62 [.slice A4 r3.1.L.length c4, .int .i64 r3.1.At]) :: .ro (SlL ei64 A2 c2 r1.1.L) :: R) (fun _ w => w) ?_
  refine St.p rfl rfl ?_
  refine St.p rfl rfl ?_
  refine St.done ?_
  refine St.thenN ?_
  refine St.prune (Γ' := [(2, _)]) ⟨rfl, trivial⟩ (.k (.k (.d .z))) ?_
  refine St.ret ?_
  repeat (first | refine St.thenR ?_ | refine St.blkR ?_)
  injection h with h
  subst h
  exact St.finR Tryd.results25 (.tmp rfl .nil) rfl [.ro (SlL ei64 A4 c4 r3.1.L), .res (Box gb1 62 [.slice A4 r3.1.L.length c4, .int .i64 r3.1.At])] ⟨A4, c4, rfl, rfl⟩ (fun _ w => ((.k (.k (.d .z))) : Keep _ _).sat (Sat.dup (G := [.ro (SlL ei64 A4 c4 r3.1.L)]) rfl ⟨(.tail _ (.head _)), trivial⟩ (w.front (.s .z))))

theorem ent47 : Ent Tryd.prog 47 := ⟨_, Tryd.func47, by kernel_rfl, by kernel_rfl⟩

noncomputable def m_made_Dice_Text (d_p0 : T_Dice) (alphabet : ByteArray) (n_p2 : Int) : Option (T_Dice × ByteArray) :=
 bnd (loopM (τ := ByteArray × List Int × Int) (fun (s1 : ByteArray × Int × List Int × Int) => bif decide (s1.2.1 < n_p2) then (bnd (m_made_Dice_Next (⟨s1.2.2.1, s1.2.2.2⟩ : T_Dice) (alphabet.size : Int)) fun r1 => bnd (subS alphabet r1.2 (IntKind.wrap .i64 (r1.2 + 1))) fun t1 => bnd (catS s1.1 t1) fun t2 => some (.next (t2, IntKind.wrap .i64 (s1.2.1 + 1), r1.1.L, r1.1.At))) else (some (.done (s1.1, s1.2.2.1, s1.2.2.2)))) (⟨#[]⟩, 0, d_p0.L, d_p0.At)) fun o1 => some ((⟨o1.2.1, o1.2.2⟩ : T_Dice), o1.1)

theorem c_made_Dice_Text {d_p0 : T_Dice} {alphabet : ByteArray} {n_p2 : Int} {A1 : Option Addr} {c1 : Nat} {gb1 : Nat} {r : (T_Dice × ByteArray)} (h : m_made_Dice_Text d_p0 alphabet n_p2 = some r) :
  Fun Tryd.prog 47 [.pointer (some ⟨gb1, 0, none⟩), .string alphabet, .int .i64 n_p2] [.ro (SlL ei64 A1 c1 d_p0.L), .res (Box gb1 62 [.slice A1 d_p0.L.length c1, .int .i64 d_p0.At])] (fun v_ F_ => ∃ (A1 : Option Addr) (c1 : Nat), v_ = .string r.2 ∧ F_ = [.ro (SlL ei64 A1 c1 r.1.L), .res (Box gb1 62 [.slice A1 r.1.L.length c1, .int .i64 r.1.At])]) := by
 unfold m_made_Dice_Text at h
 refine Fun.intro Tryd.func47 rfl rfl rfl fun w R => ?_
 refine St.seq ?_
 refine St.region ?_
 refine St.p rfl rfl ?_
 refine St.done ?_
 refine St.thenN ?_
 refine St.prune (Γ' := [(0, _), (1, _), (2, _)]) ⟨rfl, rfl, rfl, trivial⟩ (.k (.k .z)) ?_
 refine St.seq ?_
 refine St.region ?_
 refine St.p rfl rfl ?_
 refine St.done ?_
 refine St.thenN ?_
 refine St.seq ?_
 refine St.seq ?_
 refine St.region ?_
 refine St.p rfl rfl ?_
 refine St.done ?_
 refine St.thenN ?_
 obtain ⟨o1, hl1, h⟩ := bnd_e h
 refine St.cutE (fun (e2 : Option Addr × Nat) => [(7, .string o1.1)]) (fun e2 => .ro (SlL ei64 e2.1 e2.2 o1.2.1) :: .res (Box gb1 62 [.slice e2.1 o1.2.1.length e2.2, .int .i64 o1.2.2]) :: R) ?_ ?_
 ·refine St.block ?_
  refine St.loop hl1 (fun (s1 : ByteArray × Int × List Int × Int) (e1 : Option Addr × Nat) => [(0, .pointer (some ⟨gb1, 0, none⟩)), (1, .string alphabet), (2, .int .i64 n_p2), (7, .string s1.1), (8, .int .i64 s1.2.1)]) (fun s1 e1 => .ro (SlL ei64 e1.1 e1.2 s1.2.2.1) :: .res (Box gb1 62 [.slice e1.1 s1.2.2.1.length e1.2, .int .i64 s1.2.2.2]) :: R) (fun _ _ => True) (A1, c1) trivial ⟨rfl, rfl, rfl, rfl, rfl, trivial⟩ (fun _ w => ((.k (.k .z)) : Keep _ _).sat w) ?_
  rintro s1 ⟨A2, c2⟩ - hit1
  obtain ⟨st1, hm1, hd1⟩ := iter_e hit1
  have h1 := hm1
  refine St.seq ?_
  refine St.seq ?_
  refine St.region ?_
  iterate 3 refine St.p rfl rfl ?_
  refine St.done ?_
  refine St.thenN ?_
  refine St.prune (Γ' := [(0, _), (1, _), (2, _), (7, _), (8, _), (12, _)]) ⟨rfl, rfl, rfl, rfl, rfl, rfl, trivial⟩ (.k (.k .z)) ?_
  refine St.cond _ rfl (fun hb1 => ?_) (fun hb1 => ?_)
  ·replace h1 := bif_t hb1 h1
   refine St.skip ?_
   refine St.thenN ?_
   refine St.prune (Γ' := [(0, _), (1, _), (2, _), (7, _), (8, _)]) ⟨rfl, rfl, rfl, rfl, rfl, trivial⟩ (.k (.k .z)) ?_
   refine St.seq ?_
   refine St.block ?_
   refine St.seq ?_
   refine St.region ?_
   iterate 3 refine St.p rfl rfl ?_
   obtain ⟨r1, hr1, h1⟩ := bnd_e h1
   refine St.call (c_made_Dice_Next hr1) ent23 rfl rfl rfl (fun _ w => Sat.dup (G := [.ro (SlL ei64 A2 c2 s1.2.2.1)]) rfl ⟨(.tail _ (.head _)), trivial⟩ (w.front (.s .z))) ?_
   rintro _ _ ⟨A4, c4, rfl, rfl⟩
   refine St.asrt (F' := .ro (SlL ei64 A4 c4 r1.1.L) :: .res (Box gb1 62 [.slice A4 r1.1.L.length c4, .int .i64 r1.1.At]) :: .ro (SlL ei64 A2 c2 s1.2.2.1) :: R) (fun _ w => w) ?_
   refine St.p rfl rfl ?_
   refine St.done ?_
   refine St.thenN ?_
   refine St.prune (Γ' := [(0, _), (1, _), (2, _), (7, _), (8, _), (9, _)]) ⟨rfl, rfl, rfl, rfl, rfl, rfl, trivial⟩ (.k (.k (.d .z))) ?_
   refine St.region ?_
   iterate 5 refine St.p rfl rfl ?_
   obtain ⟨t1, ht1, h1⟩ := bnd_e h1
   refine St.subS rfl rfl rfl rfl rfl rfl ht1 ?_
   obtain ⟨t2, ht2, h1⟩ := bnd_e h1
   refine St.catS rfl rfl rfl ht2 ?_
   refine St.p rfl rfl ?_
   refine St.done ?_
   refine St.blkN ?_
   refine St.thenN ?_
   refine St.prune (Γ' := [(0, _), (1, _), (2, _), (7, _), (8, _)]) ⟨rfl, rfl, rfl, rfl, rfl, trivial⟩ (.k (.k .z)) ?_
   refine St.region ?_
   iterate 3 refine St.p rfl rfl ?_
   refine St.done ?_
   injection h1 with h1
   subst h1
   refine St.thenN ?_
   exact St.again _ (A4, c4) hm1 trivial ⟨rfl, rfl, rfl, rfl, rfl, trivial⟩ (fun _ w => ((.k (.k .z)) : Keep _ _).sat w)
  ·replace h1 := bif_f hb1 h1
   refine St.exit ?_
   repeat (first | refine St.thenX ?_ | refine St.blkMiss rfl ?_)
   refine St.blkHit ?_
   injection h1 with h1
   subst h1
   have ho := hd1 _ rfl
   subst ho
   refine St.thenN ?_
   exact St.hereE (A2, c2) ⟨rfl, trivial⟩ (fun _ w => ((.k (.k .z)) : Keep _ _).sat w)
 ·rintro ⟨A3, c3⟩
  refine St.seq ?_
  refine St.region ?_
  refine St.p rfl rfl ?_
  refine St.p rfl rfl ?_
  refine St.done ?_
  refine St.thenN ?_
  refine St.prune (Γ' := [(6, _)]) ⟨rfl, trivial⟩ (.k (.k .z)) ?_
  refine St.ret ?_
  repeat (first | refine St.thenR ?_ | refine St.blkR ?_)
  injection h with h
  subst h
  exact St.finR Tryd.results47 (.tmp rfl .nil) rfl [.ro (SlL ei64 A3 c3 o1.2.1), .res (Box gb1 62 [.slice A3 o1.2.1.length c3, .int .i64 o1.2.2])] ⟨A3, c3, rfl, rfl⟩ (fun _ w => ((.k (.k (.d .z))) : Keep _ _).sat (Sat.dup (G := [.ro (SlL ei64 A3 c3 o1.2.1)]) rfl ⟨(.tail _ (.head _)), trivial⟩ (w.front (.s .z))))

theorem ent33 : Ent Tryd.prog 33 := ⟨_, Tryd.func33, by kernel_rfl, by kernel_rfl⟩

noncomputable def m_made_Dice_Bytes (d_p0 : T_Dice) (n_p1 : Int) : Option (T_Dice × (List Int)) :=
 bnd (m_made_Dice_Next d_p0 (IntKind.wrap .i64 (n_p1 + 1))) fun r1 => bnd (loopM (τ := List Int × List Int × Int) (fun (s1 : List Int × Int × List Int × Int) => bif decide (s1.2.1 > 0) then (bnd (m_made_Dice_Byte (⟨s1.2.2.1, s1.2.2.2⟩ : T_Dice)) fun r2 => bnd (app 1 s1.1 [r2.2]) fun l1 => some (.next (l1, IntKind.wrap .i64 (s1.2.1 - 1), r2.1.L, r2.1.At))) else (some (.done (s1.1, s1.2.2.1, s1.2.2.2)))) ([], r1.2, r1.1.L, r1.1.At)) fun o1 => some ((⟨o1.2.1, o1.2.2⟩ : T_Dice), o1.1)

theorem c_made_Dice_Bytes {d_p0 : T_Dice} {n_p1 : Int} {A1 : Option Addr} {c1 : Nat} {gb1 : Nat} {r : (T_Dice × (List Int))} (h : m_made_Dice_Bytes d_p0 n_p1 = some r) :
  Fun Tryd.prog 33 [.pointer (some ⟨gb1, 0, none⟩), .int .i64 n_p1] [.ro (SlL ei64 A1 c1 d_p0.L), .res (Box gb1 62 [.slice A1 d_p0.L.length c1, .int .i64 d_p0.At])] (fun v_ F_ => ∃ (A1 : Option Addr) (c1 : Nat) (A2 : Option Addr) (c2 : Nat), v_ = .slice A2 r.2.length c2 ∧ F_ = [.ro (SlL ei64 A1 c1 r.1.L), .res (Box gb1 62 [.slice A1 r.1.L.length c1, .int .i64 r.1.At]), .res (OwnL eu8 5 A2 c2 r.2)]) := by
 unfold m_made_Dice_Bytes at h
 refine Fun.intro Tryd.func33 rfl rfl rfl fun w R => ?_
 refine St.seq ?_
 refine St.region ?_
 refine St.p rfl rfl ?_
 refine St.done ?_
 refine St.thenN ?_
 refine St.prune (Γ' := [(0, _), (1, _)]) ⟨rfl, rfl, trivial⟩ (.k (.k .z)) ?_
 refine St.seq ?_
 refine St.region ?_
 refine St.p rfl rfl ?_
 refine St.done ?_
 refine St.thenN ?_
 refine St.seq ?_
 refine St.seq ?_
 refine St.region ?_
 iterate 3 refine St.p rfl rfl ?_
 obtain ⟨r1, hr1, h⟩ := bnd_e h
 refine St.call (c_made_Dice_Next hr1) ent23 rfl rfl rfl (fun _ w => Sat.dup (G := [.ro (SlL ei64 A1 c1 d_p0.L)]) rfl ⟨(.tail _ (.head _)), trivial⟩ (w.front (.s .z))) ?_
 rintro _ _ ⟨A2, c2, rfl, rfl⟩
 refine St.asrt (F' := .ro (SlL ei64 A2 c2 r1.1.L) :: .res (Box gb1 62 [.slice A2 r1.1.L.length c2, .int .i64 r1.1.At]) :: .ro (SlL ei64 A1 c1 d_p0.L) :: R) (fun _ w => w) ?_
 refine St.p rfl rfl ?_
 refine St.done ?_
 refine St.thenN ?_
 refine St.prune (Γ' := [(0, _), (5, _), (6, _)]) ⟨rfl, rfl, rfl, trivial⟩ (.k (.k (.d .z))) ?_
 refine St.asrt (fun _ w => w.nilL eu8 5) ?_
 obtain ⟨o1, hl1, h⟩ := bnd_e h
 refine St.cutE (fun (e2 : Option Addr × Nat × Option Addr × Nat) => [(5, .slice e2.1 o1.1.length e2.2.1)]) (fun e2 => .ro (SlL ei64 e2.2.2.1 e2.2.2.2 o1.2.1) :: .res (OwnL eu8 5 e2.1 e2.2.1 o1.1) :: .res (Box gb1 62 [.slice e2.2.2.1 o1.2.1.length e2.2.2.2, .int .i64 o1.2.2]) :: R) ?_ ?_
 ·refine St.block ?_
  refine St.loop hl1 (fun (s1 : List Int × Int × List Int × Int) (e1 : Option Addr × Nat × Option Addr × Nat) => [(0, .pointer (some ⟨gb1, 0, none⟩)), (5, .slice e1.1 s1.1.length e1.2.1), (6, .int .i64 s1.2.1)]) (fun s1 e1 => .ro (SlL ei64 e1.2.2.1 e1.2.2.2 s1.2.2.1) :: .res (OwnL eu8 5 e1.1 e1.2.1 s1.1) :: .res (Box gb1 62 [.slice e1.2.2.1 s1.2.2.1.length e1.2.2.2, .int .i64 s1.2.2.2]) :: R) (fun _ _ => True) (none, 0, A2, c2) trivial ⟨rfl, rfl, rfl, trivial⟩ (fun _ w => ((.k (.k (.k .z))) : Keep _ _).sat (((w.front (.s (.s .z))).front (.s .z)).front (.s (.s .z)))) ?_
  rintro s1 ⟨A3, c3, A4, c4⟩ - hit1
  obtain ⟨st1, hm1, hd1⟩ := iter_e hit1
  have h1 := hm1
  refine St.seq ?_
  refine St.seq ?_
  refine St.region ?_
  refine St.p rfl rfl ?_
  refine St.p rfl rfl ?_
  refine St.done ?_
  refine St.thenN ?_
  refine St.prune (Γ' := [(0, _), (5, _), (6, _), (12, _)]) ⟨rfl, rfl, rfl, rfl, trivial⟩ (.k (.k (.k .z))) ?_
  refine St.cond _ rfl (fun hb1 => ?_) (fun hb1 => ?_)
  ·replace h1 := bif_t hb1 h1
   refine St.skip ?_
   refine St.thenN ?_
   refine St.prune (Γ' := [(0, _), (5, _), (6, _)]) ⟨rfl, rfl, rfl, trivial⟩ (.k (.k (.k .z))) ?_
   refine St.seq ?_
   refine St.block ?_
   refine St.region ?_
   refine St.p rfl rfl ?_
   refine St.p rfl rfl ?_
   obtain ⟨r2, hr2, h1⟩ := bnd_e h1
   refine St.call (c_made_Dice_Byte hr2) ent25 rfl rfl rfl (fun _ w => Sat.dup (G := [.ro (SlL ei64 A4 c4 s1.2.2.1)]) rfl ⟨(.tail _ (.head _)), trivial⟩ (w.front (.s (.s .z)))) ?_
   rintro _ _ ⟨A7, c7, rfl, rfl⟩
   refine St.asrt (F' := .ro (SlL ei64 A7 c7 r2.1.L) :: .res (Box gb1 62 [.slice A7 r2.1.L.length c7, .int .i64 r2.1.At]) :: .ro (SlL ei64 A4 c4 s1.2.2.1) :: .res (OwnL eu8 5 A3 c3 s1.1) :: R) (fun _ w => w) ?_
   refine St.buildSlice rfl rfl rfl rfl rfl rfl rfl rfl fun g1 => ?_
   obtain ⟨l1, hl1, h1⟩ := bnd_e h1
   refine St.app (E := eu8) hl1 rfl rfl rfl (.s (.s (.s (.s .z)))) rfl rfl rfl rfl rfl rfl rfl rfl (srcB (.head _) rfl rfl) rfl rfl fun A8 c8 => ?_
   refine St.p rfl rfl ?_
   refine St.done ?_
   refine St.blkN ?_
   refine St.thenN ?_
   refine St.prune (Γ' := [(0, _), (5, _), (6, _)]) ⟨rfl, rfl, rfl, trivial⟩ (.k (.d (.k (.k (.d .z))))) ?_
   refine St.region ?_
   iterate 3 refine St.p rfl rfl ?_
   refine St.done ?_
   injection h1 with h1
   subst h1
   refine St.thenN ?_
   exact St.again _ (A8, c8, A7, c7) hm1 trivial ⟨rfl, rfl, rfl, trivial⟩ (fun _ w => ((.k (.k (.k .z))) : Keep _ _).sat (((w.front (.s (.s .z))).front (.s .z)).front (.s (.s .z))))
  ·replace h1 := bif_f hb1 h1
   refine St.exit ?_
   repeat (first | refine St.thenX ?_ | refine St.blkMiss rfl ?_)
   refine St.blkHit ?_
   injection h1 with h1
   subst h1
   have ho := hd1 _ rfl
   subst ho
   refine St.thenN ?_
   exact St.hereE (A3, c3, A4, c4) ⟨rfl, trivial⟩ (fun _ w => ((.k (.k (.k .z))) : Keep _ _).sat w)
 ·rintro ⟨A5, c5, A6, c6⟩
  refine St.seq ?_
  refine St.region ?_
  refine St.p rfl rfl ?_
  refine St.p rfl rfl ?_
  refine St.done ?_
  refine St.thenN ?_
  refine St.prune (Γ' := [(4, _)]) ⟨rfl, trivial⟩ (.k (.k (.k .z))) ?_
  refine St.ret ?_
  repeat (first | refine St.thenR ?_ | refine St.blkR ?_)
  injection h with h
  subst h
  exact St.finR Tryd.results33 (.tmp rfl .nil) rfl [.ro (SlL ei64 A6 c6 o1.2.1), .res (Box gb1 62 [.slice A6 o1.2.1.length c6, .int .i64 o1.2.2]), .res (OwnL eu8 5 A5 c5 o1.1)] ⟨A6, c6, A5, c5, rfl, rfl⟩ (fun _ w => ((.k (.k (.k (.d .z)))) : Keep _ _).sat (Sat.dup (G := [.ro (SlL ei64 A6 c6 o1.2.1)]) rfl ⟨(.tail _ (.tail _ (.head _))), trivial⟩ ((w.front (.s .z)).front (.s (.s .z)))))

theorem ent46 : Ent Tryd.prog 46 := ⟨_, Tryd.func46, by kernel_rfl, by kernel_rfl⟩

noncomputable def m_made_Dice_Field (d_p0 : T_Dice) : Option (T_Dice × T_Field) :=
 bnd (m_made_Dice_Next d_p0 4) fun r1 => bnd (m_made_Dice_Next r1.1 9) fun r2 => bif (r1.2 == 1) then (bnd (m_made_Dice_Text r2.1 (⟨#[48, 49, 50, 51, 52, 53, 54, 55, 56, 57, 32, 45, 46]⟩) (IntKind.wrap .i64 (2 * r2.2))) fun r3 => bnd (m_made_Dice_Bool r3.1 40) fun r4 => bif r4.2 then (bnd (mkS 1 0 63 63) fun l1 => some (r4.1, (⟨0, strOf l1⟩ : T_Field))) else (some (r4.1, (⟨r1.2, r3.2⟩ : T_Field)))) else (bif (r1.2 == 2) then (bnd ((bif ((r2.2.tmod 4) == 3) then (some (IntKind.wrap .i64 (r2.2 + 1))) else (some r2.2) : Option Int)) fun o1 => bnd (m_made_Dice_Text r2.1 (⟨#[32, 33, 48, 65, 57, 90, 95, 45, 46, 47]⟩) o1) fun r5 => bnd (m_made_Dice_Bool r5.1 40) fun r6 => bif r6.2 then (bnd (mkS 1 0 63 63) fun l2 => some (r6.1, (⟨0, strOf l2⟩ : T_Field))) else (some (r6.1, (⟨r1.2, r5.2⟩ : T_Field)))) else (bif (r1.2 == 3) then (bnd ((bif (r2.2 == 1) then (some 2) else (some r2.2) : Option Int)) fun o2 => bnd (m_made_Dice_Text r2.1 (⟨#[97, 98, 99, 88, 89, 90, 32, 48, 49, 57, 195, 169]⟩) o2) fun r7 => bnd (m_made_Dice_Bool r7.1 40) fun r8 => bif r8.2 then (bnd (mkS 1 0 63 63) fun l3 => some (r8.1, (⟨0, strOf l3⟩ : T_Field))) else (some (r8.1, (⟨r1.2, r7.2⟩ : T_Field)))) else (bnd (m_made_Dice_Bytes r2.1 r2.2) fun r9 => bnd (m_made_Dice_Bool r9.1 40) fun r10 => bif r10.2 then (bnd (mkS 1 0 63 63) fun l4 => some (r10.1, (⟨0, strOf l4⟩ : T_Field))) else (some (r10.1, (⟨r1.2, strOf r9.2⟩ : T_Field))))))

set_option maxHeartbeats 4000000 in
theorem c_made_Dice_Field {d_p0 : T_Dice} {A1 : Option Addr} {c1 : Nat} {gb1 : Nat} {r : (T_Dice × T_Field)} (h : m_made_Dice_Field d_p0 = some r) :
  Fun Tryd.prog 46 [.pointer (some ⟨gb1, 0, none⟩)] [.ro (SlL ei64 A1 c1 d_p0.L), .res (Box gb1 62 [.slice A1 d_p0.L.length c1, .int .i64 d_p0.At])] (fun v_ F_ => ∃ (A1 : Option Addr) (c1 : Nat), v_ = .agg #[.int .i64 r.2.Kind, .string r.2.Value] ∧ F_ = [.ro (SlL ei64 A1 c1 r.1.L), .res (Box gb1 62 [.slice A1 r.1.L.length c1, .int .i64 r.1.At])]) := by
 unfold m_made_Dice_Field at h
 refine Fun.intro Tryd.func46 rfl rfl rfl fun w R => ?_
 refine St.seq ?_
 refine St.region ?_
 refine St.alloc rfl rfl fun g1 => ?_
 refine St.done ?_
 refine St.thenN ?_
 refine St.seq ?_
 refine St.region ?_
 refine St.p rfl rfl ?_
 obtain ⟨r1, hr1, h⟩ := bnd_e h
 refine St.call (c_made_Dice_Next hr1) ent23 rfl rfl rfl (fun _ w => Sat.dup (G := [.ro (SlL ei64 A1 c1 d_p0.L)]) rfl ⟨(.tail _ (.tail _ (.head _))), trivial⟩ (w.front (.s (.s .z)))) ?_
 rintro _ _ ⟨A2, c2, rfl, rfl⟩
 refine St.asrt (F' := .ro (SlL ei64 A2 c2 r1.1.L) :: .res (Box gb1 62 [.slice A2 r1.1.L.length c2, .int .i64 r1.1.At]) :: .res (Box g1 60 [.int .i64 0, .string (⟨#[]⟩)]) :: .ro (SlL ei64 A1 c1 d_p0.L) :: R) (fun _ w => w) ?_
 refine St.p rfl rfl ?_
 refine St.alloc rfl rfl fun g2 => ?_
 refine St.store 0 rfl rfl rfl rfl rfl rfl .z rfl ?_
 refine St.done ?_
 refine St.thenN ?_
 refine St.prune (Γ' := [(0, _), (2, _), (3, _)]) ⟨rfl, rfl, rfl, trivial⟩ (.k (.k (.k (.k (.d .z))))) ?_
 refine St.seq ?_
 refine St.region ?_
 refine St.p rfl rfl ?_
 obtain ⟨r2, hr2, h⟩ := bnd_e h
 refine St.call (c_made_Dice_Next hr2) ent23 rfl rfl rfl (fun _ w => Sat.dup (G := [.ro (SlL ei64 A2 c2 r1.1.L)]) rfl ⟨(.tail _ (.tail _ (.head _))), trivial⟩ (w.front (.s (.s .z)))) ?_
 rintro _ _ ⟨A3, c3, rfl, rfl⟩
 refine St.asrt (F' := .ro (SlL ei64 A3 c3 r2.1.L) :: .res (Box gb1 62 [.slice A3 r2.1.L.length c3, .int .i64 r2.1.At]) :: .res (Box g2 60 [.int .i64 r1.2, .string (⟨#[]⟩)]) :: .ro (SlL ei64 A2 c2 r1.1.L) :: .res (Box g1 60 [.int .i64 0, .string (⟨#[]⟩)]) :: R) (fun _ w => w) ?_
 refine St.p rfl rfl ?_
 refine St.done ?_
 refine St.thenN ?_
 refine St.prune (Γ' := [(0, _), (2, _), (3, _), (4, _)]) ⟨rfl, rfl, rfl, rfl, trivial⟩ (.k (.k (.k (.d (.k .z))))) ?_
 refine St.seq ?_
 refine St.seq ?_
 refine St.region ?_
 refine St.p rfl rfl ?_
 refine St.loadB 0 rfl rfl (.tail _ (.tail _ (.head _))) rfl rfl ?_
 refine St.done ?_
 refine St.thenN ?_
 refine St.prune (Γ' := [(0, _), (2, _), (3, _), (4, _), (11, _)]) ⟨rfl, rfl, rfl, rfl, rfl, trivial⟩ (.k (.k (.k (.k .z)))) ?_
 refine St.block ?_
 refine St.seq ?_
 refine St.region ?_
 refine St.p rfl rfl ?_
 refine St.p rfl rfl ?_
 refine St.done ?_
 refine St.thenN ?_
 refine St.prune (Γ' := [(0, _), (2, _), (3, _), (4, _), (11, _), (17, _)]) ⟨rfl, rfl, rfl, rfl, rfl, rfl, trivial⟩ (.k (.k (.k (.k .z)))) ?_
 refine St.cond _ rfl (fun hb1 => ?_) (fun hb1 => ?_)
 ·replace h := bif_t hb1 h
  refine St.region ?_
  iterate 3 refine St.p rfl rfl ?_
  obtain ⟨r3, hr3, h⟩ := bnd_e h
  refine St.call (c_made_Dice_Text hr3) ent47 rfl rfl rfl (fun _ w => Sat.dup (G := [.ro (SlL ei64 A3 c3 r2.1.L)]) rfl ⟨(.tail _ (.head _)), trivial⟩ (w.front (.s .z))) ?_
  rintro _ _ ⟨A4, c4, rfl, rfl⟩
  refine St.asrt (F' := .ro (SlL ei64 A4 c4 r3.1.L) :: .res (Box gb1 62 [.slice A4 r3.1.L.length c4, .int .i64 r3.1.At]) :: .ro (SlL ei64 A3 c3 r2.1.L) :: .res (Box g2 60 [.int .i64 r1.2, .string (⟨#[]⟩)]) :: .res (Box g1 60 [.int .i64 0, .string (⟨#[]⟩)]) :: R) (fun _ w => w) ?_
  refine St.p rfl rfl ?_
  refine St.store 1 rfl rfl rfl rfl rfl rfl (.s (.s (.s .z))) rfl ?_
  refine St.done ?_
  refine St.blkN ?_
  refine St.thenN ?_
  refine St.prune (Γ' := [(0, _), (2, _), (3, _)]) ⟨rfl, rfl, rfl, trivial⟩ (.k (.k (.k (.d (.k .z))))) ?_
  refine St.seq ?_
  refine St.seq ?_
  refine St.region ?_
  refine St.p rfl rfl ?_
  obtain ⟨r4, hr4, h⟩ := bnd_e h
  refine St.call (c_made_Dice_Bool hr4) ent24 rfl rfl rfl (fun _ w => Sat.dup (G := [.ro (SlL ei64 A4 c4 r3.1.L)]) rfl ⟨(.tail _ (.tail _ (.head _))), trivial⟩ (w.front (.s (.s .z)))) ?_
  rintro _ _ ⟨A5, c5, rfl, rfl⟩
  refine St.asrt (F' := .ro (SlL ei64 A5 c5 r4.1.L) :: .res (Box gb1 62 [.slice A5 r4.1.L.length c5, .int .i64 r4.1.At]) :: .res (Box g2 60 [.int .i64 r1.2, .string r3.2]) :: .ro (SlL ei64 A4 c4 r3.1.L) :: .res (Box g1 60 [.int .i64 0, .string (⟨#[]⟩)]) :: R) (fun _ w => w) ?_
  refine St.done ?_
  refine St.thenN ?_
  refine St.prune (Γ' := [(2, _), (3, _), (44, _)]) ⟨rfl, rfl, rfl, trivial⟩ (.k (.k (.k (.d (.k .z))))) ?_
  refine St.cond _ rfl (fun hb2 => ?_) (fun hb2 => ?_)
  ·replace h := bif_t hb2 h
   refine St.region ?_
   obtain ⟨l1, hl1, h⟩ := bnd_e h
   refine St.mkL (E := eu8) 0 hl1 rfl rfl rfl rfl rfl rfl rfl rfl rfl rfl fun g3 => ?_
   refine St.asrt (fun _ w => (w.front .z).meltL) ?_
   refine St.b2s rfl rfl rfl rfl rfl rfl rfl rfl rfl (srcL (E := eu8) (.head _)) ?_
   refine St.p rfl rfl ?_
   refine St.store 0 rfl rfl rfl rfl rfl rfl (.s (.s (.s .z))) rfl ?_
   refine St.done ?_
   refine St.thenN ?_
   refine St.prune (Γ' := [(2, _), (3, _)]) ⟨rfl, rfl, trivial⟩ (.k (.d (.k (.k (.k .z))))) ?_
   refine St.seq ?_
   refine St.region ?_
   refine St.loadB 0 rfl rfl (.head _) rfl rfl ?_
   refine St.store 0 rfl rfl rfl rfl rfl rfl (.s (.s (.s .z))) rfl ?_
   refine St.done ?_
   refine St.thenN ?_
   refine St.prune (Γ' := [(2, _)]) ⟨rfl, trivial⟩ (.k (.d (.k (.k .z)))) ?_
   refine St.ret ?_
   repeat (first | refine St.thenR ?_ | refine St.blkR ?_)
   injection h with h
   subst h
   exact St.finR Tryd.results46 (.cell rfl (.head _) rfl .nil) rfl [.ro (SlL ei64 A5 c5 r4.1.L), .res (Box gb1 62 [.slice A5 r4.1.L.length c5, .int .i64 r4.1.At])] ⟨A5, c5, rfl, rfl⟩ (fun _ w => ((.k (.k (.d (.d .z)))) : Keep _ _).sat (Sat.dup (G := [.ro (SlL ei64 A5 c5 r4.1.L)]) rfl ⟨(.tail _ (.tail _ (.head _))), trivial⟩ (w.front (.s (.s .z)))))
  ·replace h := bif_f hb2 h
   refine St.skip ?_
   refine St.thenN ?_
   refine St.prune (Γ' := [(2, _), (3, _)]) ⟨rfl, rfl, trivial⟩ (.k (.k (.k (.k .z)))) ?_
   refine St.seq ?_
   refine St.region ?_
   refine St.loadB 0 rfl rfl (.tail _ (.tail _ (.head _))) rfl rfl ?_
   refine St.store 0 rfl rfl rfl rfl rfl rfl (.s (.s (.s .z))) rfl ?_
   refine St.done ?_
   refine St.thenN ?_
   refine St.prune (Γ' := [(2, _)]) ⟨rfl, trivial⟩ (.k (.k (.k (.d .z)))) ?_
   refine St.ret ?_
   repeat (first | refine St.thenR ?_ | refine St.blkR ?_)
   injection h with h
   subst h
   exact St.finR Tryd.results46 (.cell rfl (.head _) rfl .nil) rfl [.ro (SlL ei64 A5 c5 r4.1.L), .res (Box gb1 62 [.slice A5 r4.1.L.length c5, .int .i64 r4.1.At])] ⟨A5, c5, rfl, rfl⟩ (fun _ w => ((.k (.k (.d (.d .z)))) : Keep _ _).sat (Sat.dup (G := [.ro (SlL ei64 A5 c5 r4.1.L)]) rfl ⟨(.tail _ (.tail _ (.head _))), trivial⟩ (w.front (.s (.s .z)))))
 ·replace h := bif_f hb1 h
  refine St.seq ?_
  refine St.region ?_
  refine St.p rfl rfl ?_
  refine St.p rfl rfl ?_
  refine St.done ?_
  refine St.thenN ?_
  refine St.prune (Γ' := [(0, _), (2, _), (3, _), (4, _), (11, _), (24, _)]) ⟨rfl, rfl, rfl, rfl, rfl, rfl, trivial⟩ (.k (.k (.k (.k .z)))) ?_
  refine St.cond _ rfl (fun hb3 => ?_) (fun hb3 => ?_)
  ·replace h := bif_t hb3 h
   refine St.seq ?_
   obtain ⟨o1, hj1, h⟩ := bnd_e h
   refine St.cutE (fun (e1 : Unit) => [(0, .pointer (some ⟨gb1, 0, none⟩)), (2, .pointer (some ⟨g1, 0, none⟩)), (3, .pointer (some ⟨g2, 0, none⟩)), (4, .int .i64 o1)]) (fun e1 => .ro (SlL ei64 A3 c3 r2.1.L) :: .res (Box gb1 62 [.slice A3 r2.1.L.length c3, .int .i64 r2.1.At]) :: .res (Box g2 60 [.int .i64 r1.2, .string (⟨#[]⟩)]) :: .res (Box g1 60 [.int .i64 0, .string (⟨#[]⟩)]) :: R) ?_ ?_
   ·refine St.seq ?_
    refine St.region ?_
    iterate 3 refine St.p rfl rfl ?_
    refine St.done ?_
    refine St.thenN ?_
    refine St.prune (Γ' := [(0, _), (2, _), (3, _), (4, _), (28, _)]) ⟨rfl, rfl, rfl, rfl, rfl, trivial⟩ (.k (.k (.k (.k .z)))) ?_
    refine St.cond _ rfl (fun hb4 => ?_) (fun hb4 => ?_)
    ·replace hj1 := bif_t hb4 hj1
     refine St.region ?_
     iterate 3 refine St.p rfl rfl ?_
     refine St.done ?_
     injection hj1 with hj1
     subst hj1
     refine St.thenN ?_
     exact St.hereE () ⟨rfl, rfl, rfl, rfl, trivial⟩ (fun _ w => ((.k (.k (.k (.k .z)))) : Keep _ _).sat w)
    ·replace hj1 := bif_f hb4 hj1
     refine St.skip ?_
     injection hj1 with hj1
     subst hj1
     refine St.thenN ?_
     exact St.hereE () ⟨rfl, rfl, rfl, rfl, trivial⟩ (fun _ w => ((.k (.k (.k (.k .z)))) : Keep _ _).sat w)
   ·rintro e1
    refine St.region ?_
    refine St.p rfl rfl ?_
    refine St.p rfl rfl ?_
    obtain ⟨r5, hr5, h⟩ := bnd_e h
    refine St.call (c_made_Dice_Text hr5) ent47 rfl rfl rfl (fun _ w => Sat.dup (G := [.ro (SlL ei64 A3 c3 r2.1.L)]) rfl ⟨(.tail _ (.head _)), trivial⟩ (w.front (.s .z))) ?_
    rintro _ _ ⟨A6, c6, rfl, rfl⟩
    refine St.asrt (F' := .ro (SlL ei64 A6 c6 r5.1.L) :: .res (Box gb1 62 [.slice A6 r5.1.L.length c6, .int .i64 r5.1.At]) :: .ro (SlL ei64 A3 c3 r2.1.L) :: .res (Box g2 60 [.int .i64 r1.2, .string (⟨#[]⟩)]) :: .res (Box g1 60 [.int .i64 0, .string (⟨#[]⟩)]) :: R) (fun _ w => w) ?_
    refine St.p rfl rfl ?_
    refine St.store 1 rfl rfl rfl rfl rfl rfl (.s (.s (.s .z))) rfl ?_
    refine St.done ?_
    refine St.blkN ?_
    refine St.thenN ?_
    refine St.prune (Γ' := [(0, _), (2, _), (3, _)]) ⟨rfl, rfl, rfl, trivial⟩ (.k (.k (.k (.d (.k .z))))) ?_
    refine St.seq ?_
    refine St.seq ?_
    refine St.region ?_
    refine St.p rfl rfl ?_
    obtain ⟨r6, hr6, h⟩ := bnd_e h
    refine St.call (c_made_Dice_Bool hr6) ent24 rfl rfl rfl (fun _ w => Sat.dup (G := [.ro (SlL ei64 A6 c6 r5.1.L)]) rfl ⟨(.tail _ (.tail _ (.head _))), trivial⟩ (w.front (.s (.s .z)))) ?_
    rintro _ _ ⟨A7, c7, rfl, rfl⟩
    refine St.asrt (F' := .ro (SlL ei64 A7 c7 r6.1.L) :: .res (Box gb1 62 [.slice A7 r6.1.L.length c7, .int .i64 r6.1.At]) :: .res (Box g2 60 [.int .i64 r1.2, .string r5.2]) :: .ro (SlL ei64 A6 c6 r5.1.L) :: .res (Box g1 60 [.int .i64 0, .string (⟨#[]⟩)]) :: R) (fun _ w => w) ?_
    refine St.done ?_
    refine St.thenN ?_
    refine St.prune (Γ' := [(2, _), (3, _), (44, _)]) ⟨rfl, rfl, rfl, trivial⟩ (.k (.k (.k (.d (.k .z))))) ?_
    refine St.cond _ rfl (fun hb5 => ?_) (fun hb5 => ?_)
    ·replace h := bif_t hb5 h
     refine St.region ?_
     obtain ⟨l2, hl2, h⟩ := bnd_e h
     refine St.mkL (E := eu8) 0 hl2 rfl rfl rfl rfl rfl rfl rfl rfl rfl rfl fun g4 => ?_
     refine St.asrt (fun _ w => (w.front .z).meltL) ?_
     refine St.b2s rfl rfl rfl rfl rfl rfl rfl rfl rfl (srcL (E := eu8) (.head _)) ?_
     refine St.p rfl rfl ?_
     refine St.store 0 rfl rfl rfl rfl rfl rfl (.s (.s (.s .z))) rfl ?_
     refine St.done ?_
     refine St.thenN ?_
     refine St.prune (Γ' := [(2, _), (3, _)]) ⟨rfl, rfl, trivial⟩ (.k (.d (.k (.k (.k .z))))) ?_
     refine St.seq ?_
     refine St.region ?_
     refine St.loadB 0 rfl rfl (.head _) rfl rfl ?_
     refine St.store 0 rfl rfl rfl rfl rfl rfl (.s (.s (.s .z))) rfl ?_
     refine St.done ?_
     refine St.thenN ?_
     refine St.prune (Γ' := [(2, _)]) ⟨rfl, trivial⟩ (.k (.d (.k (.k .z)))) ?_
     refine St.ret ?_
     repeat (first | refine St.thenR ?_ | refine St.blkR ?_)
     injection h with h
     subst h
     exact St.finR Tryd.results46 (.cell rfl (.head _) rfl .nil) rfl [.ro (SlL ei64 A7 c7 r6.1.L), .res (Box gb1 62 [.slice A7 r6.1.L.length c7, .int .i64 r6.1.At])] ⟨A7, c7, rfl, rfl⟩ (fun _ w => ((.k (.k (.d (.d .z)))) : Keep _ _).sat (Sat.dup (G := [.ro (SlL ei64 A7 c7 r6.1.L)]) rfl ⟨(.tail _ (.tail _ (.head _))), trivial⟩ (w.front (.s (.s .z)))))
    ·replace h := bif_f hb5 h
     refine St.skip ?_
     refine St.thenN ?_
     refine St.prune (Γ' := [(2, _), (3, _)]) ⟨rfl, rfl, trivial⟩ (.k (.k (.k (.k .z)))) ?_
     refine St.seq ?_
     refine St.region ?_
     refine St.loadB 0 rfl rfl (.tail _ (.tail _ (.head _))) rfl rfl ?_
     refine St.store 0 rfl rfl rfl rfl rfl rfl (.s (.s (.s .z))) rfl ?_
     refine St.done ?_
     refine St.thenN ?_
     refine St.prune (Γ' := [(2, _)]) ⟨rfl, trivial⟩ (.k (.k (.k (.d .z)))) ?_
     refine St.ret ?_
     repeat (first | refine St.thenR ?_ | refine St.blkR ?_)
     injection h with h
     subst h
     exact St.finR Tryd.results46 (.cell rfl (.head _) rfl .nil) rfl [.ro (SlL ei64 A7 c7 r6.1.L), .res (Box gb1 62 [.slice A7 r6.1.L.length c7, .int .i64 r6.1.At])] ⟨A7, c7, rfl, rfl⟩ (fun _ w => ((.k (.k (.d (.d .z)))) : Keep _ _).sat (Sat.dup (G := [.ro (SlL ei64 A7 c7 r6.1.L)]) rfl ⟨(.tail _ (.tail _ (.head _))), trivial⟩ (w.front (.s (.s .z)))))
  ·replace h := bif_f hb3 h
   refine St.seq ?_
   refine St.region ?_
   refine St.p rfl rfl ?_
   refine St.p rfl rfl ?_
   refine St.done ?_
   refine St.thenN ?_
   refine St.prune (Γ' := [(0, _), (2, _), (3, _), (4, _), (35, _)]) ⟨rfl, rfl, rfl, rfl, rfl, trivial⟩ (.k (.k (.k (.k .z)))) ?_
   refine St.cond _ rfl (fun hb6 => ?_) (fun hb6 => ?_)
   ·replace h := bif_t hb6 h
    refine St.seq ?_
    obtain ⟨o2, hj2, h⟩ := bnd_e h
    refine St.cutE (fun (e2 : Unit) => [(0, .pointer (some ⟨gb1, 0, none⟩)), (2, .pointer (some ⟨g1, 0, none⟩)), (3, .pointer (some ⟨g2, 0, none⟩)), (4, .int .i64 o2)]) (fun e2 => .ro (SlL ei64 A3 c3 r2.1.L) :: .res (Box gb1 62 [.slice A3 r2.1.L.length c3, .int .i64 r2.1.At]) :: .res (Box g2 60 [.int .i64 r1.2, .string (⟨#[]⟩)]) :: .res (Box g1 60 [.int .i64 0, .string (⟨#[]⟩)]) :: R) ?_ ?_
    ·refine St.seq ?_
     refine St.region ?_
     refine St.p rfl rfl ?_
     refine St.p rfl rfl ?_
     refine St.done ?_
     refine St.thenN ?_
     refine St.prune (Γ' := [(0, _), (2, _), (3, _), (4, _), (38, _)]) ⟨rfl, rfl, rfl, rfl, rfl, trivial⟩ (.k (.k (.k (.k .z)))) ?_
     refine St.cond _ rfl (fun hb7 => ?_) (fun hb7 => ?_)
     ·replace hj2 := bif_t hb7 hj2
      refine St.region ?_
      refine St.p rfl rfl ?_
      refine St.done ?_
      injection hj2 with hj2
      subst hj2
      refine St.thenN ?_
      exact St.hereE () ⟨rfl, rfl, rfl, rfl, trivial⟩ (fun _ w => ((.k (.k (.k (.k .z)))) : Keep _ _).sat w)
     ·replace hj2 := bif_f hb7 hj2
      refine St.skip ?_
      injection hj2 with hj2
      subst hj2
      refine St.thenN ?_
      exact St.hereE () ⟨rfl, rfl, rfl, rfl, trivial⟩ (fun _ w => ((.k (.k (.k (.k .z)))) : Keep _ _).sat w)
    ·rintro e2
     refine St.region ?_
     refine St.p rfl rfl ?_
     refine St.p rfl rfl ?_
     obtain ⟨r7, hr7, h⟩ := bnd_e h
     refine St.call (c_made_Dice_Text hr7) ent47 rfl rfl rfl (fun _ w => Sat.dup (G := [.ro (SlL ei64 A3 c3 r2.1.L)]) rfl ⟨(.tail _ (.head _)), trivial⟩ (w.front (.s .z))) ?_
     rintro _ _ ⟨A8, c8, rfl, rfl⟩
     refine St.asrt (F' := .ro (SlL ei64 A8 c8 r7.1.L) :: .res (Box gb1 62 [.slice A8 r7.1.L.length c8, .int .i64 r7.1.At]) :: .ro (SlL ei64 A3 c3 r2.1.L) :: .res (Box g2 60 [.int .i64 r1.2, .string (⟨#[]⟩)]) :: .res (Box g1 60 [.int .i64 0, .string (⟨#[]⟩)]) :: R) (fun _ w => w) ?_
     refine St.p rfl rfl ?_
     refine St.store 1 rfl rfl rfl rfl rfl rfl (.s (.s (.s .z))) rfl ?_
     refine St.done ?_
     refine St.blkN ?_
     refine St.thenN ?_
     refine St.prune (Γ' := [(0, _), (2, _), (3, _)]) ⟨rfl, rfl, rfl, trivial⟩ (.k (.k (.k (.d (.k .z))))) ?_
     refine St.seq ?_
     refine St.seq ?_
     refine St.region ?_
     refine St.p rfl rfl ?_
     obtain ⟨r8, hr8, h⟩ := bnd_e h
     refine St.call (c_made_Dice_Bool hr8) ent24 rfl rfl rfl (fun _ w => Sat.dup (G := [.ro (SlL ei64 A8 c8 r7.1.L)]) rfl ⟨(.tail _ (.tail _ (.head _))), trivial⟩ (w.front (.s (.s .z)))) ?_
     rintro _ _ ⟨A9, c9, rfl, rfl⟩
     refine St.asrt (F' := .ro (SlL ei64 A9 c9 r8.1.L) :: .res (Box gb1 62 [.slice A9 r8.1.L.length c9, .int .i64 r8.1.At]) :: .res (Box g2 60 [.int .i64 r1.2, .string r7.2]) :: .ro (SlL ei64 A8 c8 r7.1.L) :: .res (Box g1 60 [.int .i64 0, .string (⟨#[]⟩)]) :: R) (fun _ w => w) ?_
     refine St.done ?_
     refine St.thenN ?_
     refine St.prune (Γ' := [(2, _), (3, _), (44, _)]) ⟨rfl, rfl, rfl, trivial⟩ (.k (.k (.k (.d (.k .z))))) ?_
     refine St.cond _ rfl (fun hb8 => ?_) (fun hb8 => ?_)
     ·replace h := bif_t hb8 h
      refine St.region ?_
      obtain ⟨l3, hl3, h⟩ := bnd_e h
      refine St.mkL (E := eu8) 0 hl3 rfl rfl rfl rfl rfl rfl rfl rfl rfl rfl fun g5 => ?_
      refine St.asrt (fun _ w => (w.front .z).meltL) ?_
      refine St.b2s rfl rfl rfl rfl rfl rfl rfl rfl rfl (srcL (E := eu8) (.head _)) ?_
      refine St.p rfl rfl ?_
      refine St.store 0 rfl rfl rfl rfl rfl rfl (.s (.s (.s .z))) rfl ?_
      refine St.done ?_
      refine St.thenN ?_
      refine St.prune (Γ' := [(2, _), (3, _)]) ⟨rfl, rfl, trivial⟩ (.k (.d (.k (.k (.k .z))))) ?_
      refine St.seq ?_
      refine St.region ?_
      refine St.loadB 0 rfl rfl (.head _) rfl rfl ?_
      refine St.store 0 rfl rfl rfl rfl rfl rfl (.s (.s (.s .z))) rfl ?_
      refine St.done ?_
      refine St.thenN ?_
      refine St.prune (Γ' := [(2, _)]) ⟨rfl, trivial⟩ (.k (.d (.k (.k .z)))) ?_
      refine St.ret ?_
      repeat (first | refine St.thenR ?_ | refine St.blkR ?_)
      injection h with h
      subst h
      exact St.finR Tryd.results46 (.cell rfl (.head _) rfl .nil) rfl [.ro (SlL ei64 A9 c9 r8.1.L), .res (Box gb1 62 [.slice A9 r8.1.L.length c9, .int .i64 r8.1.At])] ⟨A9, c9, rfl, rfl⟩ (fun _ w => ((.k (.k (.d (.d .z)))) : Keep _ _).sat (Sat.dup (G := [.ro (SlL ei64 A9 c9 r8.1.L)]) rfl ⟨(.tail _ (.tail _ (.head _))), trivial⟩ (w.front (.s (.s .z)))))
     ·replace h := bif_f hb8 h
      refine St.skip ?_
      refine St.thenN ?_
      refine St.prune (Γ' := [(2, _), (3, _)]) ⟨rfl, rfl, trivial⟩ (.k (.k (.k (.k .z)))) ?_
      refine St.seq ?_
      refine St.region ?_
      refine St.loadB 0 rfl rfl (.tail _ (.tail _ (.head _))) rfl rfl ?_
      refine St.store 0 rfl rfl rfl rfl rfl rfl (.s (.s (.s .z))) rfl ?_
      refine St.done ?_
      refine St.thenN ?_
      refine St.prune (Γ' := [(2, _)]) ⟨rfl, trivial⟩ (.k (.k (.k (.d .z)))) ?_
      refine St.ret ?_
      repeat (first | refine St.thenR ?_ | refine St.blkR ?_)
      injection h with h
      subst h
      exact St.finR Tryd.results46 (.cell rfl (.head _) rfl .nil) rfl [.ro (SlL ei64 A9 c9 r8.1.L), .res (Box gb1 62 [.slice A9 r8.1.L.length c9, .int .i64 r8.1.At])] ⟨A9, c9, rfl, rfl⟩ (fun _ w => ((.k (.k (.d (.d .z)))) : Keep _ _).sat (Sat.dup (G := [.ro (SlL ei64 A9 c9 r8.1.L)]) rfl ⟨(.tail _ (.tail _ (.head _))), trivial⟩ (w.front (.s (.s .z)))))
   ·replace h := bif_f hb6 h
    refine St.region ?_
    refine St.p rfl rfl ?_
    refine St.p rfl rfl ?_
    obtain ⟨r9, hr9, h⟩ := bnd_e h
    refine St.call (c_made_Dice_Bytes hr9) ent33 rfl rfl rfl (fun _ w => Sat.dup (G := [.ro (SlL ei64 A3 c3 r2.1.L)]) rfl ⟨(.tail _ (.head _)), trivial⟩ (w.front (.s .z))) ?_
    rintro _ _ ⟨A10, c10, A11, c11, rfl, rfl⟩
    refine St.asrt (F' := .ro (SlL ei64 A10 c10 r9.1.L) :: .res (Box gb1 62 [.slice A10 r9.1.L.length c10, .int .i64 r9.1.At]) :: .res (OwnL eu8 5 A11 c11 r9.2) :: .ro (SlL ei64 A3 c3 r2.1.L) :: .res (Box g2 60 [.int .i64 r1.2, .string (⟨#[]⟩)]) :: .res (Box g1 60 [.int .i64 0, .string (⟨#[]⟩)]) :: R) (fun _ w => w) ?_
    refine St.asrt (fun _ w => (w.front (.s (.s .z))).meltL) ?_
    refine St.b2s rfl rfl rfl rfl rfl rfl rfl rfl rfl (srcL (E := eu8) (.head _)) ?_
    refine St.p rfl rfl ?_
    refine St.store 1 rfl rfl rfl rfl rfl rfl (.s (.s (.s (.s .z)))) rfl ?_
    refine St.done ?_
    refine St.blkN ?_
    refine St.thenN ?_
    refine St.prune (Γ' := [(0, _), (2, _), (3, _)]) ⟨rfl, rfl, rfl, trivial⟩ (.k (.d (.k (.k (.d (.k .z)))))) ?_
    refine St.seq ?_
    refine St.seq ?_
    refine St.region ?_
    refine St.p rfl rfl ?_
    obtain ⟨r10, hr10, h⟩ := bnd_e h
    refine St.call (c_made_Dice_Bool hr10) ent24 rfl rfl rfl (fun _ w => Sat.dup (G := [.ro (SlL ei64 A10 c10 r9.1.L)]) rfl ⟨(.tail _ (.tail _ (.head _))), trivial⟩ (w.front (.s (.s .z)))) ?_
    rintro _ _ ⟨A12, c12, rfl, rfl⟩
    refine St.asrt (F' := .ro (SlL ei64 A12 c12 r10.1.L) :: .res (Box gb1 62 [.slice A12 r10.1.L.length c12, .int .i64 r10.1.At]) :: .res (Box g2 60 [.int .i64 r1.2, .string (strOf r9.2)]) :: .ro (SlL ei64 A10 c10 r9.1.L) :: .res (Box g1 60 [.int .i64 0, .string (⟨#[]⟩)]) :: R) (fun _ w => w) ?_
    refine St.done ?_
    refine St.thenN ?_
    refine St.prune (Γ' := [(2, _), (3, _), (44, _)]) ⟨rfl, rfl, rfl, trivial⟩ (.k (.k (.k (.d (.k .z))))) ?_
    refine St.cond _ rfl (fun hb9 => ?_) (fun hb9 => ?_)
    ·replace h := bif_t hb9 h
     refine St.region ?_
     obtain ⟨l4, hl4, h⟩ := bnd_e h
     refine St.mkL (E := eu8) 0 hl4 rfl rfl rfl rfl rfl rfl rfl rfl rfl rfl fun g6 => ?_
     refine St.asrt (fun _ w => (w.front .z).meltL) ?_
     refine St.b2s rfl rfl rfl rfl rfl rfl rfl rfl rfl (srcL (E := eu8) (.head _)) ?_
     refine St.p rfl rfl ?_
     refine St.store 0 rfl rfl rfl rfl rfl rfl (.s (.s (.s .z))) rfl ?_
     refine St.done ?_
     refine St.thenN ?_
     refine St.prune (Γ' := [(2, _), (3, _)]) ⟨rfl, rfl, trivial⟩ (.k (.d (.k (.k (.k .z))))) ?_
     refine St.seq ?_
     refine St.region ?_
     refine St.loadB 0 rfl rfl (.head _) rfl rfl ?_
     refine St.store 0 rfl rfl rfl rfl rfl rfl (.s (.s (.s .z))) rfl ?_
     refine St.done ?_
     refine St.thenN ?_
     refine St.prune (Γ' := [(2, _)]) ⟨rfl, trivial⟩ (.k (.d (.k (.k .z)))) ?_
     refine St.ret ?_
     repeat (first | refine St.thenR ?_ | refine St.blkR ?_)
     injection h with h
     subst h
     exact St.finR Tryd.results46 (.cell rfl (.head _) rfl .nil) rfl [.ro (SlL ei64 A12 c12 r10.1.L), .res (Box gb1 62 [.slice A12 r10.1.L.length c12, .int .i64 r10.1.At])] ⟨A12, c12, rfl, rfl⟩ (fun _ w => ((.k (.k (.d (.d .z)))) : Keep _ _).sat (Sat.dup (G := [.ro (SlL ei64 A12 c12 r10.1.L)]) rfl ⟨(.tail _ (.tail _ (.head _))), trivial⟩ (w.front (.s (.s .z)))))
    ·replace h := bif_f hb9 h
     refine St.skip ?_
     refine St.thenN ?_
     refine St.prune (Γ' := [(2, _), (3, _)]) ⟨rfl, rfl, trivial⟩ (.k (.k (.k (.k .z)))) ?_
     refine St.seq ?_
     refine St.region ?_
     refine St.loadB 0 rfl rfl (.tail _ (.tail _ (.head _))) rfl rfl ?_
     refine St.store 0 rfl rfl rfl rfl rfl rfl (.s (.s (.s .z))) rfl ?_
     refine St.done ?_
     refine St.thenN ?_
     refine St.prune (Γ' := [(2, _)]) ⟨rfl, trivial⟩ (.k (.k (.k (.d .z)))) ?_
     refine St.ret ?_
     repeat (first | refine St.thenR ?_ | refine St.blkR ?_)
     injection h with h
     subst h
     exact St.finR Tryd.results46 (.cell rfl (.head _) rfl .nil) rfl [.ro (SlL ei64 A12 c12 r10.1.L), .res (Box gb1 62 [.slice A12 r10.1.L.length c12, .int .i64 r10.1.At])] ⟨A12, c12, rfl, rfl⟩ (fun _ w => ((.k (.k (.d (.d .z)))) : Keep _ _).sat (Sat.dup (G := [.ro (SlL ei64 A12 c12 r10.1.L)]) rfl ⟨(.tail _ (.tail _ (.head _))), trivial⟩ (w.front (.s (.s .z)))))

theorem ent45 : Ent Tryd.prog 45 := ⟨_, Tryd.func45, by kernel_rfl, by kernel_rfl⟩

noncomputable def m_made_Dice_Fields (d_p0 : T_Dice) (least : Int) : Option (T_Dice × (List T_Field)) :=
 bnd (m_made_Dice_Next d_p0 3) fun r1 => bnd ((bnd (m_made_Dice_Bool r1.1 10) fun r2 => bif r2.2 then (some (16, r2.1.L, r2.1.At)) else (some (IntKind.wrap .i64 (least + r1.2), r2.1.L, r2.1.At)) : Option (Int × List Int × Int))) fun o1 => bnd (loopM (τ := List T_Field × List Int × Int) (fun (s1 : List T_Field × Int × List Int × Int) => bif decide (s1.2.1 < (min o1.1 16)) then (bnd (m_made_Dice_Field (⟨s1.2.2.1, s1.2.2.2⟩ : T_Dice)) fun r3 => bnd (app 24 s1.1 [r3.2]) fun l1 => some (.next (l1, IntKind.wrap .i64 (s1.2.1 + 1), r3.1.L, r3.1.At))) else (some (.done (s1.1, s1.2.2.1, s1.2.2.2)))) ([], 0, o1.2.1, o1.2.2)) fun o2 => some ((⟨o2.2.1, o2.2.2⟩ : T_Dice), o2.1)

end Go.Proofs.YtcekbbbjagfacaaDoor
