/-
 Models of functions of the program, and that the functions compute them.
 Conditions: none.
-/
import Derived.Test.YtgnmhmnglbbamaaGen
namespace Go.Proofs.Ytgnmhmnglbbamaa
open Go
set_option linter.unusedVariables false
set_option maxRecDepth 4000

theorem ent21 : Ent Try.prog 21 := ⟨_, Try.func21, by kernel_rfl, by kernel_rfl⟩

noncomputable def m_law28_seal (b_p0 : (List Int)) : Option (List Int) :=
 bnd (m_ref01_CRC32 b_p0) fun r1 => bnd (app 1 ([]) b_p0) fun l1 => bnd (app 1 l1 [IntKind.wrap .u8 (iShr .u32 r1 24), IntKind.wrap .u8 (iShr .u32 r1 16), IntKind.wrap .u8 (iShr .u32 r1 8), IntKind.wrap .u8 r1]) fun l2 => some l2

theorem c_law28_seal {b_p0 : (List Int)} {A1 : Option Addr} {c1 : Nat} {r : (List Int)} (h : m_law28_seal b_p0 = some r) :
  Fun Try.prog 21 [.slice A1 b_p0.length c1] [.ro (SlL eu8 A1 c1 b_p0)] (fun v_ F_ => ∃ (A1 : Option Addr) (c1 : Nat), v_ = .slice A1 r.length c1 ∧ F_ = [.res (OwnL eu8 5 A1 c1 r)]) := by
 unfold m_law28_seal at h
 refine Fun.intro Try.func21 rfl rfl rfl fun w R => ?_
 refine St.seq ?_
 refine St.region ?_
 refine St.p rfl rfl ?_
 refine St.done ?_
 refine St.thenN ?_
 refine St.prune (Γ' := [(0, _)]) ⟨rfl, trivial⟩ (.k .z) ?_
 refine St.seq ?_
 refine St.region ?_
 refine St.p rfl rfl ?_
 obtain ⟨r1, hr1, h⟩ := bnd_e h
 refine St.callV (c_ref01_CRC32 hr1) ent38 rfl rfl rfl rfl ⟨(.head _), trivial⟩ ?_
 refine St.p rfl rfl ?_
 refine St.done ?_
 refine St.thenN ?_
 refine St.prune (Γ' := [(0, _), (3, _)]) ⟨rfl, rfl, trivial⟩ (.k .z) ?_
 refine St.seq ?_
 refine St.region ?_
 refine St.p rfl rfl ?_
 refine St.asrt (fun _ w => w.nilL eu8 5) ?_
 obtain ⟨l1, hl1, h⟩ := bnd_e h
 refine St.app (E := eu8) hl1 rfl rfl rfl .z rfl rfl rfl rfl rfl rfl rfl rfl (srcL (.tail _ (.head _))) rfl rfl fun A2 c2 => ?_
 iterate 11 refine St.p rfl rfl ?_
 refine St.buildSlice rfl rfl rfl rfl rfl rfl rfl rfl fun g1 => ?_
 obtain ⟨l2, hl2, h⟩ := bnd_e h
 refine St.app (E := eu8) hl2 rfl rfl rfl (.s .z) rfl rfl rfl rfl rfl rfl rfl rfl (srcB (.head _) rfl rfl) rfl rfl fun A3 c3 => ?_
 refine St.p rfl rfl ?_
 refine St.done ?_
 refine St.thenN ?_
 refine St.prune (Γ' := [(2, _)]) ⟨rfl, trivial⟩ (.k (.d (.d .z))) ?_
 refine St.ret ?_
 repeat (first | refine St.thenR ?_ | refine St.blkR ?_)
 injection h with h
 subst h
 exact St.finR Try.results21 (.tmp rfl .nil) rfl [.res (OwnL eu8 5 A3 c3 l2)] ⟨A3, c3, rfl, rfl⟩ (fun _ w => ((.k .z) : Keep _ _).sat w)

theorem ent52 : Ent Try.prog 52 := ⟨_, Try.func52, by kernel_rfl, by kernel_rfl⟩

noncomputable def m_ref28_reader_take (r_p0 : T_ref28_reader) (n_p1 : Int) : Option (T_ref28_reader × (List Int)) :=
 bnd ((bif r_p0.bad then (some true) else (some (decide (n_p1 > (IntKind.wrap .i64 ((r_p0.b.length : Int) - r_p0.at_))))) : Option Bool)) fun o1 => bif o1 then (some ((⟨r_p0.b, r_p0.at_, true⟩ : T_ref28_reader), [])) else (bnd (sub r_p0.b (IntKind.wrap .i64 ((IntKind.wrap .i64 (r_p0.at_ + n_p1)) - n_p1)) (IntKind.wrap .i64 (r_p0.at_ + n_p1))) fun l1 => bnd (app 1 ([]) l1) fun l2 => some ((⟨r_p0.b, IntKind.wrap .i64 (r_p0.at_ + n_p1), r_p0.bad⟩ : T_ref28_reader), l2))

theorem c_ref28_reader_take {r_p0 : T_ref28_reader} {n_p1 : Int} {A1 : Option Addr} {c1 : Nat} {gb1 : Nat} {r : (T_ref28_reader × (List Int))} (h : m_ref28_reader_take r_p0 n_p1 = some r) :
  Fun Try.prog 52 [.pointer (some ⟨gb1, 0, none⟩), .int .i64 n_p1] [.ro (SlL eu8 A1 c1 r_p0.b), .res (Box gb1 86 [.slice A1 r_p0.b.length c1, .int .i64 r_p0.at_, .bool r_p0.bad])] (fun v_ F_ => ∃ (A1 : Option Addr) (c1 : Nat) (A2 : Option Addr) (c2 : Nat), v_ = .slice A2 r.2.length c2 ∧ F_ = [.ro (SlL eu8 A1 c1 r.1.b), .res (Box gb1 86 [.slice A1 r.1.b.length c1, .int .i64 r.1.at_, .bool r.1.bad]), .res (OwnL eu8 5 A2 c2 r.2)]) := by
 unfold m_ref28_reader_take at h
 refine Fun.intro Try.func52 rfl rfl rfl fun w R => ?_
 refine St.seq ?_
 refine St.region ?_
 refine St.p rfl rfl ?_
 refine St.done ?_
 refine St.thenN ?_
 refine St.prune (Γ' := [(0, _), (1, _)]) ⟨rfl, rfl, trivial⟩ (.k (.k .z)) ?_
 refine St.seq ?_
 refine St.seq ?_
 obtain ⟨o1, hj1, h⟩ := bnd_e h
 refine St.cutE (fun (e1 : Unit) => [(0, .pointer (some ⟨gb1, 0, none⟩)), (1, .int .i64 n_p1), (22, .bool o1)]) (fun e1 => .ro (SlL eu8 A1 c1 r_p0.b) :: .res (Box gb1 86 [.slice A1 r_p0.b.length c1, .int .i64 r_p0.at_, .bool r_p0.bad]) :: R) ?_ ?_
 ·refine St.regionF mixed (by kernel_rfl) ?_
  iterate 3 refine St.p rfl rfl ?_
  refine St.loadB 2 rfl rfl (.tail _ (.head _)) rfl rfl ?_
  refine St.p rfl rfl ?_
  refine St.gSplit (dj := 9) _ rfl (fun hb1 => ?_) (fun hb1 => ?_)
  ·replace hj1 := bif_t hb1 hj1
   refine St.gOff (dj := 9) rfl rfl rfl rfl ?_
   refine St.gOff (dj := 9) rfl rfl rfl rfl ?_
   refine St.gOff (dj := 9) rfl rfl rfl rfl ?_
   refine St.gOff (dj := 9) rfl rfl rfl rfl ?_
   refine St.gOff (dj := 9) rfl rfl rfl rfl ?_
   refine St.gOff (dj := 9) rfl rfl rfl rfl ?_
   refine St.gOff (dj := 9) rfl rfl rfl rfl ?_
   refine St.gOff (dj := 9) rfl rfl rfl rfl ?_
   refine St.gOff (dj := 9) rfl rfl rfl rfl ?_
   refine St.gOff (dj := 9) rfl rfl rfl rfl ?_
   refine St.gOff (dj := 9) rfl rfl rfl rfl ?_
   refine St.gOff (dj := 9) rfl rfl rfl rfl ?_
   refine St.p rfl rfl ?_
   refine St.doneQ ?_
   injection hj1 with hj1
   subst hj1
   refine St.thenN ?_
   exact St.hereE () ⟨rfl, rfl, rfl, trivial⟩ (fun _ w => ((.k (.k .z)) : Keep _ _).sat w)
  ·replace hj1 := bif_f hb1 hj1
   refine St.gOn (dj := 9) rfl rfl ?_
   refine St.p rfl rfl ?_
   refine St.gOn (dj := 9) rfl rfl ?_
   refine St.p rfl rfl ?_
   refine St.gOn (dj := 9) rfl rfl ?_
   refine St.p rfl rfl ?_
   refine St.gOn (dj := 9) rfl rfl ?_
   refine St.p rfl rfl ?_
   refine St.gOn (dj := 9) rfl rfl ?_
   refine St.loadB 0 rfl rfl (.tail _ (.head _)) rfl rfl ?_
   refine St.gOn (dj := 9) rfl rfl ?_
   refine St.p rfl rfl ?_
   refine St.gOn (dj := 9) rfl rfl ?_
   refine St.p rfl rfl ?_
   refine St.gOn (dj := 9) rfl rfl ?_
   refine St.p rfl rfl ?_
   refine St.gOn (dj := 9) rfl rfl ?_
   refine St.p rfl rfl ?_
   refine St.gOn (dj := 9) rfl rfl ?_
   refine St.loadB 1 rfl rfl (.tail _ (.head _)) rfl rfl ?_
   refine St.gOn (dj := 9) rfl rfl ?_
   refine St.p rfl rfl ?_
   refine St.gOn (dj := 9) rfl rfl ?_
   refine St.p rfl rfl ?_
   refine St.p rfl rfl ?_
   refine St.doneQ ?_
   injection hj1 with hj1
   subst hj1
   refine St.thenN ?_
   exact St.hereE () ⟨rfl, rfl, rfl, trivial⟩ (fun _ w => ((.k (.k .z)) : Keep _ _).sat w)
 ·rintro e1
  refine St.cond _ rfl (fun hb2 => ?_) (fun hb2 => ?_)
  ·replace h := bif_t hb2 h
   refine St.seq ?_
   refine St.region ?_
   iterate 3 refine St.p rfl rfl ?_
   refine St.store 2 rfl rfl rfl rfl rfl rfl (.s .z) rfl ?_
   refine St.done ?_
   refine St.thenN ?_
   refine St.prune (Γ' := []) trivial (.k (.k .z)) ?_
   refine St.seq ?_
   refine St.region ?_
   refine St.p rfl rfl ?_
   refine St.done ?_
   refine St.thenN ?_
   refine St.ret ?_
   repeat (first | refine St.thenR ?_ | refine St.blkR ?_)
   refine St.asrt (fun _ w => w.nilL eu8 5) ?_
   injection h with h
   subst h
   exact St.finR Try.results52 (.tmp rfl .nil) rfl [.ro (SlL eu8 A1 c1 r_p0.b), .res (Box gb1 86 [.slice A1 r_p0.b.length c1, .int .i64 r_p0.at_, .bool true]), .res (OwnL eu8 5 none 0 ([] : List Int))] ⟨A1, c1, none, 0, rfl, rfl⟩ (fun _ w => ((.k (.k (.k (.d .z)))) : Keep _ _).sat (Sat.dup (G := [.ro (SlL eu8 A1 c1 r_p0.b)]) rfl ⟨(.tail _ (.tail _ (.head _))), trivial⟩ ((w.front .z).front (.s .z))))
  ·replace h := bif_f hb2 h
   refine St.skip ?_
   refine St.thenN ?_
   refine St.prune (Γ' := [(0, _), (1, _)]) ⟨rfl, rfl, trivial⟩ (.k (.k .z)) ?_
   refine St.seq ?_
   refine St.region ?_
   iterate 3 refine St.p rfl rfl ?_
   refine St.loadB 1 rfl rfl (.tail _ (.head _)) rfl rfl ?_
   iterate 4 refine St.p rfl rfl ?_
   refine St.store 1 rfl rfl rfl rfl rfl rfl (.s .z) rfl ?_
   refine St.done ?_
   refine St.thenN ?_
   refine St.prune (Γ' := [(0, _), (1, _)]) ⟨rfl, rfl, trivial⟩ (.k (.k .z)) ?_
   refine St.seq ?_
   refine St.regionX (iL [(.fl, 0), (.fl, 1), (.fl, 2), (.fx, 3), (.fl, 4), (.fl, 5), (.fl, 6), (.fx, 7), (.fl, 8), (.fl, 9), (.fl, 10), (.fl, 11), (.fl, 12), (.fx, 13), (.fx, 14), (.ef, 15), (.fl, 16)] .nil) (.res (Box gb1 86 [.slice A1 r_p0.b.length c1, .int .i64 (IntKind.wrap .i64 (r_p0.at_ + n_p1)), .bool r_p0.bad]) :: .ro (SlL eu8 A1 c1 r_p0.b) :: R) mixed (by kernel_rfl) (fun _ w => ((.k (.k .z)) : Keep _ _).sat w) ?_
   refine St.xfl (fun _ h => h) (Rd.p rfl) rfl ?_
   refine St.xfl (fun _ h => h) (Rd.p rfl) rfl ?_
   refine St.xfl (fun _ h => h) (Rd.p rfl) rfl ?_
   refine St.xfx (Rd.loadB 0 rfl (.head _) rfl rfl) rfl ?_
   refine St.xfl (fun _ h => h) (Rd.p rfl) rfl ?_
   refine St.xfl (fun _ h => h) (Rd.p rfl) rfl ?_
   refine St.xfl (fun _ h => h) (Rd.p rfl) rfl ?_
   refine St.xfx (Rd.loadB 1 rfl (.head _) rfl rfl) rfl ?_
   refine St.xfl (fun _ h => h) (Rd.p rfl) rfl ?_
   refine St.xfl (fun _ h => h) (Rd.p rfl) rfl ?_
   refine St.xfl (fun _ h => h) (Rd.p rfl) rfl ?_
   refine St.xfl (fun _ h => h) (Rd.p rfl) rfl ?_
   refine St.xfl (fun _ h => h) (Rd.p rfl) rfl ?_
   refine St.xfx (Rd.loadB 1 rfl (.head _) rfl rfl) rfl ?_
   obtain ⟨l1, hl1, h⟩ := bnd_e h
   refine St.openS (.tail _ (.head _)) hl1 fun A2 c2 hS1 => ?_
   have hc1 := fun w h => Sat.addS hS1 (.tail _ (.head _)) hl1 ((fun (w : World) (h : Sat (.res (Box gb1 86 [.slice A1 r_p0.b.length c1, .int .i64 (IntKind.wrap .i64 (r_p0.at_ + n_p1)), .bool r_p0.bad]) :: .ro (SlL eu8 A1 c1 r_p0.b) :: R) w) => h) w h)
   refine St.xfx (Rd.sub hS1 hl1 (.tail _ (.tail _ (.head _))) rfl rfl rfl rfl rfl rfl rfl rfl) rfl ?_
   refine St.xef ?_
   refine St.asrt (fun _ w => w.nilL eu8 5) ?_
   obtain ⟨l2, hl2, h⟩ := bnd_e h
   refine St.app (E := eu8) hl2 rfl rfl rfl .z rfl rfl rfl rfl rfl rfl rfl rfl (srcL (.tail _ (.head _))) rfl rfl fun A3 c3 => ?_
   refine St.xk (fun _ w => ((.d (.d (.k (.k .z)))) : Keep _ _).sat w) ?_
   refine St.xfl (fun _ h => h) (Rd.p rfl) rfl ?_
   refine St.xdone ?_
   refine St.thenN ?_
   refine St.prune (Γ' := [(4, _)]) ⟨rfl, trivial⟩ (.k (.d (.k (.k .z)))) ?_
   refine St.ret ?_
   repeat (first | refine St.thenR ?_ | refine St.blkR ?_)
   injection h with h
   subst h
   exact St.finR Try.results52 (.tmp rfl .nil) rfl [.ro (SlL eu8 A1 c1 r_p0.b), .res (Box gb1 86 [.slice A1 r_p0.b.length c1, .int .i64 (IntKind.wrap .i64 (r_p0.at_ + n_p1)), .bool r_p0.bad]), .res (OwnL eu8 5 A3 c3 l2)] ⟨A1, c1, A3, c3, rfl, rfl⟩ (fun _ w => ((.k (.k (.k (.d .z)))) : Keep _ _).sat (Sat.dup (G := [.ro (SlL eu8 A1 c1 r_p0.b)]) rfl ⟨(.tail _ (.tail _ (.head _))), trivial⟩ ((w.front .z).front (.s .z))))

theorem ent53 : Ent Try.prog 53 := ⟨_, Try.func53, by kernel_rfl, by kernel_rfl⟩

noncomputable def m_ref28_reader_number (r_p0 : T_ref28_reader) (bytes : Int) : Option (T_ref28_reader × Int) :=
 bnd (m_ref28_reader_take r_p0 bytes) fun r1 => bnd (loopM (τ := Int) (fun (s1 : Int × Int) => bif decide (s1.2 < (r1.2.length : Int)) then (bnd (elt r1.2 s1.2) fun x1 => some (.next (iOr .i64 (iShl .i64 s1.1 8) (IntKind.wrap .i64 x1), IntKind.wrap .i64 (s1.2 + 1)))) else (some (.done s1.1))) (0, 0)) fun o1 => some (r1.1, o1)

theorem c_ref28_reader_number {r_p0 : T_ref28_reader} {bytes : Int} {A1 : Option Addr} {c1 : Nat} {gb1 : Nat} {r : (T_ref28_reader × Int)} (h : m_ref28_reader_number r_p0 bytes = some r) :
  Fun Try.prog 53 [.pointer (some ⟨gb1, 0, none⟩), .int .i64 bytes] [.ro (SlL eu8 A1 c1 r_p0.b), .res (Box gb1 86 [.slice A1 r_p0.b.length c1, .int .i64 r_p0.at_, .bool r_p0.bad])] (fun v_ F_ => ∃ (A1 : Option Addr) (c1 : Nat), v_ = .int .i64 r.2 ∧ F_ = [.ro (SlL eu8 A1 c1 r.1.b), .res (Box gb1 86 [.slice A1 r.1.b.length c1, .int .i64 r.1.at_, .bool r.1.bad])]) := by
 unfold m_ref28_reader_number at h
 refine Fun.intro Try.func53 rfl rfl rfl fun w R => ?_
 refine St.seq ?_
 refine St.region ?_
 refine St.p rfl rfl ?_
 refine St.done ?_
 refine St.thenN ?_
 refine St.prune (Γ' := [(0, _), (1, _)]) ⟨rfl, rfl, trivial⟩ (.k (.k .z)) ?_
 refine St.seq ?_
 refine St.region ?_
 refine St.p rfl rfl ?_
 refine St.done ?_
 refine St.thenN ?_
 refine St.seq ?_
 refine St.seq ?_
 refine St.region ?_
 refine St.p rfl rfl ?_
 refine St.p rfl rfl ?_
 obtain ⟨r1, hr1, h⟩ := bnd_e h
 refine St.call (c_ref28_reader_take hr1) ent52 rfl rfl rfl (fun _ w => Sat.dup (G := [.ro (SlL eu8 A1 c1 r_p0.b)]) rfl ⟨(.tail _ (.head _)), trivial⟩ (w.front (.s .z))) ?_
 rintro _ _ ⟨A2, c2, A3, c3, rfl, rfl⟩
 refine St.asrt (F' := .ro (SlL eu8 A2 c2 r1.1.b) :: .res (Box gb1 86 [.slice A2 r1.1.b.length c2, .int .i64 r1.1.at_, .bool r1.1.bad]) :: .res (OwnL eu8 5 A3 c3 r1.2) :: .ro (SlL eu8 A1 c1 r_p0.b) :: R) (fun _ w => w) ?_
 refine St.p rfl rfl ?_
 refine St.p rfl rfl ?_
 refine St.done ?_
 refine St.thenN ?_
 refine St.prune (Γ' := [(5, _), (10, _), (11, _), (12, _)]) ⟨rfl, rfl, rfl, rfl, trivial⟩ (.k (.k (.k (.d .z)))) ?_
 obtain ⟨o1, hl1, h⟩ := bnd_e h
 refine St.cutE (fun (e2 : Unit) => [(5, .int .i64 o1)]) (fun e2 => .ro (SlL eu8 A2 c2 r1.1.b) :: .res (Box gb1 86 [.slice A2 r1.1.b.length c2, .int .i64 r1.1.at_, .bool r1.1.bad]) :: R) ?_ ?_
 ·refine St.block ?_
  refine St.loop hl1 (fun (s1 : Int × Int) (e1 : Unit) => [(5, .int .i64 s1.1), (10, .slice A3 r1.2.length c3), (11, .int .i64 (r1.2.length : Int)), (12, .int .i64 s1.2)]) (fun s1 e1 => .ro (SlL eu8 A2 c2 r1.1.b) :: .res (Box gb1 86 [.slice A2 r1.1.b.length c2, .int .i64 r1.1.at_, .bool r1.1.bad]) :: .res (OwnL eu8 5 A3 c3 r1.2) :: R) (fun _ _ => True) () trivial ⟨rfl, rfl, rfl, rfl, trivial⟩ (fun _ w => ((.k (.k (.k .z))) : Keep _ _).sat w) ?_
  rintro s1 e1 - hit1
  obtain ⟨st1, hm1, hd1⟩ := iter_e hit1
  have h1 := hm1
  refine St.seq ?_
  refine St.region ?_
  refine St.p rfl rfl ?_
  refine St.done ?_
  refine St.thenN ?_
  refine St.seq ?_
  refine St.cond _ rfl (fun hb1 => ?_) (fun hb1 => ?_)
  ·replace h1 := bif_t hb1 h1
   refine St.skip ?_
   refine St.thenN ?_
   refine St.prune (Γ' := [(5, _), (10, _), (11, _), (12, _)]) ⟨rfl, rfl, rfl, rfl, trivial⟩ (.k (.k (.k .z))) ?_
   refine St.seq ?_
   refine St.block ?_
   refine St.seq ?_
   refine St.region ?_
   obtain ⟨x1, hx1, h1⟩ := bnd_e h1
   refine St.ixO hx1 rfl rfl rfl (.tail _ (.tail _ (.head _))) rfl rfl rfl rfl rfl fun g1 hA => ?_
   subst hA
   refine St.ldO 0 hx1 rfl rfl (.tail _ (.tail _ (.head _))) rfl rfl ?_
   refine St.p rfl rfl ?_
   refine St.done ?_
   refine St.thenN ?_
   refine St.prune (Γ' := [(5, _), (7, _), (10, _), (11, _), (12, _)]) ⟨rfl, rfl, rfl, rfl, rfl, trivial⟩ (.k (.k (.k .z))) ?_
   refine St.region ?_
   iterate 6 refine St.p rfl rfl ?_
   refine St.done ?_
   refine St.blkN ?_
   refine St.thenN ?_
   refine St.prune (Γ' := [(5, _), (10, _), (11, _), (12, _)]) ⟨rfl, rfl, rfl, rfl, trivial⟩ (.k (.k (.k .z))) ?_
   refine St.region ?_
   refine St.p rfl rfl ?_
   refine St.p rfl rfl ?_
   refine St.done ?_
   injection h1 with h1
   subst h1
   refine St.thenN ?_
   exact St.again _ () hm1 trivial ⟨rfl, rfl, rfl, rfl, trivial⟩ (fun _ w => ((.k (.k (.k .z))) : Keep _ _).sat w)
  ·replace h1 := bif_f hb1 h1
   refine St.exit ?_
   repeat (first | refine St.thenX ?_ | refine St.blkMiss rfl ?_)
   refine St.blkHit ?_
   injection h1 with h1
   subst h1
   have ho := hd1 _ rfl
   subst ho
   refine St.thenN ?_
   exact St.hereE () ⟨rfl, trivial⟩ (fun _ w => ((.k (.k (.d .z))) : Keep _ _).sat w)
 ·rintro e2
  refine St.seq ?_
  refine St.region ?_
  refine St.p rfl rfl ?_
  refine St.p rfl rfl ?_
  refine St.done ?_
  refine St.thenN ?_
  refine St.prune (Γ' := [(4, _)]) ⟨rfl, trivial⟩ (.k (.k .z)) ?_
  refine St.ret ?_
  repeat (first | refine St.thenR ?_ | refine St.blkR ?_)
  injection h with h
  subst h
  exact St.finR Try.results53 (.tmp rfl .nil) rfl [.ro (SlL eu8 A2 c2 r1.1.b), .res (Box gb1 86 [.slice A2 r1.1.b.length c2, .int .i64 r1.1.at_, .bool r1.1.bad])] ⟨A2, c2, rfl, rfl⟩ (fun _ w => ((.k (.k (.d .z))) : Keep _ _).sat (Sat.dup (G := [.ro (SlL eu8 A2 c2 r1.1.b)]) rfl ⟨(.tail _ (.head _)), trivial⟩ (w.front (.s .z))))

theorem ent54 : Ent Try.prog 54 := ⟨_, Try.func54, by kernel_rfl, by kernel_rfl⟩

noncomputable def m_ref28_reader_text (r_p0 : T_ref28_reader) : Option (T_ref28_reader × ByteArray) :=
 bnd (m_ref28_reader_number r_p0 1) fun r1 => bnd (m_ref28_reader_take r1.1 r1.2) fun r2 => some (r2.1, strOf r2.2)

theorem c_ref28_reader_text {r_p0 : T_ref28_reader} {A1 : Option Addr} {c1 : Nat} {gb1 : Nat} {r : (T_ref28_reader × ByteArray)} (h : m_ref28_reader_text r_p0 = some r) :
  Fun Try.prog 54 [.pointer (some ⟨gb1, 0, none⟩)] [.ro (SlL eu8 A1 c1 r_p0.b), .res (Box gb1 86 [.slice A1 r_p0.b.length c1, .int .i64 r_p0.at_, .bool r_p0.bad])] (fun v_ F_ => ∃ (A1 : Option Addr) (c1 : Nat), v_ = .string r.2 ∧ F_ = [.ro (SlL eu8 A1 c1 r.1.b), .res (Box gb1 86 [.slice A1 r.1.b.length c1, .int .i64 r.1.at_, .bool r.1.bad])]) := by
 unfold m_ref28_reader_text at h
 refine Fun.intro Try.func54 rfl rfl rfl fun w R => ?_
 refine St.seq ?_
 refine St.region ?_
 refine St.p rfl rfl ?_
 refine St.done ?_
 refine St.thenN ?_
 refine St.prune (Γ' := [(0, _)]) ⟨rfl, trivial⟩ (.k (.k .z)) ?_
 refine St.seq ?_
 refine St.region ?_
 refine St.p rfl rfl ?_
 refine St.p rfl rfl ?_
 obtain ⟨r1, hr1, h⟩ := bnd_e h
 refine St.call (c_ref28_reader_number hr1) ent53 rfl rfl rfl (fun _ w => Sat.dup (G := [.ro (SlL eu8 A1 c1 r_p0.b)]) rfl ⟨(.tail _ (.head _)), trivial⟩ (w.front (.s .z))) ?_
 rintro _ _ ⟨A2, c2, rfl, rfl⟩
 refine St.asrt (F' := .ro (SlL eu8 A2 c2 r1.1.b) :: .res (Box gb1 86 [.slice A2 r1.1.b.length c2, .int .i64 r1.1.at_, .bool r1.1.bad]) :: .ro (SlL eu8 A1 c1 r_p0.b) :: R) (fun _ w => w) ?_
 obtain ⟨r2, hr2, h⟩ := bnd_e h
 refine St.call (c_ref28_reader_take hr2) ent52 rfl rfl rfl (fun _ w => Sat.dup (G := [.ro (SlL eu8 A2 c2 r1.1.b)]) rfl ⟨(.tail _ (.head _)), trivial⟩ (w.front (.s .z))) ?_
 rintro _ _ ⟨A3, c3, A4, c4, rfl, rfl⟩
 refine St.asrt (F' := .ro (SlL eu8 A3 c3 r2.1.b) :: .res (Box gb1 86 [.slice A3 r2.1.b.length c3, .int .i64 r2.1.at_, .bool r2.1.bad]) :: .res (OwnL eu8 5 A4 c4 r2.2) :: .ro (SlL eu8 A2 c2 r1.1.b) :: .ro (SlL eu8 A1 c1 r_p0.b) :: R) (fun _ w => w) ?_
 refine St.asrt (fun _ w => (w.front (.s (.s .z))).meltL) ?_
 refine St.b2s rfl rfl rfl rfl rfl rfl rfl rfl rfl (srcL (E := eu8) (.head _)) ?_
 refine St.p rfl rfl ?_
 refine St.done ?_
 refine St.thenN ?_
 refine St.prune (Γ' := [(2, _)]) ⟨rfl, trivial⟩ (.d (.k (.k (.d (.d .z))))) ?_
 refine St.ret ?_
 repeat (first | refine St.thenR ?_ | refine St.blkR ?_)
 injection h with h
 subst h
 exact St.finR Try.results54 (.tmp rfl .nil) rfl [.ro (SlL eu8 A3 c3 r2.1.b), .res (Box gb1 86 [.slice A3 r2.1.b.length c3, .int .i64 r2.1.at_, .bool r2.1.bad])] ⟨A3, c3, rfl, rfl⟩ (fun _ w => ((.k (.k (.d .z))) : Keep _ _).sat (Sat.dup (G := [.ro (SlL eu8 A3 c3 r2.1.b)]) rfl ⟨(.tail _ (.head _)), trivial⟩ (w.front (.s .z))))

theorem ent55 : Ent Try.prog 55 := ⟨_, Try.func55, by kernel_rfl, by kernel_rfl⟩

noncomputable def m_ref28_reader_version (r_p0 : T_ref28_reader) : Option (T_ref28_reader × T_Version) :=
 bnd (m_ref28_reader_number r_p0 2) fun r1 => bnd (m_ref28_reader_number r1.1 2) fun r2 => bnd (m_ref28_reader_number r2.1 2) fun r3 => some (r3.1, (⟨r1.2, r2.2, r3.2⟩ : T_Version))

theorem c_ref28_reader_version {r_p0 : T_ref28_reader} {A1 : Option Addr} {c1 : Nat} {gb1 : Nat} {r : (T_ref28_reader × T_Version)} (h : m_ref28_reader_version r_p0 = some r) :
  Fun Try.prog 55 [.pointer (some ⟨gb1, 0, none⟩)] [.ro (SlL eu8 A1 c1 r_p0.b), .res (Box gb1 86 [.slice A1 r_p0.b.length c1, .int .i64 r_p0.at_, .bool r_p0.bad])] (fun v_ F_ => ∃ (A1 : Option Addr) (c1 : Nat), v_ = .agg #[.int .i64 r.2.Major, .int .i64 r.2.Minor, .int .i64 r.2.Patch] ∧ F_ = [.ro (SlL eu8 A1 c1 r.1.b), .res (Box gb1 86 [.slice A1 r.1.b.length c1, .int .i64 r.1.at_, .bool r.1.bad])]) := by
 unfold m_ref28_reader_version at h
 refine Fun.intro Try.func55 rfl rfl rfl fun w R => ?_
 refine St.seq ?_
 refine St.region ?_
 refine St.alloc rfl rfl fun g1 => ?_
 refine St.done ?_
 refine St.thenN ?_
 refine St.seq ?_
 refine St.region ?_
 refine St.p rfl rfl ?_
 obtain ⟨r1, hr1, h⟩ := bnd_e h
 refine St.call (c_ref28_reader_number hr1) ent53 rfl rfl rfl (fun _ w => Sat.dup (G := [.ro (SlL eu8 A1 c1 r_p0.b)]) rfl ⟨(.tail _ (.tail _ (.head _))), trivial⟩ (w.front (.s (.s .z)))) ?_
 rintro _ _ ⟨A2, c2, rfl, rfl⟩
 refine St.asrt (F' := .ro (SlL eu8 A2 c2 r1.1.b) :: .res (Box gb1 86 [.slice A2 r1.1.b.length c2, .int .i64 r1.1.at_, .bool r1.1.bad]) :: .res (Box g1 39 [.int .i64 0, .int .i64 0, .int .i64 0]) :: .ro (SlL eu8 A1 c1 r_p0.b) :: R) (fun _ w => w) ?_
 refine St.p rfl rfl ?_
 refine St.done ?_
 refine St.thenN ?_
 refine St.prune (Γ' := [(0, _), (2, _), (3, _)]) ⟨rfl, rfl, rfl, trivial⟩ (.k (.k (.k (.d .z)))) ?_
 refine St.seq ?_
 refine St.region ?_
 refine St.p rfl rfl ?_
 obtain ⟨r2, hr2, h⟩ := bnd_e h
 refine St.call (c_ref28_reader_number hr2) ent53 rfl rfl rfl (fun _ w => Sat.dup (G := [.ro (SlL eu8 A2 c2 r1.1.b)]) rfl ⟨(.tail _ (.head _)), trivial⟩ (w.front (.s .z))) ?_
 rintro _ _ ⟨A3, c3, rfl, rfl⟩
 refine St.asrt (F' := .ro (SlL eu8 A3 c3 r2.1.b) :: .res (Box gb1 86 [.slice A3 r2.1.b.length c3, .int .i64 r2.1.at_, .bool r2.1.bad]) :: .ro (SlL eu8 A2 c2 r1.1.b) :: .res (Box g1 39 [.int .i64 0, .int .i64 0, .int .i64 0]) :: R) (fun _ w => w) ?_
 refine St.p rfl rfl ?_
 refine St.done ?_
 refine St.thenN ?_
 refine St.prune (Γ' := [(0, _), (2, _), (3, _), (4, _)]) ⟨rfl, rfl, rfl, rfl, trivial⟩ (.k (.k (.d (.k .z)))) ?_
 refine St.seq ?_
 refine St.region ?_
 iterate 3 refine St.p rfl rfl ?_
 obtain ⟨r3, hr3, h⟩ := bnd_e h
 refine St.call (c_ref28_reader_number hr3) ent53 rfl rfl rfl (fun _ w => Sat.dup (G := [.ro (SlL eu8 A3 c3 r2.1.b)]) rfl ⟨(.tail _ (.head _)), trivial⟩ (w.front (.s .z))) ?_
 rintro _ _ ⟨A4, c4, rfl, rfl⟩
 refine St.asrt (F' := .ro (SlL eu8 A4 c4 r3.1.b) :: .res (Box gb1 86 [.slice A4 r3.1.b.length c4, .int .i64 r3.1.at_, .bool r3.1.bad]) :: .ro (SlL eu8 A3 c3 r2.1.b) :: .res (Box g1 39 [.int .i64 0, .int .i64 0, .int .i64 0]) :: R) (fun _ w => w) ?_
 refine St.p rfl rfl ?_
 refine St.store 0 rfl rfl rfl rfl rfl rfl (.s (.s (.s .z))) rfl ?_
 refine St.done ?_
 refine St.thenN ?_
 refine St.prune (Γ' := [(2, _)]) ⟨rfl, trivial⟩ (.k (.k (.k (.d .z)))) ?_
 refine St.ret ?_
 repeat (first | refine St.thenR ?_ | refine St.blkR ?_)
 injection h with h
 subst h
 exact St.finR Try.results55 (.cell rfl (.head _) rfl .nil) rfl [.ro (SlL eu8 A4 c4 r3.1.b), .res (Box gb1 86 [.slice A4 r3.1.b.length c4, .int .i64 r3.1.at_, .bool r3.1.bad])] ⟨A4, c4, rfl, rfl⟩ (fun _ w => ((.k (.k (.d (.d .z)))) : Keep _ _).sat (Sat.dup (G := [.ro (SlL eu8 A4 c4 r3.1.b)]) rfl ⟨(.tail _ (.tail _ (.head _))), trivial⟩ (w.front (.s (.s .z)))))

theorem ent23 : Ent Try.prog 23 := ⟨_, Try.func23, by kernel_rfl, by kernel_rfl⟩

noncomputable def m_ref28_Decode (b_p0 : (List Int)) : Option (T_Bundle × Int) :=
 bif decide ((b_p0.length : Int) > 8192) then (some ((⟨[], []⟩ : T_Bundle), 3)) else (bif decide ((b_p0.length : Int) < 10) then (some ((⟨[], []⟩ : T_Bundle), 4)) else (bnd (sub b_p0 0 (IntKind.wrap .i64 ((b_p0.length : Int) - 4))) fun l1 => bnd (m_ref01_CRC32 l1) fun r1 => bnd (sub b_p0 (IntKind.wrap .i64 ((b_p0.length : Int) - 4)) (b_p0.length : Int)) fun l2 => bnd (m_ref28_four r1) fun r2 => bif !((strOf r2).toList == (strOf l2).toList) then (some ((⟨[], []⟩ : T_Bundle), 5)) else (bnd (sub b_p0 0 (IntKind.wrap .i64 ((b_p0.length : Int) - 4))) fun l3 => bnd (m_ref28_reader_take (⟨l3, 0, false⟩ : T_ref28_reader) 4) fun r3 => bif !((strOf r3.2).toList == ((⟨#[66, 77, 67, 70]⟩) : ByteArray).toList) then (some ((⟨[], []⟩ : T_Bundle), 6)) else (bnd (m_ref28_reader_number r3.1 1) fun r4 => bnd (loopM (τ := List Int × List T_Image × List Int × Int × Bool × List T_Image) (fun (s1 : List Int × Int × List T_Image × List Int × Int × Bool × List T_Image) => bnd ((bif decide (s1.2.1 > 0) then (some (!s1.2.2.2.2.2.1)) else (some false) : Option Bool)) fun o2 => bif o2 then (bnd (m_ref28_reader_text (⟨s1.2.2.2.1, s1.2.2.2.2.1, s1.2.2.2.2.2.1⟩ : T_ref28_reader)) fun r5 => bnd (m_ref28_reader_version r5.1) fun r6 => bnd (m_ref28_reader_number r6.1 2) fun r7 => bnd (m_ref28_reader_take r7.1 r7.2) fun r8 => bnd (app 64 s1.2.2.2.2.2.2 [(⟨r5.2, r6.2, r8.2⟩ : T_Image)]) fun l4 => bnd (m_ref28_reader_number r8.1 4) fun r9 => bnd (app 4 s1.1 [IntKind.wrap .u32 r9.2]) fun l5 => some (.next (l5, IntKind.wrap .i64 (s1.2.1 - 1), s1.2.2.1, r9.1.b, r9.1.at_, r9.1.bad, l4))) else (some (.done (s1.1, s1.2.2.1, s1.2.2.2.1, s1.2.2.2.2.1, s1.2.2.2.2.2.1, s1.2.2.2.2.2.2)))) ([], r4.2, [], r4.1.b, r4.1.at_, r4.1.bad, [])) fun o1 => bnd (m_ref28_reader_number (⟨o1.2.2.1, o1.2.2.2.1, o1.2.2.2.2.1⟩ : T_ref28_reader) 1) fun r10 => bnd (loopM (τ := List T_Need × List Int × Int × Bool × List T_Need) (fun (s2 : Int × List T_Need × List Int × Int × Bool × List T_Need) => bnd ((bif decide (s2.1 > 0) then (some (!s2.2.2.2.2.1)) else (some false) : Option Bool)) fun o4 => bif o4 then (bnd (m_ref28_reader_text (⟨s2.2.2.1, s2.2.2.2.1, s2.2.2.2.2.1⟩ : T_ref28_reader)) fun r11 => bnd (m_ref28_reader_version r11.1) fun r12 => bnd (m_ref28_reader_text r12.1) fun r13 => bnd (m_ref28_reader_version r13.1) fun r14 => bnd (app 80 s2.2.2.2.2.2 [(⟨r11.2, r12.2, r13.2, r14.2⟩ : T_Need)]) fun l6 => some (.next (IntKind.wrap .i64 (s2.1 - 1), s2.2.1, r14.1.b, r14.1.at_, r14.1.bad, l6))) else (some (.done (s2.2.1, s2.2.2.1, s2.2.2.2.1, s2.2.2.2.2.1, s2.2.2.2.2.2)))) (r10.2, [], r10.1.b, r10.1.at_, r10.1.bad, [])) fun o3 => bnd ((bif o3.2.2.2.1 then (some true) else (some (o3.2.2.1 != (IntKind.wrap .i64 ((b_p0.length : Int) - 4)))) : Option Bool)) fun o5 => bif o5 then (some ((⟨[], []⟩ : T_Bundle), 6)) else (bnd (loopM (τ := (T_Bundle × Int) ⊕ List T_Image) (fun (s3 : Int × List T_Image) => bif decide (s3.1 < (o1.1.length : Int)) then (bnd (elt s3.2 s3.1) fun x1 => bnd (elt o1.1 s3.1) fun x2 => bnd (elt s3.2 s3.1) fun x3 => bnd (elt o1.1 s3.1) fun x4 => bnd (m_ref28_image x3) fun r15 => bnd (m_ref01_CRC32 r15) fun r16 => bif (r16 != x4) then (some (.done (.inl ((⟨[], []⟩ : T_Bundle), 5)))) else (some (.next (IntKind.wrap .i64 (s3.1 + 1), s3.2)))) else (some (.done (.inr s3.2)))) (0, o1.2.2.2.2.2)) fun o6 => retOr o6 fun o7 => bnd (m_ref28_Valid (⟨o7, o3.2.2.2.2⟩ : T_Bundle)) fun r17 => bif (r17 != 0) then (some ((⟨[], []⟩ : T_Bundle), r17)) else (some ((⟨o7, o3.2.2.2.2⟩ : T_Bundle), 0)))))))

set_option maxHeartbeats 4000000 in
theorem c_ref28_Decode {b_p0 : (List Int)} {A1 : Option Addr} {c1 : Nat} {r : (T_Bundle × Int)} (h : m_ref28_Decode b_p0 = some r) :
  Fun Try.prog 23 [.slice A1 b_p0.length c1] [.ro (SlL eu8 A1 c1 b_p0)] (fun v_ F_ => ∃ (A1 : Option Addr) (c1 : Nat) (A2 : Option Addr) (c2 : Nat), v_ = .tuple #[.agg #[.slice A1 r.1.Images.length c1, .slice A2 r.1.Needs.length c2], .int .i64 r.2] ∧ F_ = [.ro (Sl (codL l_T_Image) A1 c1 r.1.Images), .ro (SlL e_Need A2 c2 r.1.Needs)]) := by
 unfold m_ref28_Decode at h
 refine Fun.intro Try.func23 rfl rfl rfl fun w R => ?_
 refine St.seq ?_
 refine St.region ?_
 refine St.alloc rfl rfl fun g1 => ?_
 refine St.p rfl rfl ?_
 refine St.done ?_
 refine St.thenN ?_
 refine St.prune (Γ' := [(0, _), (2, _)]) ⟨rfl, rfl, trivial⟩ (.k (.k .z)) ?_
 refine St.seq ?_
 refine St.block ?_
 refine St.seq ?_
 refine St.region ?_
 iterate 4 refine St.p rfl rfl ?_
 refine St.done ?_
 refine St.thenN ?_
 refine St.prune (Γ' := [(0, _), (2, _), (14, _)]) ⟨rfl, rfl, rfl, trivial⟩ (.k (.k .z)) ?_
 refine St.cond _ rfl (fun hb1 => ?_) (fun hb1 => ?_)
 ·replace h := bif_t hb1 h
  refine St.seq ?_
  refine St.region ?_
  refine St.p rfl rfl ?_
  refine St.store 0 rfl rfl rfl rfl rfl rfl .z rfl ?_
  refine St.p rfl rfl ?_
  refine St.done ?_
  refine St.thenN ?_
  refine St.prune (Γ' := [(2, _), (3, _)]) ⟨rfl, rfl, trivial⟩ (.k (.d .z)) ?_
  refine St.ret ?_
  repeat (first | refine St.thenR ?_ | refine St.blkR ?_)
  refine St.asrt (fun _ w => w.nilSl (codL l_T_Image)) ?_
  refine St.asrt (fun _ w => w.nilSl (cod e_Need)) ?_
  injection h with h
  subst h
  exact St.finR Try.results23 (.cell rfl (.tail _ (.tail _ (.head _))) rfl (.tmp rfl .nil)) rfl [.ro (Sl (codL l_T_Image) none 0 ([] : List T_Image)), .ro (SlL e_Need none 0 ([] : List T_Need))] ⟨none, 0, none, 0, rfl, rfl⟩ (fun _ w => ((.k (.k (.d (.d (.d .z))))) : Keep _ _).sat (Sat.dup (G := [.ro (Sl (codL l_T_Image) none 0 ([] : List T_Image)), .ro (SlL e_Need none 0 ([] : List T_Need))]) rfl ⟨(.tail _ (.head _)), (.head _), trivial⟩ w))
 ·replace h := bif_f hb1 h
  refine St.seq ?_
  refine St.region ?_
  iterate 4 refine St.p rfl rfl ?_
  refine St.done ?_
  refine St.thenN ?_
  refine St.prune (Γ' := [(0, _), (2, _), (19, _)]) ⟨rfl, rfl, rfl, trivial⟩ (.k (.k .z)) ?_
  refine St.cond _ rfl (fun hb2 => ?_) (fun hb2 => ?_)
  ·replace h := bif_t hb2 h
   refine St.seq ?_
   refine St.region ?_
   refine St.p rfl rfl ?_
   refine St.store 0 rfl rfl rfl rfl rfl rfl .z rfl ?_
   refine St.p rfl rfl ?_
   refine St.done ?_
   refine St.thenN ?_
   refine St.prune (Γ' := [(2, _), (3, _)]) ⟨rfl, rfl, trivial⟩ (.k (.d .z)) ?_
   refine St.ret ?_
   repeat (first | refine St.thenR ?_ | refine St.blkR ?_)
   refine St.asrt (fun _ w => w.nilSl (codL l_T_Image)) ?_
   refine St.asrt (fun _ w => w.nilSl (cod e_Need)) ?_
   injection h with h
   subst h
   exact St.finR Try.results23 (.cell rfl (.tail _ (.tail _ (.head _))) rfl (.tmp rfl .nil)) rfl [.ro (Sl (codL l_T_Image) none 0 ([] : List T_Image)), .ro (SlL e_Need none 0 ([] : List T_Need))] ⟨none, 0, none, 0, rfl, rfl⟩ (fun _ w => ((.k (.k (.d (.d (.d .z))))) : Keep _ _).sat (Sat.dup (G := [.ro (Sl (codL l_T_Image) none 0 ([] : List T_Image)), .ro (SlL e_Need none 0 ([] : List T_Need))]) rfl ⟨(.tail _ (.head _)), (.head _), trivial⟩ w))
  ·replace h := bif_f hb2 h
   refine St.skip ?_
   refine St.blkN ?_
   refine St.thenN ?_
   refine St.prune (Γ' := [(0, _), (2, _)]) ⟨rfl, rfl, trivial⟩ (.k (.k .z)) ?_
   refine St.seq ?_
   refine St.region ?_
   iterate 4 refine St.p rfl rfl ?_
   refine St.done ?_
   refine St.thenN ?_
   refine St.prune (Γ' := [(0, _), (2, _), (4, _)]) ⟨rfl, rfl, rfl, trivial⟩ (.k (.k .z)) ?_
   refine St.seq ?_
   refine St.seq ?_
   refine St.regionX (iL [(.fl, 0), (.fl, 1), (.fx, 2), (.qc, 3), (.fl, 6), (.fl, 7), (.fl, 8), (.fl, 9), (.ef, 4), (.ef, 5), (.fl, 10)] .nil) (.res (Box g1 26 [.slice none 0 0, .slice none 0 0]) :: .ro (SlL eu8 A1 c1 b_p0) :: R) mixed (by kernel_rfl) (fun _ w => ((.k (.k .z)) : Keep _ _).sat w) ?_
   refine St.xfl (fun _ h => h) (Rd.p rfl) rfl ?_
   refine St.xfl (fun _ h => h) (Rd.p rfl) rfl ?_
   obtain ⟨l1, hl1, h⟩ := bnd_e h
   refine St.openS (.tail _ (.head _)) hl1 fun A2 c2 hS1 => ?_
   have hc1 := fun w h => Sat.addS hS1 (.tail _ (.head _)) hl1 ((fun (w : World) (h : Sat (.res (Box g1 26 [.slice none 0 0, .slice none 0 0]) :: .ro (SlL eu8 A1 c1 b_p0) :: R) w) => h) w h)
   refine St.xfx (Rd.sub hS1 hl1 (.tail _ (.tail _ (.head _))) rfl rfl rfl rfl rfl rfl rfl rfl) rfl ?_
   obtain ⟨r1, hr1, h⟩ := bnd_e h
   refine St.xqc hc1 (c_ref01_CRC32 hr1) ent38 rfl rfl rfl rfl ⟨(.head _), trivial⟩ ?_
   refine St.xfl (fun _ h => h) (Rd.p rfl) rfl ?_
   refine St.xfl (fun _ h => h) (Rd.p rfl) rfl ?_
   obtain ⟨l2, hl2, h⟩ := bnd_e h
   refine St.openS (.tail _ (.tail _ (.head _))) hl2 fun A3 c3 hS2 => ?_
   have hc2 := fun w h => Sat.addS hS2 (.tail _ (.tail _ (.head _))) hl2 (hc1 w h)
   refine St.xfl hc2 (Rd.sub hS2 hl2 (.tail _ (.tail _ (.tail _ (.head _)))) rfl rfl rfl rfl rfl rfl rfl rfl) rfl ?_
   refine St.xfl hc2 (Rd.b2s (.head _) rfl rfl rfl rfl rfl rfl rfl rfl) rfl ?_
   refine St.xef ?_
   obtain ⟨r2, hr2, h⟩ := bnd_e h
   refine St.call (c_ref28_four hr2) ent35 rfl rfl rfl (fun _ w => w) ?_
   rintro _ _ ⟨A4, c4, rfl, rfl⟩
   refine St.asrt (F' := .res (OwnL eu8 5 A4 c4 r2) :: .ro (SlL eu8 A3 c3 l2) :: .ro (SlL eu8 A2 c2 l1) :: .res (Box g1 26 [.slice none 0 0, .slice none 0 0]) :: .ro (SlL eu8 A1 c1 b_p0) :: R) (fun _ w => w) ?_
   refine St.xk (fun _ w => ((.d (.d (.d (.k (.k .z))))) : Keep _ _).sat w) ?_
   refine St.xef ?_
   refine St.asrt (fun _ w => (w.front .z).meltL) ?_
   refine St.b2s rfl rfl rfl rfl rfl rfl rfl rfl rfl (srcL (E := eu8) (.head _)) ?_
   refine St.xk (fun _ w => ((.d (.d (.d (.k (.k .z))))) : Keep _ _).sat w) ?_
   refine St.xfl (fun _ h => h) (Rd.p rfl) rfl ?_
   refine St.xdone ?_
   refine St.thenN ?_
   refine St.prune (Γ' := [(0, _), (2, _), (4, _), (37, _)]) ⟨rfl, rfl, rfl, rfl, trivial⟩ (.d (.d (.d (.k (.k .z))))) ?_
   refine St.cond _ rfl (fun hb3 => ?_) (fun hb3 => ?_)
   ·replace h := bif_t hb3 h
    refine St.seq ?_
    refine St.region ?_
    refine St.p rfl rfl ?_
    refine St.store 0 rfl rfl rfl rfl rfl rfl .z rfl ?_
    refine St.p rfl rfl ?_
    refine St.done ?_
    refine St.thenN ?_
    refine St.prune (Γ' := [(2, _), (3, _)]) ⟨rfl, rfl, trivial⟩ (.k (.d .z)) ?_
    refine St.ret ?_
    repeat (first | refine St.thenR ?_ | refine St.blkR ?_)
    refine St.asrt (fun _ w => w.nilSl (codL l_T_Image)) ?_
    refine St.asrt (fun _ w => w.nilSl (cod e_Need)) ?_
    injection h with h
    subst h
    exact St.finR Try.results23 (.cell rfl (.tail _ (.tail _ (.head _))) rfl (.tmp rfl .nil)) rfl [.ro (Sl (codL l_T_Image) none 0 ([] : List T_Image)), .ro (SlL e_Need none 0 ([] : List T_Need))] ⟨none, 0, none, 0, rfl, rfl⟩ (fun _ w => ((.k (.k (.d (.d (.d .z))))) : Keep _ _).sat (Sat.dup (G := [.ro (Sl (codL l_T_Image) none 0 ([] : List T_Image)), .ro (SlL e_Need none 0 ([] : List T_Need))]) rfl ⟨(.tail _ (.head _)), (.head _), trivial⟩ w))
   ·replace h := bif_f hb3 h
    refine St.skip ?_
    refine St.thenN ?_
    refine St.prune (Γ' := [(0, _), (2, _), (4, _)]) ⟨rfl, rfl, rfl, trivial⟩ (.k (.k .z)) ?_
    refine St.seq ?_
    refine St.region ?_
    refine St.p rfl rfl ?_
    refine St.p rfl rfl ?_
    obtain ⟨l3, hl3, h⟩ := bnd_e h
    refine St.sub (E := (cod eu8)) rfl rfl (.tail _ (.head _)) rfl rfl rfl rfl rfl rfl rfl hl3 fun A5 c5 => ?_
    refine St.p rfl rfl ?_
    refine St.alloc rfl rfl fun g2 => ?_
    refine St.store 0 rfl rfl rfl rfl rfl rfl .z rfl ?_
    refine St.done ?_
    refine St.thenN ?_
    refine St.prune (Γ' := [(2, _), (4, _), (5, _)]) ⟨rfl, rfl, rfl, trivial⟩ (.k (.k (.k (.d .z)))) ?_
    refine St.seq ?_
    refine St.seq ?_
    refine St.region ?_
    obtain ⟨r3, hr3, h⟩ := bnd_e h
    refine St.call (c_ref28_reader_take hr3) ent52 rfl rfl rfl (fun _ w => Sat.dup (G := [.ro (SlL eu8 A5 c5 l3)]) rfl ⟨(.tail _ (.head _)), trivial⟩ (w.front .z)) ?_
    rintro _ _ ⟨A6, c6, A7, c7, rfl, rfl⟩
    refine St.asrt (F' := .ro (SlL eu8 A6 c6 r3.1.b) :: .res (Box g2 86 [.slice A6 r3.1.b.length c6, .int .i64 r3.1.at_, .bool r3.1.bad]) :: .res (OwnL eu8 5 A7 c7 r3.2) :: .ro (SlL eu8 A5 c5 l3) :: .res (Box g1 26 [.slice none 0 0, .slice none 0 0]) :: R) (fun _ w => w) ?_
    refine St.asrt (fun _ w => (w.front (.s (.s .z))).meltL) ?_
    refine St.b2s rfl rfl rfl rfl rfl rfl rfl rfl rfl (srcL (E := eu8) (.head _)) ?_
    refine St.p rfl rfl ?_
    refine St.done ?_
    refine St.thenN ?_
    refine St.prune (Γ' := [(2, _), (4, _), (5, _), (45, _)]) ⟨rfl, rfl, rfl, rfl, trivial⟩ (.d (.k (.k (.d (.k .z))))) ?_
    refine St.cond _ rfl (fun hb4 => ?_) (fun hb4 => ?_)
    ·replace h := bif_t hb4 h
     refine St.seq ?_
     refine St.region ?_
     refine St.p rfl rfl ?_
     refine St.store 0 rfl rfl rfl rfl rfl rfl (.s (.s .z)) rfl ?_
     refine St.p rfl rfl ?_
     refine St.done ?_
     refine St.thenN ?_
     refine St.prune (Γ' := [(2, _), (3, _)]) ⟨rfl, rfl, trivial⟩ (.k (.d (.d .z))) ?_
     refine St.ret ?_
     repeat (first | refine St.thenR ?_ | refine St.blkR ?_)
     refine St.asrt (fun _ w => w.nilSl (codL l_T_Image)) ?_
     refine St.asrt (fun _ w => w.nilSl (cod e_Need)) ?_
     injection h with h
     subst h
     exact St.finR Try.results23 (.cell rfl (.tail _ (.tail _ (.head _))) rfl (.tmp rfl .nil)) rfl [.ro (Sl (codL l_T_Image) none 0 ([] : List T_Image)), .ro (SlL e_Need none 0 ([] : List T_Need))] ⟨none, 0, none, 0, rfl, rfl⟩ (fun _ w => ((.k (.k (.d (.d (.d .z))))) : Keep _ _).sat (Sat.dup (G := [.ro (Sl (codL l_T_Image) none 0 ([] : List T_Image)), .ro (SlL e_Need none 0 ([] : List T_Need))]) rfl ⟨(.tail _ (.head _)), (.head _), trivial⟩ w))
    ·replace h := bif_f hb4 h
     refine St.skip ?_
     refine St.thenN ?_
     refine St.prune (Γ' := [(2, _), (4, _), (5, _)]) ⟨rfl, rfl, rfl, trivial⟩ (.k (.k (.k .z))) ?_
     refine St.seq ?_
     refine St.region ?_
     refine St.alloc rfl rfl fun g3 => ?_
     refine St.done ?_
     refine St.thenN ?_
     refine St.seq ?_
     refine St.region ?_
     refine St.p rfl rfl ?_
     refine St.done ?_
     refine St.thenN ?_
     refine St.seq ?_
     refine St.seq ?_
     refine St.region ?_
     obtain ⟨r4, hr4, h⟩ := bnd_e h
     refine St.call (c_ref28_reader_number hr4) ent53 rfl rfl rfl (fun _ w => Sat.dup (G := [.ro (SlL eu8 A6 c6 r3.1.b)]) rfl ⟨(.tail _ (.tail _ (.head _))), trivial⟩ (w.front (.s (.s .z)))) ?_
     rintro _ _ ⟨A8, c8, rfl, rfl⟩
     refine St.asrt (F' := .ro (SlL eu8 A8 c8 r4.1.b) :: .res (Box g2 86 [.slice A8 r4.1.b.length c8, .int .i64 r4.1.at_, .bool r4.1.bad]) :: .res (Box g3 26 [.slice none 0 0, .slice none 0 0]) :: .ro (SlL eu8 A6 c6 r3.1.b) :: .res (Box g1 26 [.slice none 0 0, .slice none 0 0]) :: R) (fun _ w => w) ?_
     refine St.p rfl rfl ?_
     refine St.done ?_
     refine St.thenN ?_
     refine St.prune (Γ' := [(2, _), (4, _), (5, _), (6, _), (7, _), (8, _)]) ⟨rfl, rfl, rfl, rfl, rfl, rfl, trivial⟩ (.k (.k (.k (.d (.k .z))))) ?_
     refine St.asrt (fun _ w => w.nilL eu32 43) ?_
     refine St.asrt (fun _ w => w.nilC (codL l_T_Image) 41) ?_
     refine St.asrt (fun _ w => w.nilC (codL l_T_Image) 41) ?_
     obtain ⟨o1, hl1, h⟩ := bnd_e h
     refine St.cutE (fun (e2 : Option Addr × Nat × Option Addr × Nat × Option Addr × Nat × Option Addr × Nat) => [(2, .pointer (some ⟨g1, 0, none⟩)), (4, .int .i64 (IntKind.wrap .i64 ((b_p0.length : Int) - 4))), (5, .pointer (some ⟨g2, 0, none⟩)), (6, .pointer (some ⟨g3, 0, none⟩)), (7, .slice e2.1 o1.1.length e2.2.1)]) (fun e2 => .res (OwnC (codL l_T_Image) 41 e2.2.2.2.2.2.2.1 e2.2.2.2.2.2.2.2 o1.2.2.2.2.2) :: .ro (SlL eu8 e2.2.2.2.2.1 e2.2.2.2.2.2.1 o1.2.2.1) :: .res (OwnC (codL l_T_Image) 41 e2.2.2.1 e2.2.2.2.1 o1.2.1) :: .res (OwnL eu32 43 e2.1 e2.2.1 o1.1) :: .res (Box g2 86 [.slice e2.2.2.2.2.1 o1.2.2.1.length e2.2.2.2.2.2.1, .int .i64 o1.2.2.2.1, .bool o1.2.2.2.2.1]) :: .res (Box g3 26 [.slice e2.2.2.2.2.2.2.1 o1.2.2.2.2.2.length e2.2.2.2.2.2.2.2, .slice none 0 0]) :: .res (Box g1 26 [.slice e2.2.2.1 o1.2.1.length e2.2.2.2.1, .slice none 0 0]) :: R) ?_ ?_
     ·refine St.block ?_
      refine St.loop hl1 (fun (s1 : List Int × Int × List T_Image × List Int × Int × Bool × List T_Image) (e1 : Option Addr × Nat × Option Addr × Nat × Option Addr × Nat × Option Addr × Nat) => [(2, .pointer (some ⟨g1, 0, none⟩)), (4, .int .i64 (IntKind.wrap .i64 ((b_p0.length : Int) - 4))), (5, .pointer (some ⟨g2, 0, none⟩)), (6, .pointer (some ⟨g3, 0, none⟩)), (7, .slice e1.1 s1.1.length e1.2.1), (8, .int .i64 s1.2.1)]) (fun s1 e1 => .res (OwnC (codL l_T_Image) 41 e1.2.2.2.2.2.2.1 e1.2.2.2.2.2.2.2 s1.2.2.2.2.2.2) :: .ro (SlL eu8 e1.2.2.2.2.1 e1.2.2.2.2.2.1 s1.2.2.2.1) :: .res (OwnC (codL l_T_Image) 41 e1.2.2.1 e1.2.2.2.1 s1.2.2.1) :: .res (OwnL eu32 43 e1.1 e1.2.1 s1.1) :: .res (Box g2 86 [.slice e1.2.2.2.2.1 s1.2.2.2.1.length e1.2.2.2.2.2.1, .int .i64 s1.2.2.2.2.1, .bool s1.2.2.2.2.2.1]) :: .res (Box g3 26 [.slice e1.2.2.2.2.2.2.1 s1.2.2.2.2.2.2.length e1.2.2.2.2.2.2.2, .slice none 0 0]) :: .res (Box g1 26 [.slice e1.2.2.1 s1.2.2.1.length e1.2.2.2.1, .slice none 0 0]) :: R) (fun _ _ => True) (none, 0, none, 0, A8, c8, none, 0) trivial ⟨rfl, rfl, rfl, rfl, rfl, rfl, trivial⟩ (fun _ w => ((.k (.k (.k (.k (.k (.k (.k .z))))))) : Keep _ _).sat (((((((w.front (.s (.s (.s (.s (.s (.s .z))))))).front (.s (.s (.s (.s (.s (.s .z))))))).front (.s (.s (.s (.s (.s (.s .z))))))).front (.s (.s (.s (.s (.s .z)))))).front (.s (.s (.s (.s .z))))).front (.s (.s (.s (.s (.s (.s .z))))))).front (.s (.s (.s (.s (.s (.s .z)))))))) ?_
      rintro s1 ⟨A9, c9, A10, c10, A11, c11, A12, c12⟩ - hit1
      obtain ⟨st1, hm1, hd1⟩ := iter_e hit1
      have h1 := hm1
      refine St.seq ?_
      refine St.seq ?_
      obtain ⟨o2, hj1, h1⟩ := bnd_e h1
      refine St.cutE (fun (e3 : Unit) => [(2, .pointer (some ⟨g1, 0, none⟩)), (4, .int .i64 (IntKind.wrap .i64 ((b_p0.length : Int) - 4))), (5, .pointer (some ⟨g2, 0, none⟩)), (6, .pointer (some ⟨g3, 0, none⟩)), (7, .slice A9 s1.1.length c9), (8, .int .i64 s1.2.1), (54, .bool o2)]) (fun e3 => .res (OwnC (codL l_T_Image) 41 A12 c12 s1.2.2.2.2.2.2) :: .ro (SlL eu8 A11 c11 s1.2.2.2.1) :: .res (OwnC (codL l_T_Image) 41 A10 c10 s1.2.2.1) :: .res (OwnL eu32 43 A9 c9 s1.1) :: .res (Box g2 86 [.slice A11 s1.2.2.2.1.length c11, .int .i64 s1.2.2.2.2.1, .bool s1.2.2.2.2.2.1]) :: .res (Box g3 26 [.slice A12 s1.2.2.2.2.2.2.length c12, .slice none 0 0]) :: .res (Box g1 26 [.slice A10 s1.2.2.1.length c10, .slice none 0 0]) :: R) ?_ ?_
      ·refine St.region ?_
       iterate 3 refine St.p rfl rfl ?_
       refine St.gSplit (dj := 50) _ rfl (fun hb5 => ?_) (fun hb5 => ?_)
       ·replace hj1 := bif_t hb5 hj1
        refine St.gOn (dj := 50) rfl rfl ?_
        refine St.p rfl rfl ?_
        refine St.gOn (dj := 50) rfl rfl ?_
        refine St.loadB 2 rfl rfl (.tail _ (.tail _ (.tail _ (.tail _ (.head _))))) rfl rfl ?_
        refine St.gOn (dj := 50) rfl rfl ?_
        refine St.p rfl rfl ?_
        refine St.p rfl rfl ?_
        refine St.done ?_
        injection hj1 with hj1
        subst hj1
        refine St.thenN ?_
        exact St.hereE () ⟨rfl, rfl, rfl, rfl, rfl, rfl, rfl, trivial⟩ (fun _ w => ((.k (.k (.k (.k (.k (.k (.k .z))))))) : Keep _ _).sat w)
       ·replace hj1 := bif_f hb5 hj1
        refine St.gOff (dj := 50) rfl rfl rfl rfl ?_
        refine St.gOff (dj := 50) rfl rfl rfl rfl ?_
        refine St.gOff (dj := 50) rfl rfl rfl rfl ?_
        refine St.p rfl rfl ?_
        refine St.done ?_
        injection hj1 with hj1
        subst hj1
        refine St.thenN ?_
        exact St.hereE () ⟨rfl, rfl, rfl, rfl, rfl, rfl, rfl, trivial⟩ (fun _ w => ((.k (.k (.k (.k (.k (.k (.k .z))))))) : Keep _ _).sat w)
      ·rintro e3
       refine St.cond _ rfl (fun hb6 => ?_) (fun hb6 => ?_)
       ·replace h1 := bif_t hb6 h1
        refine St.skip ?_
        refine St.thenN ?_
        refine St.prune (Γ' := [(2, _), (4, _), (5, _), (6, _), (7, _), (8, _)]) ⟨rfl, rfl, rfl, rfl, rfl, rfl, trivial⟩ (.k (.k (.k (.k (.k (.k (.k .z))))))) ?_
        refine St.seq ?_
        refine St.block ?_
        refine St.seq ?_
        refine St.region ?_
        obtain ⟨r5, hr5, h1⟩ := bnd_e h1
        refine St.call (c_ref28_reader_text hr5) ent54 rfl rfl rfl (fun _ w => Sat.dup (G := [.ro (SlL eu8 A11 c11 s1.2.2.2.1)]) rfl ⟨(.tail _ (.tail _ (.head _))), trivial⟩ (w.front (.s (.s (.s (.s .z)))))) ?_
        rintro _ _ ⟨A17, c17, rfl, rfl⟩
        refine St.asrt (F' := .ro (SlL eu8 A17 c17 r5.1.b) :: .res (Box g2 86 [.slice A17 r5.1.b.length c17, .int .i64 r5.1.at_, .bool r5.1.bad]) :: .res (OwnC (codL l_T_Image) 41 A12 c12 s1.2.2.2.2.2.2) :: .ro (SlL eu8 A11 c11 s1.2.2.2.1) :: .res (OwnC (codL l_T_Image) 41 A10 c10 s1.2.2.1) :: .res (OwnL eu32 43 A9 c9 s1.1) :: .res (Box g3 26 [.slice A12 s1.2.2.2.2.2.2.length c12, .slice none 0 0]) :: .res (Box g1 26 [.slice A10 s1.2.2.1.length c10, .slice none 0 0]) :: R) (fun _ w => w) ?_
        refine St.p rfl rfl ?_
        refine St.alloc rfl rfl fun g4 => ?_
        refine St.store 0 rfl rfl rfl rfl rfl rfl .z rfl ?_
        refine St.done ?_
        refine St.thenN ?_
        refine St.prune (Γ' := [(2, _), (4, _), (5, _), (6, _), (7, _), (8, _), (9, _)]) ⟨rfl, rfl, rfl, rfl, rfl, rfl, rfl, trivial⟩ (.k (.k (.k (.k (.d (.k (.k (.k (.k .z))))))))) ?_
        refine St.seq ?_
        refine St.region ?_
        obtain ⟨r6, hr6, h1⟩ := bnd_e h1
        refine St.call (c_ref28_reader_version hr6) ent55 rfl rfl rfl (fun _ w => Sat.dup (G := [.ro (SlL eu8 A17 c17 r5.1.b)]) rfl ⟨(.tail _ (.tail _ (.head _))), trivial⟩ (w.front (.s (.s .z)))) ?_
        rintro _ _ ⟨A18, c18, rfl, rfl⟩
        refine St.asrt (F' := .ro (SlL eu8 A18 c18 r6.1.b) :: .res (Box g2 86 [.slice A18 r6.1.b.length c18, .int .i64 r6.1.at_, .bool r6.1.bad]) :: .res (Box g4 41 [.string r5.2, .int .i64 0, .int .i64 0, .int .i64 0, .slice none 0 0]) :: .ro (SlL eu8 A17 c17 r5.1.b) :: .res (OwnC (codL l_T_Image) 41 A12 c12 s1.2.2.2.2.2.2) :: .res (OwnC (codL l_T_Image) 41 A10 c10 s1.2.2.1) :: .res (OwnL eu32 43 A9 c9 s1.1) :: .res (Box g3 26 [.slice A12 s1.2.2.2.2.2.2.length c12, .slice none 0 0]) :: .res (Box g1 26 [.slice A10 s1.2.2.1.length c10, .slice none 0 0]) :: R) (fun _ w => w) ?_
        refine St.p rfl rfl ?_
        refine St.store 1 rfl rfl rfl rfl rfl rfl (.s (.s .z)) rfl ?_
        refine St.done ?_
        refine St.thenN ?_
        refine St.prune (Γ' := [(2, _), (4, _), (5, _), (6, _), (7, _), (8, _), (9, _)]) ⟨rfl, rfl, rfl, rfl, rfl, rfl, rfl, trivial⟩ (.k (.k (.k (.d (.k (.k (.k (.k (.k .z))))))))) ?_
        refine St.seq ?_
        refine St.region ?_
        obtain ⟨r7, hr7, h1⟩ := bnd_e h1
        refine St.call (c_ref28_reader_number hr7) ent53 rfl rfl rfl (fun _ w => Sat.dup (G := [.ro (SlL eu8 A18 c18 r6.1.b)]) rfl ⟨(.tail _ (.tail _ (.head _))), trivial⟩ (w.front (.s (.s .z)))) ?_
        rintro _ _ ⟨A19, c19, rfl, rfl⟩
        refine St.asrt (F' := .ro (SlL eu8 A19 c19 r7.1.b) :: .res (Box g2 86 [.slice A19 r7.1.b.length c19, .int .i64 r7.1.at_, .bool r7.1.bad]) :: .res (Box g4 41 [.string r5.2, .int .i64 r6.2.Major, .int .i64 r6.2.Minor, .int .i64 r6.2.Patch, .slice none 0 0]) :: .ro (SlL eu8 A18 c18 r6.1.b) :: .res (OwnC (codL l_T_Image) 41 A12 c12 s1.2.2.2.2.2.2) :: .res (OwnC (codL l_T_Image) 41 A10 c10 s1.2.2.1) :: .res (OwnL eu32 43 A9 c9 s1.1) :: .res (Box g3 26 [.slice A12 s1.2.2.2.2.2.2.length c12, .slice none 0 0]) :: .res (Box g1 26 [.slice A10 s1.2.2.1.length c10, .slice none 0 0]) :: R) (fun _ w => w) ?_
        obtain ⟨r8, hr8, h1⟩ := bnd_e h1
        refine St.call (c_ref28_reader_take hr8) ent52 rfl rfl rfl (fun _ w => Sat.dup (G := [.ro (SlL eu8 A19 c19 r7.1.b)]) rfl ⟨(.tail _ (.head _)), trivial⟩ (w.front (.s .z))) ?_
        rintro _ _ ⟨A20, c20, A21, c21, rfl, rfl⟩
        refine St.asrt (F' := .ro (SlL eu8 A20 c20 r8.1.b) :: .res (Box g2 86 [.slice A20 r8.1.b.length c20, .int .i64 r8.1.at_, .bool r8.1.bad]) :: .res (OwnL eu8 5 A21 c21 r8.2) :: .ro (SlL eu8 A19 c19 r7.1.b) :: .res (Box g4 41 [.string r5.2, .int .i64 r6.2.Major, .int .i64 r6.2.Minor, .int .i64 r6.2.Patch, .slice none 0 0]) :: .ro (SlL eu8 A18 c18 r6.1.b) :: .res (OwnC (codL l_T_Image) 41 A12 c12 s1.2.2.2.2.2.2) :: .res (OwnC (codL l_T_Image) 41 A10 c10 s1.2.2.1) :: .res (OwnL eu32 43 A9 c9 s1.1) :: .res (Box g3 26 [.slice A12 s1.2.2.2.2.2.2.length c12, .slice none 0 0]) :: .res (Box g1 26 [.slice A10 s1.2.2.1.length c10, .slice none 0 0]) :: R) (fun _ w => w) ?_
        refine St.p rfl rfl ?_
        refine St.store 4 rfl rfl rfl rfl rfl rfl (.s (.s (.s (.s .z)))) rfl ?_
        refine St.done ?_
        refine St.thenN ?_
        refine St.prune (Γ' := [(2, _), (4, _), (5, _), (6, _), (7, _), (8, _), (9, _)]) ⟨rfl, rfl, rfl, rfl, rfl, rfl, rfl, trivial⟩ (.k (.k (.k (.k (.d (.d (.k (.k (.k (.k (.k .z))))))))))) ?_
        refine St.region ?_
        refine St.p rfl rfl ?_
        refine St.loadB 0 rfl rfl (.tail _ (.tail _ (.tail _ (.tail _ (.tail _ (.tail _ (.tail _ (.head _)))))))) rfl rfl ?_
        refine St.loadB 0 rfl rfl (.head _) rfl rfl ?_
        refine St.buildSlice rfl rfl rfl rfl rfl rfl rfl rfl fun g5 => ?_
        obtain ⟨l4, hl4, h1⟩ := bnd_e h1
        refine St.asrt (fun _ w => (w.front (.s (.s (.s (.s .z))))).meltL) ?_
        refine St.appC (E := (codL l_T_Image)) hl4 rfl rfl rfl (.s (.s (.s (.s (.s .z))))) rfl rfl rfl rfl rfl rfl rfl rfl (srcBC (ls := l_T_Image) [((⟨r5.2, r6.2, r8.2⟩ : T_Image), ((A21, c21), ()))] (.tail _ (.head _)) rfl rfl rfl ⟨(.head _), trivial⟩) rfl rfl fun A22 c22 => ?_
        refine St.p rfl rfl ?_
        obtain ⟨r9, hr9, h1⟩ := bnd_e h1
        refine St.call (c_ref28_reader_number hr9) ent53 rfl rfl rfl (fun _ w => Sat.dup (G := [.ro (SlL eu8 A20 c20 r8.1.b)]) rfl ⟨(.tail _ (.tail _ (.tail _ (.tail _ (.tail _ (.head _)))))), trivial⟩ (w.front (.s (.s (.s (.s (.s .z))))))) ?_
        rintro _ _ ⟨A23, c23, rfl, rfl⟩
        refine St.asrt (F' := .ro (SlL eu8 A23 c23 r9.1.b) :: .res (Box g2 86 [.slice A23 r9.1.b.length c23, .int .i64 r9.1.at_, .bool r9.1.bad]) :: .res (OwnC (codL l_T_Image) 41 A22 c22 l4) :: .ro (SlL eu8 A21 c21 r8.2) :: .res (Box g5 41 [.string r5.2, .int .i64 r6.2.Major, .int .i64 r6.2.Minor, .int .i64 r6.2.Patch, .slice A21 r8.2.length c21]) :: .res (Box g4 41 [.string r5.2, .int .i64 r6.2.Major, .int .i64 r6.2.Minor, .int .i64 r6.2.Patch, .slice A21 r8.2.length c21]) :: .ro (SlL eu8 A20 c20 r8.1.b) :: .res (OwnC (codL l_T_Image) 41 A10 c10 s1.2.2.1) :: .res (OwnL eu32 43 A9 c9 s1.1) :: .res (Box g3 26 [.slice A12 s1.2.2.2.2.2.2.length c12, .slice none 0 0]) :: .res (Box g1 26 [.slice A10 s1.2.2.1.length c10, .slice none 0 0]) :: R) (fun _ w => w) ?_
        refine St.p rfl rfl ?_
        refine St.buildSlice rfl rfl rfl rfl rfl rfl rfl rfl fun g6 => ?_
        obtain ⟨l5, hl5, h1⟩ := bnd_e h1
        refine St.app (E := eu32) hl5 rfl rfl rfl (.s (.s (.s (.s (.s (.s (.s (.s (.s .z))))))))) rfl rfl rfl rfl rfl rfl rfl rfl (srcB (.head _) rfl rfl) rfl rfl fun A24 c24 => ?_
        refine St.p rfl rfl ?_
        refine St.store 0 rfl rfl rfl rfl rfl rfl (.s (.s (.s (.s (.s (.s (.s (.s (.s (.s .z)))))))))) rfl ?_
        refine St.p rfl rfl ?_
        refine St.done ?_
        refine St.blkN ?_
        refine St.thenN ?_
        refine St.prune (Γ' := [(2, _), (4, _), (5, _), (6, _), (7, _), (8, _)]) ⟨rfl, rfl, rfl, rfl, rfl, rfl, trivial⟩ (.k (.k (.d (.k (.k (.k (.d (.d (.d (.d (.k (.k .z)))))))))))) ?_
        refine St.region ?_
        iterate 3 refine St.p rfl rfl ?_
        refine St.done ?_
        injection h1 with h1
        subst h1
        refine St.thenN ?_
        exact St.again _ (A24, c24, A10, c10, A23, c23, A22, c22) hm1 trivial ⟨rfl, rfl, rfl, rfl, rfl, rfl, trivial⟩ (fun _ w => ((.k (.k (.k (.k (.k (.k (.k .z))))))) : Keep _ _).sat (((((((w.front (.s (.s (.s (.s (.s (.s .z))))))).front (.s .z)).front (.s (.s (.s (.s .z))))).front (.s (.s (.s .z)))).front (.s (.s (.s (.s (.s (.s .z))))))).front (.s (.s (.s (.s (.s .z)))))).front (.s (.s (.s (.s (.s (.s .z))))))))
       ·replace h1 := bif_f hb6 h1
        refine St.exit ?_
        repeat (first | refine St.thenX ?_ | refine St.blkMiss rfl ?_)
        refine St.blkHit ?_
        injection h1 with h1
        subst h1
        have ho := hd1 _ rfl
        subst ho
        refine St.thenN ?_
        exact St.hereE (A9, c9, A10, c10, A11, c11, A12, c12) ⟨rfl, rfl, rfl, rfl, rfl, trivial⟩ (fun _ w => ((.k (.k (.k (.k (.k (.k (.k .z))))))) : Keep _ _).sat w)
     ·rintro ⟨A13, c13, A14, c14, A15, c15, A16, c16⟩
      refine St.seq ?_
      refine St.seq ?_
      refine St.region ?_
      obtain ⟨r10, hr10, h⟩ := bnd_e h
      refine St.call (c_ref28_reader_number hr10) ent53 rfl rfl rfl (fun _ w => Sat.dup (G := [.ro (SlL eu8 A15 c15 o1.2.2.1)]) rfl ⟨(.tail _ (.tail _ (.head _))), trivial⟩ (w.front (.s (.s (.s (.s .z)))))) ?_
      rintro _ _ ⟨A25, c25, rfl, rfl⟩
      refine St.asrt (F' := .ro (SlL eu8 A25 c25 r10.1.b) :: .res (Box g2 86 [.slice A25 r10.1.b.length c25, .int .i64 r10.1.at_, .bool r10.1.bad]) :: .res (OwnC (codL l_T_Image) 41 A16 c16 o1.2.2.2.2.2) :: .ro (SlL eu8 A15 c15 o1.2.2.1) :: .res (OwnC (codL l_T_Image) 41 A14 c14 o1.2.1) :: .res (OwnL eu32 43 A13 c13 o1.1) :: .res (Box g3 26 [.slice A16 o1.2.2.2.2.2.length c16, .slice none 0 0]) :: .res (Box g1 26 [.slice A14 o1.2.1.length c14, .slice none 0 0]) :: R) (fun _ w => w) ?_
      refine St.p rfl rfl ?_
      refine St.done ?_
      refine St.thenN ?_
      refine St.prune (Γ' := [(2, _), (4, _), (5, _), (6, _), (7, _), (10, _)]) ⟨rfl, rfl, rfl, rfl, rfl, rfl, trivial⟩ (.k (.k (.k (.d (.k (.k (.k (.k .z)))))))) ?_
      refine St.asrt (fun _ w => w.nilL e_Need 67) ?_
      refine St.asrt (fun _ w => w.nilL e_Need 67) ?_
      obtain ⟨o3, hl2, h⟩ := bnd_e h
      refine St.cutE (fun (e5 : Option Addr × Nat × Option Addr × Nat × Option Addr × Nat) => [(2, .pointer (some ⟨g1, 0, none⟩)), (4, .int .i64 (IntKind.wrap .i64 ((b_p0.length : Int) - 4))), (5, .pointer (some ⟨g2, 0, none⟩)), (6, .pointer (some ⟨g3, 0, none⟩)), (7, .slice A13 o1.1.length c13)]) (fun e5 => .res (OwnL e_Need 67 e5.2.2.2.2.1 e5.2.2.2.2.2 o3.2.2.2.2) :: .ro (SlL eu8 e5.2.2.1 e5.2.2.2.1 o3.2.1) :: .res (OwnL e_Need 67 e5.1 e5.2.1 o3.1) :: .res (Box g2 86 [.slice e5.2.2.1 o3.2.1.length e5.2.2.2.1, .int .i64 o3.2.2.1, .bool o3.2.2.2.1]) :: .res (OwnC (codL l_T_Image) 41 A16 c16 o1.2.2.2.2.2) :: .res (OwnC (codL l_T_Image) 41 A14 c14 o1.2.1) :: .res (OwnL eu32 43 A13 c13 o1.1) :: .res (Box g3 26 [.slice A16 o1.2.2.2.2.2.length c16, .slice e5.2.2.2.2.1 o3.2.2.2.2.length e5.2.2.2.2.2]) :: .res (Box g1 26 [.slice A14 o1.2.1.length c14, .slice e5.1 o3.1.length e5.2.1]) :: R) ?_ ?_
      ·refine St.block ?_
       refine St.loop hl2 (fun (s2 : Int × List T_Need × List Int × Int × Bool × List T_Need) (e4 : Option Addr × Nat × Option Addr × Nat × Option Addr × Nat) => [(2, .pointer (some ⟨g1, 0, none⟩)), (4, .int .i64 (IntKind.wrap .i64 ((b_p0.length : Int) - 4))), (5, .pointer (some ⟨g2, 0, none⟩)), (6, .pointer (some ⟨g3, 0, none⟩)), (7, .slice A13 o1.1.length c13), (10, .int .i64 s2.1)]) (fun s2 e4 => .res (OwnL e_Need 67 e4.2.2.2.2.1 e4.2.2.2.2.2 s2.2.2.2.2.2) :: .ro (SlL eu8 e4.2.2.1 e4.2.2.2.1 s2.2.2.1) :: .res (OwnL e_Need 67 e4.1 e4.2.1 s2.2.1) :: .res (Box g2 86 [.slice e4.2.2.1 s2.2.2.1.length e4.2.2.2.1, .int .i64 s2.2.2.2.1, .bool s2.2.2.2.2.1]) :: .res (OwnC (codL l_T_Image) 41 A16 c16 o1.2.2.2.2.2) :: .res (OwnC (codL l_T_Image) 41 A14 c14 o1.2.1) :: .res (OwnL eu32 43 A13 c13 o1.1) :: .res (Box g3 26 [.slice A16 o1.2.2.2.2.2.length c16, .slice e4.2.2.2.2.1 s2.2.2.2.2.2.length e4.2.2.2.2.2]) :: .res (Box g1 26 [.slice A14 o1.2.1.length c14, .slice e4.1 s2.2.1.length e4.2.1]) :: R) (fun _ _ => True) (none, 0, A25, c25, none, 0) trivial ⟨rfl, rfl, rfl, rfl, rfl, rfl, trivial⟩ (fun _ w => ((.k (.k (.k (.k (.k (.k (.k (.k (.k .z))))))))) : Keep _ _).sat (((((((((w.front (.s (.s (.s (.s (.s (.s (.s (.s .z))))))))).front (.s (.s (.s (.s (.s (.s (.s (.s .z))))))))).front (.s (.s (.s (.s (.s (.s (.s (.s .z))))))))).front (.s (.s (.s (.s (.s (.s (.s (.s .z))))))))).front (.s (.s (.s (.s (.s (.s (.s (.s .z))))))))).front (.s (.s (.s (.s (.s (.s (.s (.s .z))))))))).front (.s (.s (.s (.s (.s (.s .z))))))).front (.s (.s (.s (.s (.s (.s (.s (.s .z))))))))).front (.s (.s (.s (.s (.s (.s (.s (.s .z)))))))))) ?_
       rintro s2 ⟨A26, c26, A27, c27, A28, c28⟩ - hit2
       obtain ⟨st2, hm2, hd2⟩ := iter_e hit2
       have h2 := hm2
       refine St.seq ?_
       refine St.seq ?_
       obtain ⟨o4, hj2, h2⟩ := bnd_e h2
       refine St.cutE (fun (e6 : Unit) => [(2, .pointer (some ⟨g1, 0, none⟩)), (4, .int .i64 (IntKind.wrap .i64 ((b_p0.length : Int) - 4))), (5, .pointer (some ⟨g2, 0, none⟩)), (6, .pointer (some ⟨g3, 0, none⟩)), (7, .slice A13 o1.1.length c13), (10, .int .i64 s2.1), (82, .bool o4)]) (fun e6 => .res (OwnL e_Need 67 A28 c28 s2.2.2.2.2.2) :: .ro (SlL eu8 A27 c27 s2.2.2.1) :: .res (OwnL e_Need 67 A26 c26 s2.2.1) :: .res (Box g2 86 [.slice A27 s2.2.2.1.length c27, .int .i64 s2.2.2.2.1, .bool s2.2.2.2.2.1]) :: .res (OwnC (codL l_T_Image) 41 A16 c16 o1.2.2.2.2.2) :: .res (OwnC (codL l_T_Image) 41 A14 c14 o1.2.1) :: .res (OwnL eu32 43 A13 c13 o1.1) :: .res (Box g3 26 [.slice A16 o1.2.2.2.2.2.length c16, .slice A28 s2.2.2.2.2.2.length c28]) :: .res (Box g1 26 [.slice A14 o1.2.1.length c14, .slice A26 s2.2.1.length c26]) :: R) ?_ ?_
       ·refine St.region ?_
        iterate 3 refine St.p rfl rfl ?_
        refine St.gSplit (dj := 78) _ rfl (fun hb7 => ?_) (fun hb7 => ?_)
        ·replace hj2 := bif_t hb7 hj2
         refine St.gOn (dj := 78) rfl rfl ?_
         refine St.p rfl rfl ?_
         refine St.gOn (dj := 78) rfl rfl ?_
         refine St.loadB 2 rfl rfl (.tail _ (.tail _ (.tail _ (.head _)))) rfl rfl ?_
         refine St.gOn (dj := 78) rfl rfl ?_
         refine St.p rfl rfl ?_
         refine St.p rfl rfl ?_
         refine St.done ?_
         injection hj2 with hj2
         subst hj2
         refine St.thenN ?_
         exact St.hereE () ⟨rfl, rfl, rfl, rfl, rfl, rfl, rfl, trivial⟩ (fun _ w => ((.k (.k (.k (.k (.k (.k (.k (.k (.k .z))))))))) : Keep _ _).sat w)
        ·replace hj2 := bif_f hb7 hj2
         refine St.gOff (dj := 78) rfl rfl rfl rfl ?_
         refine St.gOff (dj := 78) rfl rfl rfl rfl ?_
         refine St.gOff (dj := 78) rfl rfl rfl rfl ?_
         refine St.p rfl rfl ?_
         refine St.done ?_
         injection hj2 with hj2
         subst hj2
         refine St.thenN ?_
         exact St.hereE () ⟨rfl, rfl, rfl, rfl, rfl, rfl, rfl, trivial⟩ (fun _ w => ((.k (.k (.k (.k (.k (.k (.k (.k (.k .z))))))))) : Keep _ _).sat w)
       ·rintro e6
        refine St.cond _ rfl (fun hb8 => ?_) (fun hb8 => ?_)
        ·replace h2 := bif_t hb8 h2
         refine St.skip ?_
         refine St.thenN ?_
         refine St.prune (Γ' := [(2, _), (4, _), (5, _), (6, _), (7, _), (10, _)]) ⟨rfl, rfl, rfl, rfl, rfl, rfl, trivial⟩ (.k (.k (.k (.k (.k (.k (.k (.k (.k .z))))))))) ?_
         refine St.seq ?_
         refine St.block ?_
         refine St.seq ?_
         refine St.region ?_
         obtain ⟨r11, hr11, h2⟩ := bnd_e h2
         refine St.call (c_ref28_reader_text hr11) ent54 rfl rfl rfl (fun _ w => Sat.dup (G := [.ro (SlL eu8 A27 c27 s2.2.2.1)]) rfl ⟨(.tail _ (.tail _ (.head _))), trivial⟩ (w.front (.s (.s (.s .z))))) ?_
         rintro _ _ ⟨A32, c32, rfl, rfl⟩
         refine St.asrt (F' := .ro (SlL eu8 A32 c32 r11.1.b) :: .res (Box g2 86 [.slice A32 r11.1.b.length c32, .int .i64 r11.1.at_, .bool r11.1.bad]) :: .res (OwnL e_Need 67 A28 c28 s2.2.2.2.2.2) :: .ro (SlL eu8 A27 c27 s2.2.2.1) :: .res (OwnL e_Need 67 A26 c26 s2.2.1) :: .res (OwnC (codL l_T_Image) 41 A16 c16 o1.2.2.2.2.2) :: .res (OwnC (codL l_T_Image) 41 A14 c14 o1.2.1) :: .res (OwnL eu32 43 A13 c13 o1.1) :: .res (Box g3 26 [.slice A16 o1.2.2.2.2.2.length c16, .slice A28 s2.2.2.2.2.2.length c28]) :: .res (Box g1 26 [.slice A14 o1.2.1.length c14, .slice A26 s2.2.1.length c26]) :: R) (fun _ w => w) ?_
         refine St.p rfl rfl ?_
         refine St.alloc rfl rfl fun g7 => ?_
         refine St.store 0 rfl rfl rfl rfl rfl rfl .z rfl ?_
         refine St.done ?_
         refine St.thenN ?_
         refine St.prune (Γ' := [(2, _), (4, _), (5, _), (6, _), (7, _), (10, _), (11, _)]) ⟨rfl, rfl, rfl, rfl, rfl, rfl, rfl, trivial⟩ (.k (.k (.k (.k (.d (.k (.k (.k (.k (.k (.k .z))))))))))) ?_
         refine St.seq ?_
         refine St.region ?_
         obtain ⟨r12, hr12, h2⟩ := bnd_e h2
         refine St.call (c_ref28_reader_version hr12) ent55 rfl rfl rfl (fun _ w => Sat.dup (G := [.ro (SlL eu8 A32 c32 r11.1.b)]) rfl ⟨(.tail _ (.tail _ (.head _))), trivial⟩ (w.front (.s (.s .z)))) ?_
         rintro _ _ ⟨A33, c33, rfl, rfl⟩
         refine St.asrt (F' := .ro (SlL eu8 A33 c33 r12.1.b) :: .res (Box g2 86 [.slice A33 r12.1.b.length c33, .int .i64 r12.1.at_, .bool r12.1.bad]) :: .res (Box g7 67 [.string r11.2, .int .i64 0, .int .i64 0, .int .i64 0, .string (⟨#[]⟩), .int .i64 0, .int .i64 0, .int .i64 0]) :: .ro (SlL eu8 A32 c32 r11.1.b) :: .res (OwnL e_Need 67 A28 c28 s2.2.2.2.2.2) :: .res (OwnL e_Need 67 A26 c26 s2.2.1) :: .res (OwnC (codL l_T_Image) 41 A16 c16 o1.2.2.2.2.2) :: .res (OwnC (codL l_T_Image) 41 A14 c14 o1.2.1) :: .res (OwnL eu32 43 A13 c13 o1.1) :: .res (Box g3 26 [.slice A16 o1.2.2.2.2.2.length c16, .slice A28 s2.2.2.2.2.2.length c28]) :: .res (Box g1 26 [.slice A14 o1.2.1.length c14, .slice A26 s2.2.1.length c26]) :: R) (fun _ w => w) ?_
         refine St.p rfl rfl ?_
         refine St.store 1 rfl rfl rfl rfl rfl rfl (.s (.s .z)) rfl ?_
         refine St.done ?_
         refine St.thenN ?_
         refine St.prune (Γ' := [(2, _), (4, _), (5, _), (6, _), (7, _), (10, _), (11, _)]) ⟨rfl, rfl, rfl, rfl, rfl, rfl, rfl, trivial⟩ (.k (.k (.k (.d (.k (.k (.k (.k (.k (.k (.k .z))))))))))) ?_
         refine St.seq ?_
         refine St.region ?_
         obtain ⟨r13, hr13, h2⟩ := bnd_e h2
         refine St.call (c_ref28_reader_text hr13) ent54 rfl rfl rfl (fun _ w => Sat.dup (G := [.ro (SlL eu8 A33 c33 r12.1.b)]) rfl ⟨(.tail _ (.tail _ (.head _))), trivial⟩ (w.front (.s (.s .z)))) ?_
         rintro _ _ ⟨A34, c34, rfl, rfl⟩
         refine St.asrt (F' := .ro (SlL eu8 A34 c34 r13.1.b) :: .res (Box g2 86 [.slice A34 r13.1.b.length c34, .int .i64 r13.1.at_, .bool r13.1.bad]) :: .res (Box g7 67 [.string r11.2, .int .i64 r12.2.Major, .int .i64 r12.2.Minor, .int .i64 r12.2.Patch, .string (⟨#[]⟩), .int .i64 0, .int .i64 0, .int .i64 0]) :: .ro (SlL eu8 A33 c33 r12.1.b) :: .res (OwnL e_Need 67 A28 c28 s2.2.2.2.2.2) :: .res (OwnL e_Need 67 A26 c26 s2.2.1) :: .res (OwnC (codL l_T_Image) 41 A16 c16 o1.2.2.2.2.2) :: .res (OwnC (codL l_T_Image) 41 A14 c14 o1.2.1) :: .res (OwnL eu32 43 A13 c13 o1.1) :: .res (Box g3 26 [.slice A16 o1.2.2.2.2.2.length c16, .slice A28 s2.2.2.2.2.2.length c28]) :: .res (Box g1 26 [.slice A14 o1.2.1.length c14, .slice A26 s2.2.1.length c26]) :: R) (fun _ w => w) ?_
         refine St.p rfl rfl ?_
         refine St.store 4 rfl rfl rfl rfl rfl rfl (.s (.s .z)) rfl ?_
         refine St.done ?_
         refine St.thenN ?_
         refine St.prune (Γ' := [(2, _), (4, _), (5, _), (6, _), (7, _), (10, _), (11, _)]) ⟨rfl, rfl, rfl, rfl, rfl, rfl, rfl, trivial⟩ (.k (.k (.k (.d (.k (.k (.k (.k (.k (.k (.k .z))))))))))) ?_
         refine St.seq ?_
         refine St.region ?_
         obtain ⟨r14, hr14, h2⟩ := bnd_e h2
         refine St.call (c_ref28_reader_version hr14) ent55 rfl rfl rfl (fun _ w => Sat.dup (G := [.ro (SlL eu8 A34 c34 r13.1.b)]) rfl ⟨(.tail _ (.tail _ (.head _))), trivial⟩ (w.front (.s (.s .z)))) ?_
         rintro _ _ ⟨A35, c35, rfl, rfl⟩
         refine St.asrt (F' := .ro (SlL eu8 A35 c35 r14.1.b) :: .res (Box g2 86 [.slice A35 r14.1.b.length c35, .int .i64 r14.1.at_, .bool r14.1.bad]) :: .res (Box g7 67 [.string r11.2, .int .i64 r12.2.Major, .int .i64 r12.2.Minor, .int .i64 r12.2.Patch, .string r13.2, .int .i64 0, .int .i64 0, .int .i64 0]) :: .ro (SlL eu8 A34 c34 r13.1.b) :: .res (OwnL e_Need 67 A28 c28 s2.2.2.2.2.2) :: .res (OwnL e_Need 67 A26 c26 s2.2.1) :: .res (OwnC (codL l_T_Image) 41 A16 c16 o1.2.2.2.2.2) :: .res (OwnC (codL l_T_Image) 41 A14 c14 o1.2.1) :: .res (OwnL eu32 43 A13 c13 o1.1) :: .res (Box g3 26 [.slice A16 o1.2.2.2.2.2.length c16, .slice A28 s2.2.2.2.2.2.length c28]) :: .res (Box g1 26 [.slice A14 o1.2.1.length c14, .slice A26 s2.2.1.length c26]) :: R) (fun _ w => w) ?_
         refine St.p rfl rfl ?_
         refine St.store 5 rfl rfl rfl rfl rfl rfl (.s (.s .z)) rfl ?_
         refine St.done ?_
         refine St.thenN ?_
         refine St.prune (Γ' := [(2, _), (4, _), (5, _), (6, _), (7, _), (10, _), (11, _)]) ⟨rfl, rfl, rfl, rfl, rfl, rfl, rfl, trivial⟩ (.k (.k (.k (.d (.k (.k (.k (.k (.k (.k (.k .z))))))))))) ?_
         refine St.region ?_
         refine St.p rfl rfl ?_
         refine St.loadB 1 rfl rfl (.tail _ (.tail _ (.tail _ (.tail _ (.tail _ (.tail _ (.tail _ (.tail _ (.head _))))))))) rfl rfl ?_
         refine St.loadB 0 rfl rfl (.head _) rfl rfl ?_
         refine St.buildSlice rfl rfl rfl rfl rfl rfl rfl rfl fun g8 => ?_
         obtain ⟨l6, hl6, h2⟩ := bnd_e h2
         refine St.app (E := e_Need) hl6 rfl rfl rfl (.s (.s (.s (.s .z)))) rfl rfl rfl rfl rfl rfl rfl rfl (srcB (.head _) rfl rfl) rfl rfl fun A36 c36 => ?_
         refine St.p rfl rfl ?_
         refine St.store 1 rfl rfl rfl rfl rfl rfl (.s (.s (.s (.s (.s (.s (.s (.s (.s .z))))))))) rfl ?_
         refine St.done ?_
         refine St.blkN ?_
         refine St.thenN ?_
         refine St.prune (Γ' := [(2, _), (4, _), (5, _), (6, _), (7, _), (10, _)]) ⟨rfl, rfl, rfl, rfl, rfl, rfl, trivial⟩ (.k (.k (.d (.d (.k (.k (.k (.k (.k (.k (.k .z))))))))))) ?_
         refine St.region ?_
         iterate 3 refine St.p rfl rfl ?_
         refine St.done ?_
         injection h2 with h2
         subst h2
         refine St.thenN ?_
         exact St.again _ (A26, c26, A35, c35, A36, c36) hm2 trivial ⟨rfl, rfl, rfl, rfl, rfl, rfl, trivial⟩ (fun _ w => ((.k (.k (.k (.k (.k (.k (.k (.k (.k .z))))))))) : Keep _ _).sat (((((((((w.front (.s (.s (.s (.s (.s (.s (.s (.s .z))))))))).front (.s .z)).front (.s (.s (.s (.s (.s (.s (.s (.s .z))))))))).front (.s (.s (.s (.s (.s (.s (.s (.s .z))))))))).front (.s (.s (.s (.s (.s (.s (.s (.s .z))))))))).front (.s (.s (.s (.s (.s (.s (.s .z)))))))).front (.s (.s (.s (.s (.s (.s (.s (.s .z))))))))).front (.s (.s (.s (.s (.s (.s (.s (.s .z))))))))).front (.s (.s (.s (.s (.s (.s (.s (.s .z))))))))))
        ·replace h2 := bif_f hb8 h2
         refine St.exit ?_
         repeat (first | refine St.thenX ?_ | refine St.blkMiss rfl ?_)
         refine St.blkHit ?_
         injection h2 with h2
         subst h2
         have ho := hd2 _ rfl
         subst ho
         refine St.thenN ?_
         exact St.hereE (A26, c26, A27, c27, A28, c28) ⟨rfl, rfl, rfl, rfl, rfl, trivial⟩ (fun _ w => ((.k (.k (.k (.k (.k (.k (.k (.k (.k .z))))))))) : Keep _ _).sat w)
      ·rintro ⟨A29, c29, A30, c30, A31, c31⟩
       refine St.seq ?_
       refine St.seq ?_
       obtain ⟨o5, hj3, h⟩ := bnd_e h
       refine St.cutE (fun (e7 : Unit) => [(2, .pointer (some ⟨g1, 0, none⟩)), (6, .pointer (some ⟨g3, 0, none⟩)), (7, .slice A13 o1.1.length c13), (106, .bool o5)]) (fun e7 => .res (OwnL e_Need 67 A31 c31 o3.2.2.2.2) :: .res (OwnL e_Need 67 A29 c29 o3.1) :: .res (OwnC (codL l_T_Image) 41 A16 c16 o1.2.2.2.2.2) :: .res (OwnC (codL l_T_Image) 41 A14 c14 o1.2.1) :: .res (OwnL eu32 43 A13 c13 o1.1) :: .res (Box g3 26 [.slice A16 o1.2.2.2.2.2.length c16, .slice A31 o3.2.2.2.2.length c31]) :: .res (Box g1 26 [.slice A14 o1.2.1.length c14, .slice A29 o3.1.length c29]) :: R) ?_ ?_
       ·refine St.region ?_
        refine St.p rfl rfl ?_
        refine St.loadB 2 rfl rfl (.tail _ (.tail _ (.tail _ (.head _)))) rfl rfl ?_
        refine St.p rfl rfl ?_
        refine St.gSplit (dj := 101) _ rfl (fun hb9 => ?_) (fun hb9 => ?_)
        ·replace hj3 := bif_t hb9 hj3
         refine St.gOff (dj := 101) rfl rfl rfl rfl ?_
         refine St.gOff (dj := 101) rfl rfl rfl rfl ?_
         refine St.gOff (dj := 101) rfl rfl rfl rfl ?_
         refine St.gOff (dj := 101) rfl rfl rfl rfl ?_
         refine St.p rfl rfl ?_
         refine St.done ?_
         injection hj3 with hj3
         subst hj3
         refine St.thenN ?_
         exact St.hereE () ⟨rfl, rfl, rfl, rfl, trivial⟩ (fun _ w => ((.k (.d (.k (.d (.k (.k (.k (.k (.k .z))))))))) : Keep _ _).sat w)
        ·replace hj3 := bif_f hb9 hj3
         refine St.gOn (dj := 101) rfl rfl ?_
         refine St.p rfl rfl ?_
         refine St.gOn (dj := 101) rfl rfl ?_
         refine St.loadB 1 rfl rfl (.tail _ (.tail _ (.tail _ (.head _)))) rfl rfl ?_
         refine St.gOn (dj := 101) rfl rfl ?_
         refine St.p rfl rfl ?_
         refine St.gOn (dj := 101) rfl rfl ?_
         refine St.p rfl rfl ?_
         refine St.p rfl rfl ?_
         refine St.done ?_
         injection hj3 with hj3
         subst hj3
         refine St.thenN ?_
         exact St.hereE () ⟨rfl, rfl, rfl, rfl, trivial⟩ (fun _ w => ((.k (.d (.k (.d (.k (.k (.k (.k (.k .z))))))))) : Keep _ _).sat w)
       ·rintro e7
        refine St.cond _ rfl (fun hb10 => ?_) (fun hb10 => ?_)
        ·replace h := bif_t hb10 h
         refine St.seq ?_
         refine St.region ?_
         refine St.p rfl rfl ?_
         refine St.store 0 rfl rfl rfl rfl rfl rfl (.s (.s (.s (.s (.s (.s .z)))))) rfl ?_
         refine St.p rfl rfl ?_
         refine St.done ?_
         refine St.thenN ?_
         refine St.prune (Γ' := [(2, _), (3, _)]) ⟨rfl, rfl, trivial⟩ (.k (.d (.d (.d (.d (.d (.d .z))))))) ?_
         refine St.ret ?_
         repeat (first | refine St.thenR ?_ | refine St.blkR ?_)
         refine St.asrt (fun _ w => w.nilSl (codL l_T_Image)) ?_
         refine St.asrt (fun _ w => w.nilSl (cod e_Need)) ?_
         injection h with h
         subst h
         exact St.finR Try.results23 (.cell rfl (.tail _ (.tail _ (.head _))) rfl (.tmp rfl .nil)) rfl [.ro (Sl (codL l_T_Image) none 0 ([] : List T_Image)), .ro (SlL e_Need none 0 ([] : List T_Need))] ⟨none, 0, none, 0, rfl, rfl⟩ (fun _ w => ((.k (.k (.d (.d (.d .z))))) : Keep _ _).sat (Sat.dup (G := [.ro (Sl (codL l_T_Image) none 0 ([] : List T_Image)), .ro (SlL e_Need none 0 ([] : List T_Need))]) rfl ⟨(.tail _ (.head _)), (.head _), trivial⟩ w))
        ·replace h := bif_f hb10 h
         refine St.skip ?_
         refine St.thenN ?_
         refine St.prune (Γ' := [(2, _), (6, _), (7, _)]) ⟨rfl, rfl, rfl, trivial⟩ (.k (.k (.k (.k (.k (.k (.k .z))))))) ?_
         refine St.seq ?_
         refine St.seq ?_
         refine St.region ?_
         refine St.p rfl rfl ?_
         refine St.done ?_
         refine St.thenN ?_
         obtain ⟨o6, hl3, h⟩ := bnd_e h
         refine St.cutI (fun (o7 : List T_Image) (e9 : Option Addr × Nat) => [(2, .pointer (some ⟨g1, 0, none⟩)), (6, .pointer (some ⟨g3, 0, none⟩))]) (fun o7 e9 => .res (OwnC (codL l_T_Image) 41 e9.1 e9.2 o7) :: .res (OwnL e_Need 67 A31 c31 o3.2.2.2.2) :: .res (OwnL e_Need 67 A29 c29 o3.1) :: .res (OwnC (codL l_T_Image) 41 A14 c14 o1.2.1) :: .res (Box g3 26 [.slice e9.1 o7.length e9.2, .slice A31 o3.2.2.2.2.length c31]) :: .res (Box g1 26 [.slice A14 o1.2.1.length c14, .slice A29 o3.1.length c29]) :: R) (fun o7 => o6 = .inr o7) ?_ ?_
         ·refine St.block ?_
          refine St.loop hl3 (fun (s3 : Int × List T_Image) (e8 : Option Addr × Nat) => [(2, .pointer (some ⟨g1, 0, none⟩)), (6, .pointer (some ⟨g3, 0, none⟩)), (7, .slice A13 o1.1.length c13), (12, .int .i64 s3.1)]) (fun s3 e8 => .res (OwnC (codL l_T_Image) 41 e8.1 e8.2 s3.2) :: .res (OwnL e_Need 67 A31 c31 o3.2.2.2.2) :: .res (OwnL e_Need 67 A29 c29 o3.1) :: .res (OwnC (codL l_T_Image) 41 A14 c14 o1.2.1) :: .res (OwnL eu32 43 A13 c13 o1.1) :: .res (Box g3 26 [.slice e8.1 s3.2.length e8.2, .slice A31 o3.2.2.2.2.length c31]) :: .res (Box g1 26 [.slice A14 o1.2.1.length c14, .slice A29 o3.1.length c29]) :: R) (fun _ _ => True) (A16, c16) trivial ⟨rfl, rfl, rfl, rfl, trivial⟩ (fun _ w => ((.k (.k (.k (.k (.k (.k (.k .z))))))) : Keep _ _).sat (((((((w.front (.s (.s (.s (.s (.s (.s .z))))))).front (.s (.s (.s (.s (.s (.s .z))))))).front (.s (.s (.s (.s (.s (.s .z))))))).front (.s (.s (.s (.s (.s (.s .z))))))).front (.s (.s (.s (.s (.s .z)))))).front (.s (.s (.s (.s (.s .z)))))).front (.s (.s (.s (.s (.s (.s .z)))))))) ?_
          rintro s3 ⟨A37, c37⟩ - hit3
          obtain ⟨st3, hm3, hd3⟩ := iter_e hit3
          have h3 := hm3
          refine St.seq ?_
          refine St.seq ?_
          refine St.region ?_
          iterate 4 refine St.p rfl rfl ?_
          refine St.done ?_
          refine St.thenN ?_
          refine St.prune (Γ' := [(2, _), (6, _), (7, _), (12, _), (111, _)]) ⟨rfl, rfl, rfl, rfl, rfl, trivial⟩ (.k (.k (.k (.k (.k (.k (.k .z))))))) ?_
          refine St.cond _ rfl (fun hb11 => ?_) (fun hb11 => ?_)
          ·replace h3 := bif_t hb11 h3
           refine St.skip ?_
           refine St.thenN ?_
           refine St.prune (Γ' := [(2, _), (6, _), (7, _), (12, _)]) ⟨rfl, rfl, rfl, rfl, trivial⟩ (.k (.k (.k (.k (.k (.k (.k .z))))))) ?_
           refine St.seq ?_
           refine St.block ?_
           refine St.seq ?_
           obtain ⟨x1, hx1, h3⟩ := bnd_e h3
           refine St.openOC (.head _) hx1 fun g9 hA => ?_
           subst hA
           obtain ⟨x2, hx2, h3⟩ := bnd_e h3
           refine St.openO (.tail _ (.tail _ (.tail _ (.tail _ (.head _))))) hx2 fun g10 hA => ?_
           subst hA
           refine St.regionX (iL [(.fl, 0), (.fx, 1), (.fl, 2), (.fx, 3), (.fl, 7), (.fl, 8), (.fl, 9), (.fl, 10), (.ef, 4), (.ef, 5), (.ef, 6), (.fl, 11)] .nil) (.res (OwnC (codL l_T_Image) 41 (some ⟨g9, 0, none⟩) c37 s3.2) :: .res (OwnL e_Need 67 A31 c31 o3.2.2.2.2) :: .res (OwnL e_Need 67 A29 c29 o3.1) :: .res (OwnC (codL l_T_Image) 41 A14 c14 o1.2.1) :: .res (OwnL eu32 43 (some ⟨g10, 0, none⟩) c13 o1.1) :: .res (Box g3 26 [.slice (some ⟨g9, 0, none⟩) s3.2.length c37, .slice A31 o3.2.2.2.2.length c31]) :: .res (Box g1 26 [.slice A14 o1.2.1.length c14, .slice A29 o3.1.length c29]) :: R) mixed (by kernel_rfl) (fun _ w => ((.k (.k (.k (.k (.k (.k (.k .z))))))) : Keep _ _).sat w) ?_
           refine St.xfl (fun _ h => h) (Rd.p rfl) rfl ?_
           refine St.xfx (Rd.loadB 0 rfl (.tail _ (.tail _ (.tail _ (.tail _ (.tail _ (.head _)))))) rfl rfl) rfl ?_
           refine St.xfl (fun _ h => h) (Rd.p rfl) rfl ?_
           obtain ⟨x3, hx3, h3⟩ := bnd_e h3
           refine St.xfx (Rd.ixOC (n' := 5) hx3 rfl rfl rfl rfl rfl rfl rfl) rfl ?_
           refine St.xfl (fun _ h => h) (Rd.p rfl) rfl ?_
           refine St.xfl (fun _ h => h) (Rd.p rfl) rfl ?_
           obtain ⟨x4, hx4, h3⟩ := bnd_e h3
           refine St.xfl (fun _ h => h) (Rd.ixO (E := eu32) hx4 rfl rfl rfl rfl rfl rfl rfl) rfl ?_
           refine St.xfl (fun _ h => h) (Rd.ldO 0 hx4 rfl (.tail _ (.tail _ (.tail _ (.tail _ (.head _))))) rfl rfl) rfl ?_
           refine St.xef ?_
           refine St.ldC (ls := l_T_Image) 0 (fun ex => .agg (bx_T_Image x3 ex.1.1 ex.1.2).toArray) hx3 rfl rfl (.head _) rfl (fun _ => rfl) fun ex1 => ?_
           obtain ⟨⟨A39, c39⟩, _⟩ := ex1
           refine St.asrt (F' := .ro (SlL eu8 A39 c39 x3.Data) :: .res (OwnC (codL l_T_Image) 41 (some ⟨g9, 0, none⟩) c37 s3.2) :: .res (OwnL e_Need 67 A31 c31 o3.2.2.2.2) :: .res (OwnL e_Need 67 A29 c29 o3.1) :: .res (OwnC (codL l_T_Image) 41 A14 c14 o1.2.1) :: .res (OwnL eu32 43 (some ⟨g10, 0, none⟩) c13 o1.1) :: .res (Box g3 26 [.slice (some ⟨g9, 0, none⟩) s3.2.length c37, .slice A31 o3.2.2.2.2.length c31]) :: .res (Box g1 26 [.slice A14 o1.2.1.length c14, .slice A29 o3.1.length c29]) :: R) (fun _ w => w) ?_
           refine St.xk (fun _ w => ((.d (.k (.k (.k (.k (.k (.k (.k .z)))))))) : Keep _ _).sat w) ?_
           refine St.xef ?_
           obtain ⟨r15, hr15, h3⟩ := bnd_e h3
           refine St.call (c_ref28_image hr15) ent34 rfl rfl rfl (fun _ w => Sat.dup (G := [.ro (SlL eu8 A39 c39 x3.Data)]) rfl ⟨(.head _), trivial⟩ w) ?_
           rintro _ _ ⟨A40, c40, rfl, rfl⟩
           refine St.asrt (F' := .res (OwnL eu8 5 A40 c40 r15) :: .ro (SlL eu8 A39 c39 x3.Data) :: .res (OwnC (codL l_T_Image) 41 (some ⟨g9, 0, none⟩) c37 s3.2) :: .res (OwnL e_Need 67 A31 c31 o3.2.2.2.2) :: .res (OwnL e_Need 67 A29 c29 o3.1) :: .res (OwnC (codL l_T_Image) 41 A14 c14 o1.2.1) :: .res (OwnL eu32 43 (some ⟨g10, 0, none⟩) c13 o1.1) :: .res (Box g3 26 [.slice (some ⟨g9, 0, none⟩) s3.2.length c37, .slice A31 o3.2.2.2.2.length c31]) :: .res (Box g1 26 [.slice A14 o1.2.1.length c14, .slice A29 o3.1.length c29]) :: R) (fun _ w => w) ?_
           refine St.xk (fun _ w => ((.d (.d (.k (.k (.k (.k (.k (.k (.k .z))))))))) : Keep _ _).sat w) ?_
           refine St.xef ?_
           refine St.asrt (fun _ w => (w.front .z).meltL) ?_
           obtain ⟨r16, hr16, h3⟩ := bnd_e h3
           refine St.callV (c_ref01_CRC32 hr16) ent38 rfl rfl rfl rfl ⟨(.head _), trivial⟩ ?_
           refine St.xk (fun _ w => ((.d (.d (.k (.k (.k (.k (.k (.k (.k .z))))))))) : Keep _ _).sat w) ?_
           refine St.xfl (fun _ h => h) (Rd.p rfl) rfl ?_
           refine St.xdone ?_
           refine St.thenN ?_
           refine St.prune (Γ' := [(2, _), (6, _), (7, _), (12, _), (125, _)]) ⟨rfl, rfl, rfl, rfl, rfl, trivial⟩ (.d (.d (.k (.k (.k (.k (.k (.k (.k .z))))))))) ?_
           refine St.cond _ rfl (fun hb12 => ?_) (fun hb12 => ?_)
           ·replace h3 := bif_t hb12 h3
            refine St.seq ?_
            refine St.region ?_
            refine St.p rfl rfl ?_
            refine St.store 0 rfl rfl rfl rfl rfl rfl (.s (.s (.s (.s (.s (.s .z)))))) rfl ?_
            refine St.p rfl rfl ?_
            refine St.done ?_
            refine St.thenN ?_
            refine St.prune (Γ' := [(2, _), (3, _)]) ⟨rfl, rfl, trivial⟩ (.k (.d (.d (.d (.d (.d (.d .z))))))) ?_
            refine St.ret ?_
            repeat (first | refine St.thenR ?_ | refine St.blkR ?_)
            refine St.asrt (fun _ w => w.nilSl (codL l_T_Image)) ?_
            refine St.asrt (fun _ w => w.nilSl (cod e_Need)) ?_
            injection h3 with h3
            subst h3
            have ho := hd3 _ rfl
            subst ho
            have h : some _ = some _ := h
            injection h with h
            subst h
            exact St.finR Try.results23 (.cell rfl (.tail _ (.tail _ (.head _))) rfl (.tmp rfl .nil)) rfl [.ro (Sl (codL l_T_Image) none 0 ([] : List T_Image)), .ro (SlL e_Need none 0 ([] : List T_Need))] ⟨none, 0, none, 0, rfl, rfl⟩ (fun _ w => ((.k (.k (.d (.d (.d .z))))) : Keep _ _).sat (Sat.dup (G := [.ro (Sl (codL l_T_Image) none 0 ([] : List T_Image)), .ro (SlL e_Need none 0 ([] : List T_Need))]) rfl ⟨(.tail _ (.head _)), (.head _), trivial⟩ w))
           ·replace h3 := bif_f hb12 h3
            refine St.skip ?_
            refine St.blkN ?_
            refine St.thenN ?_
            refine St.prune (Γ' := [(2, _), (6, _), (7, _), (12, _)]) ⟨rfl, rfl, rfl, rfl, trivial⟩ (.k (.k (.k (.k (.k (.k (.k .z))))))) ?_
            refine St.region ?_
            iterate 3 refine St.p rfl rfl ?_
            refine St.done ?_
            injection h3 with h3
            subst h3
            refine St.thenN ?_
            exact St.again _ ((some ⟨g9, 0, none⟩), c37) hm3 trivial ⟨rfl, rfl, rfl, rfl, trivial⟩ (fun _ w => ((.k (.k (.k (.k (.k (.k (.k .z))))))) : Keep _ _).sat w)
          ·replace h3 := bif_f hb11 h3
           refine St.exit ?_
           repeat (first | refine St.thenX ?_ | refine St.blkMiss rfl ?_)
           refine St.blkHit ?_
           injection h3 with h3
           subst h3
           have ho := hd3 _ rfl
           subst ho
           refine St.thenN ?_
           exact St.hereI s3.2 (A37, c37) rfl ⟨rfl, rfl, trivial⟩ (fun _ w => ((.k (.k (.k (.k (.d (.k (.k .z))))))) : Keep _ _).sat w)
         ·rintro o7 ⟨A38, c38⟩ ho
          subst ho
          have h : _ = some _ := h
          refine St.seq ?_
          refine St.seq ?_
          refine St.region ?_
          refine St.loadB 0 rfl rfl (.tail _ (.tail _ (.tail _ (.tail _ (.head _))))) rfl rfl ?_
          refine St.asrt (fun _ w => (w.front .z).meltC) ?_
          refine St.asrt (fun _ w => (w.front (.s .z)).meltL) ?_
          obtain ⟨r17, hr17, h⟩ := bnd_e h
          refine St.callV (c_ref28_Valid hr17) ent14 rfl rfl rfl rfl ⟨(.tail _ (.head _)), (.head _), trivial⟩ ?_
          refine St.p rfl rfl ?_
          refine St.done ?_
          refine St.thenN ?_
          refine St.prune (Γ' := [(2, _), (6, _), (13, _)]) ⟨rfl, rfl, rfl, trivial⟩ (.k (.k (.k (.k (.k (.k .z)))))) ?_
          refine St.seq ?_
          refine St.region ?_
          refine St.p rfl rfl ?_
          refine St.p rfl rfl ?_
          refine St.done ?_
          refine St.thenN ?_
          refine St.prune (Γ' := [(2, _), (6, _), (13, _), (130, _)]) ⟨rfl, rfl, rfl, rfl, trivial⟩ (.k (.k (.k (.k (.k (.k .z)))))) ?_
          refine St.cond _ rfl (fun hb13 => ?_) (fun hb13 => ?_)
          ·replace h := bif_t hb13 h
           refine St.seq ?_
           refine St.region ?_
           refine St.p rfl rfl ?_
           refine St.p rfl rfl ?_
           refine St.store 0 rfl rfl rfl rfl rfl rfl (.s (.s (.s (.s (.s .z))))) rfl ?_
           refine St.p rfl rfl ?_
           refine St.done ?_
           refine St.thenN ?_
           refine St.prune (Γ' := [(2, _), (3, _)]) ⟨rfl, rfl, trivial⟩ (.k (.d (.d (.d (.d (.d .z)))))) ?_
           refine St.ret ?_
           repeat (first | refine St.thenR ?_ | refine St.blkR ?_)
           refine St.asrt (fun _ w => w.nilSl (codL l_T_Image)) ?_
           refine St.asrt (fun _ w => w.nilSl (cod e_Need)) ?_
           injection h with h
           subst h
           exact St.finR Try.results23 (.cell rfl (.tail _ (.tail _ (.head _))) rfl (.tmp rfl .nil)) rfl [.ro (Sl (codL l_T_Image) none 0 ([] : List T_Image)), .ro (SlL e_Need none 0 ([] : List T_Need))] ⟨none, 0, none, 0, rfl, rfl⟩ (fun _ w => ((.k (.k (.d (.d (.d .z))))) : Keep _ _).sat (Sat.dup (G := [.ro (Sl (codL l_T_Image) none 0 ([] : List T_Image)), .ro (SlL e_Need none 0 ([] : List T_Need))]) rfl ⟨(.tail _ (.head _)), (.head _), trivial⟩ w))
          ·replace h := bif_f hb13 h
           refine St.skip ?_
           refine St.thenN ?_
           refine St.prune (Γ' := [(2, _), (6, _)]) ⟨rfl, rfl, trivial⟩ (.k (.k (.k (.k (.k (.k .z)))))) ?_
           refine St.seq ?_
           refine St.region ?_
           refine St.loadB 0 rfl rfl (.tail _ (.tail _ (.tail _ (.tail _ (.head _))))) rfl rfl ?_
           refine St.store 0 rfl rfl rfl rfl rfl rfl (.s (.s (.s (.s (.s .z))))) rfl ?_
           refine St.p rfl rfl ?_
           refine St.done ?_
           refine St.thenN ?_
           refine St.prune (Γ' := [(2, _), (3, _)]) ⟨rfl, rfl, trivial⟩ (.k (.k (.k (.d (.d (.d .z)))))) ?_
           refine St.ret ?_
           repeat (first | refine St.thenR ?_ | refine St.blkR ?_)
           injection h with h
           subst h
           exact St.finR Try.results23 (.cell rfl (.head _) rfl (.tmp rfl .nil)) rfl [.ro (Sl (codL l_T_Image) A38 c38 o7), .ro (SlL e_Need A31 c31 o3.2.2.2.2)] ⟨A38, c38, A31, c31, rfl, rfl⟩ (fun _ w => ((.k (.k (.d (.d (.d .z))))) : Keep _ _).sat (Sat.dup (G := [.ro (Sl (codL l_T_Image) A38 c38 o7), .ro (SlL e_Need A31 c31 o3.2.2.2.2)]) rfl ⟨(.tail _ (.tail _ (.head _))), (.tail _ (.head _)), trivial⟩ w))

theorem ent4 : Ent Try.prog 4 := ⟨_, Try.func4, by kernel_rfl, by kernel_rfl⟩

noncomputable def m_law28_BundleReads (codes : (List Int)) (raw : (List Int)) (at_p2 : Int) (by_p3 : Int) : Option Bool :=
 bnd (m_law28_awake) fun r1 => bif !r1 then (some false) else (bif decide ((raw.length : Int) > 9000) then (some true) else (bnd (m_field_New codes 300) fun r2 => bnd (m_field_Codes_Bundle r2) fun r3 => bnd (m_ref28_Encode r3.2) fun r4 => bnd (m_law28_seal raw) fun r5 => bnd ((bif decide ((r4.1.length : Int) > 0) then (bnd (remM (IntKind.wrap .i64 at_p2) (r4.1.length : Int)) fun q1 => bnd (app 1 ([]) r4.1) fun l1 => bnd (elt l1 q1) fun x1 => bnd (setE l1 q1 (iXor .u8 x1 by_p3)) fun l2 => bnd (sub r4.1 0 q1) fun l3 => bnd (sub l2 0 (IntKind.wrap .i64 ((l2.length : Int) - 4))) fun l4 => bnd (remM q1 (IntKind.wrap .i64 ((r4.1.length : Int) - 4))) fun q2 => bnd (sub r4.1 0 q2) fun l5 => bnd (remM q1 (IntKind.wrap .i64 ((r4.1.length : Int) - 4))) fun q3 => bnd (sub r4.1 (IntKind.wrap .i64 (q3 + 1)) (IntKind.wrap .i64 ((r4.1.length : Int) - 4))) fun l6 => bnd (app 1 ([]) r4.1) fun l7 => bnd (app 1 l7 [by_p3]) fun l8 => bnd (m_law28_seal l4) fun r6 => bnd (app 1 ([]) l5) fun l9 => bnd (app 1 l9 l6) fun l10 => bnd (m_law28_seal l10) fun r7 => bnd (app 24 ([raw, r5]) [r4.1, l3, l8, l2, r6, r7]) fun l11 => some l11) else (some ([raw, r5])) : Option (List (List Int)))) fun o1 => bnd (loopM (τ := Bool ⊕ Unit) (fun (s1 : Int) => bif decide (s1 < (o1.length : Int)) then (bnd (elt o1 s1) fun x2 => bnd (m_bundle_Decode x2) fun r8 => bnd (m_ref28_Decode x2) fun r9 => bnd ((bif (r8.2 != r9.2) then (some true) else (bnd (m_ref28_Same r8.1 r9.1) fun r10 => some (!r10)) : Option Bool)) fun o4 => bif o4 then (some (.done (.inl false))) else (some (.next (IntKind.wrap .i64 (s1 + 1))))) else (some (.done (.inr ())))) 0) fun o2 => retOr o2 fun o3 => some true))

set_option maxHeartbeats 4000000 in
theorem c_law28_BundleReads {codes : (List Int)} {raw : (List Int)} {at_p2 : Int} {by_p3 : Int} {A1 : Option Addr} {c1 : Nat} {A2 : Option Addr} {c2 : Nat} {r : Bool} (h : m_law28_BundleReads codes raw at_p2 by_p3 = some r) :
  Fun Try.prog 4 [.slice A1 codes.length c1, .slice A2 raw.length c2, .int .u16 at_p2, .int .u8 by_p3] [.ro (SlL eu8 A1 c1 codes), .ro (SlL eu8 A2 c2 raw)] (Val (.bool r)) := by
 unfold m_law28_BundleReads at h
 refine Fun.intro Try.func4 rfl rfl rfl fun w R => ?_
 refine St.seq ?_
 refine St.region ?_
 refine St.p rfl rfl ?_
 refine St.done ?_
 refine St.thenN ?_
 refine St.prune (Γ' := [(0, _), (1, _), (2, _), (3, _)]) ⟨rfl, rfl, rfl, rfl, trivial⟩ (.k (.k .z)) ?_
 refine St.seq ?_
 refine St.seq ?_
 refine St.region ?_
 obtain ⟨r1, hr1, h⟩ := bnd_e h
 refine St.callV (c_law28_awake hr1) ent7 rfl rfl rfl rfl trivial ?_
 refine St.p rfl rfl ?_
 refine St.done ?_
 refine St.thenN ?_
 refine St.prune (Γ' := [(0, _), (1, _), (2, _), (3, _), (22, _)]) ⟨rfl, rfl, rfl, rfl, rfl, trivial⟩ (.k (.k .z)) ?_
 refine St.cond _ rfl (fun hb1 => ?_) (fun hb1 => ?_)
 ·replace h := bif_t hb1 h
  refine St.seq ?_
  refine St.region ?_
  refine St.p rfl rfl ?_
  refine St.done ?_
  refine St.thenN ?_
  refine St.prune (Γ' := [(8, _)]) ⟨rfl, trivial⟩ (.d (.d .z)) ?_
  refine St.ret ?_
  repeat (first | refine St.thenR ?_ | refine St.blkR ?_)
  injection h with h
  subst h
  exact St.finR Try.results4 (.tmp rfl .nil) rfl [] ⟨rfl, rfl⟩ (fun _ w => (.z : Keep _ _).sat w)
 ·replace h := bif_f hb1 h
  refine St.skip ?_
  refine St.thenN ?_
  refine St.prune (Γ' := [(0, _), (1, _), (2, _), (3, _)]) ⟨rfl, rfl, rfl, rfl, trivial⟩ (.k (.k .z)) ?_
  refine St.seq ?_
  refine St.seq ?_
  refine St.region ?_
  iterate 3 refine St.p rfl rfl ?_
  refine St.done ?_
  refine St.thenN ?_
  refine St.prune (Γ' := [(0, _), (1, _), (2, _), (3, _), (25, _)]) ⟨rfl, rfl, rfl, rfl, rfl, trivial⟩ (.k (.k .z)) ?_
  refine St.cond _ rfl (fun hb2 => ?_) (fun hb2 => ?_)
  ·replace h := bif_t hb2 h
   refine St.seq ?_
   refine St.region ?_
   refine St.p rfl rfl ?_
   refine St.done ?_
   refine St.thenN ?_
   refine St.prune (Γ' := [(8, _)]) ⟨rfl, trivial⟩ (.d (.d .z)) ?_
   refine St.ret ?_
   repeat (first | refine St.thenR ?_ | refine St.blkR ?_)
   injection h with h
   subst h
   exact St.finR Try.results4 (.tmp rfl .nil) rfl [] ⟨rfl, rfl⟩ (fun _ w => (.z : Keep _ _).sat w)
  ·replace h := bif_f hb2 h
   refine St.skip ?_
   refine St.thenN ?_
   refine St.prune (Γ' := [(0, _), (1, _), (2, _), (3, _)]) ⟨rfl, rfl, rfl, rfl, trivial⟩ (.k (.k .z)) ?_
   refine St.seq ?_
   refine St.region ?_
   refine St.p rfl rfl ?_
   obtain ⟨r2, hr2, h⟩ := bnd_e h
   refine St.call (c_field_New hr2) ent9 rfl rfl rfl (fun _ w => Sat.dup (G := [.ro (SlL eu8 A1 c1 codes)]) rfl ⟨(.head _), trivial⟩ w) ?_
   rintro _ _ ⟨g1, A3, c3, rfl, rfl⟩
   refine St.asrt (F' := .ro (SlL eu8 A3 c3 r2.L) :: .res (Box g1 59 [.slice A3 r2.L.length c3, .int .i64 r2.At]) :: .ro (SlL eu8 A1 c1 codes) :: .ro (SlL eu8 A2 c2 raw) :: R) (fun _ w => w) ?_
   refine St.p rfl rfl ?_
   refine St.done ?_
   refine St.thenN ?_
   refine St.prune (Γ' := [(1, _), (2, _), (3, _), (9, _)]) ⟨rfl, rfl, rfl, rfl, trivial⟩ (.k (.k (.d (.k .z)))) ?_
   refine St.seq ?_
   refine St.region ?_
   refine St.p rfl rfl ?_
   obtain ⟨r3, hr3, h⟩ := bnd_e h
   refine St.call (c_field_Codes_Bundle hr3) ent10 rfl rfl rfl (fun _ w => Sat.dup (G := [.ro (SlL eu8 A3 c3 r2.L)]) rfl ⟨(.tail _ (.head _)), trivial⟩ (w.front (.s .z))) ?_
   rintro _ _ ⟨A4, c4, A5, c5, A6, c6, rfl, rfl⟩
   refine St.asrt (F' := .ro (SlL eu8 A4 c4 r3.1.L) :: .ro (Sl (codL l_T_Image) A5 c5 r3.2.Images) :: .ro (SlL e_Need A6 c6 r3.2.Needs) :: .res (Box g1 59 [.slice A4 r3.1.L.length c4, .int .i64 r3.1.At]) :: .ro (SlL eu8 A3 c3 r2.L) :: .ro (SlL eu8 A2 c2 raw) :: R) (fun _ w => w) ?_
   obtain ⟨r4, hr4, h⟩ := bnd_e h
   refine St.call (c_ref28_Encode hr4) ent12 rfl rfl rfl (fun _ w => Sat.dup (G := [.ro (Sl (codL l_T_Image) A5 c5 r3.2.Images), .ro (SlL e_Need A6 c6 r3.2.Needs)]) rfl ⟨(.tail _ (.head _)), (.tail _ (.tail _ (.head _))), trivial⟩ w) ?_
   rintro _ _ ⟨A7, c7, rfl, rfl⟩
   refine St.asrt (F' := .res (OwnL eu8 5 A7 c7 r4.1) :: .ro (SlL eu8 A4 c4 r3.1.L) :: .ro (Sl (codL l_T_Image) A5 c5 r3.2.Images) :: .ro (SlL e_Need A6 c6 r3.2.Needs) :: .res (Box g1 59 [.slice A4 r3.1.L.length c4, .int .i64 r3.1.At]) :: .ro (SlL eu8 A3 c3 r2.L) :: .ro (SlL eu8 A2 c2 raw) :: R) (fun _ w => w) ?_
   iterate 5 refine St.p rfl rfl ?_
   refine St.done ?_
   refine St.thenN ?_
   refine St.prune (Γ' := [(1, _), (2, _), (3, _), (10, _)]) ⟨rfl, rfl, rfl, rfl, trivial⟩ (.k (.d (.d (.d (.d (.d (.k .z))))))) ?_
   refine St.seq ?_
   refine St.region ?_
   refine St.p rfl rfl ?_
   refine St.p rfl rfl ?_
   obtain ⟨r5, hr5, h⟩ := bnd_e h
   refine St.call (c_law28_seal hr5) ent21 rfl rfl rfl (fun _ w => Sat.dup (G := [.ro (SlL eu8 A2 c2 raw)]) rfl ⟨(.tail _ (.head _)), trivial⟩ w) ?_
   rintro _ _ ⟨A8, c8, rfl, rfl⟩
   refine St.asrt (F' := .res (OwnL eu8 5 A8 c8 r5) :: .res (OwnL eu8 5 A7 c7 r4.1) :: .ro (SlL eu8 A2 c2 raw) :: R) (fun _ w => w) ?_
   refine St.buildSlice rfl rfl rfl rfl rfl rfl rfl rfl fun g2 => ?_
   refine St.p rfl rfl ?_
   refine St.done ?_
   refine St.thenN ?_
   refine St.prune (Γ' := [(2, _), (3, _), (10, _), (12, _)]) ⟨rfl, rfl, rfl, rfl, trivial⟩ (.k (.k (.k (.k .z)))) ?_
   refine St.seq ?_
   obtain ⟨o1, hj1, h⟩ := bnd_e h
   refine St.cutE (fun (e1 : Option Addr × Nat) => [(12, .slice e1.1 o1.length e1.2)]) (fun e1 => .res (OwnC (codL l_sl_u8) 22 e1.1 e1.2 o1) :: R) ?_ ?_
   ·refine St.seq ?_
    refine St.region ?_
    iterate 3 refine St.p rfl rfl ?_
    refine St.done ?_
    refine St.thenN ?_
    refine St.prune (Γ' := [(2, _), (3, _), (10, _), (12, _), (40, _)]) ⟨rfl, rfl, rfl, rfl, rfl, trivial⟩ (.k (.k (.k (.k .z)))) ?_
    refine St.cond _ rfl (fun hb3 => ?_) (fun hb3 => ?_)
    ·replace hj1 := bif_t hb3 hj1
     refine St.seq ?_
     refine St.region ?_
     iterate 4 refine St.p rfl rfl ?_
     obtain ⟨q1, hq1, hj1⟩ := bnd_e hj1
     refine St.rem rfl rfl rfl hq1 ?_
     refine St.p rfl rfl ?_
     refine St.done ?_
     refine St.thenN ?_
     refine St.prune (Γ' := [(3, _), (10, _), (12, _), (13, _)]) ⟨rfl, rfl, rfl, rfl, trivial⟩ (.k (.k (.k (.k .z)))) ?_
     refine St.seq ?_
     refine St.region ?_
     refine St.p rfl rfl ?_
     refine St.asrt (fun _ w => (w.front (.s (.s .z))).meltL) ?_
     refine St.asrt (fun _ w => w.nilL eu8 5) ?_
     obtain ⟨l1, hl1, hj1⟩ := bnd_e hj1
     refine St.app (E := eu8) hl1 rfl rfl rfl .z rfl rfl rfl rfl rfl rfl rfl rfl (srcL (.tail _ (.head _))) rfl rfl fun A10 c10 => ?_
     refine St.p rfl rfl ?_
     refine St.done ?_
     refine St.thenN ?_
     refine St.prune (Γ' := [(3, _), (10, _), (12, _), (13, _), (14, _)]) ⟨rfl, rfl, rfl, rfl, rfl, trivial⟩ (.k (.k (.k (.k (.k .z))))) ?_
     refine St.seq ?_
     refine St.region ?_
     refine St.p rfl rfl ?_
     refine St.p rfl rfl ?_
     obtain ⟨x1, hx1, hj1⟩ := bnd_e hj1
     refine St.ixO hx1 rfl rfl rfl (.head _) rfl rfl rfl rfl rfl fun g3 hA => ?_
     subst hA
     refine St.ldO 0 hx1 rfl rfl (.head _) rfl rfl ?_
     refine St.p rfl rfl ?_
     refine St.p rfl rfl ?_
     refine St.ixO hx1 rfl rfl rfl (.head _) rfl rfl rfl rfl rfl fun g4 hA => ?_
     cases hA
     obtain ⟨l2, hl2, hj1⟩ := bnd_e hj1
     refine St.stO 0 hx1 hl2 rfl rfl .z rfl rfl rfl rfl rfl ?_
     refine St.slots (Γ' := [(3, _), (10, _), (12, _), (13, _), (14, .slice (some ⟨g3, 0, none⟩) l2.length c10), (48, .slice (some ⟨g3, 0, none⟩) l2.length c10), (49, _), (50, _), (51, _), (52, _), (53, _), (54, _)]) ⟨rfl, rfl, rfl, rfl, sl_len hl2, sl_len hl2, rfl, rfl, rfl, rfl, rfl, rfl, trivial⟩ ?_
     refine St.done ?_
     refine St.thenN ?_
     refine St.prune (Γ' := [(3, _), (10, _), (12, _), (13, _), (14, _)]) ⟨rfl, rfl, rfl, rfl, rfl, trivial⟩ (.k (.k (.k (.k (.k .z))))) ?_
     refine St.asrt (fun _ w => (w.front .z).meltL) ?_
     obtain ⟨l3, hl3, hj1⟩ := bnd_e hj1
     obtain ⟨l4, hl4, hj1⟩ := bnd_e hj1
     obtain ⟨q2, hq2, hj1⟩ := bnd_e hj1
     obtain ⟨l5, hl5, hj1⟩ := bnd_e hj1
     obtain ⟨q3, hq3, hj1⟩ := bnd_e hj1
     obtain ⟨l6, hl6, hj1⟩ := bnd_e hj1
     obtain ⟨l7, hl7, hj1⟩ := bnd_e hj1
     obtain ⟨l8, hl8, hj1⟩ := bnd_e hj1
     obtain ⟨r6, hr6, hj1⟩ := bnd_e hj1
     obtain ⟨l9, hl9, hj1⟩ := bnd_e hj1
     obtain ⟨l10, hl10, hj1⟩ := bnd_e hj1
     obtain ⟨r7, hr7, hj1⟩ := bnd_e hj1
     obtain ⟨l11, hl11, hj1⟩ := bnd_e hj1
     refine St.regionX (iL [(.fl, 0), (.fl, 1), (.fl, 2), (.fl, 3), (.fl, 4), (.fl, 5), (.fl, 7), (.fl, 10), (.fl, 11), (.fl, 12), (.fl, 13), (.fl, 14), (.fl, 15), (.fl, 17), (.fl, 18), (.fl, 19), (.fl, 20), (.fl, 21), (.fl, 22), (.fl, 23), (.fl, 25), (.fl, 26), (.fl, 27), (.fl, 28), (.fl, 29), (.fl, 30), (.fl, 31), (.fl, 32), (.fl, 33), (.fl, 34), (.fl, 35)] (.alt (iL [(.ef, 6)] (iL [(.ef, 8)] (iL [(.ef, 9)] (iL [(.ef, 16)] (iL [(.ef, 24)] (iL [(.ef, 36)] (iL [(.ef, 37)] (iL [(.ef, 38)] (iL [(.ef, 39), (.fl, 40)] .nil))))))))) (iL [(.ef, 8)] (iL [(.ef, 6)] (iL [(.ef, 9)] (iL [(.ef, 16)] (iL [(.ef, 24)] (iL [(.ef, 36)] (iL [(.ef, 37)] (iL [(.ef, 38)] (iL [(.ef, 39), (.fl, 40)] .nil))))))))))) (.ro (SlL eu8 (some ⟨g3, 0, none⟩) c10 l2) :: .ro (SlL eu8 A7 c7 r4.1) :: .ro (SlL eu8 A2 c2 raw) :: R) mixed (by kernel_rfl) (fun _ w => ((.k (.k (.d (.d (.k .z))))) : Keep _ _).sat w) ?_
     refine St.share (Y := ?Ynd1_0) (fun (e : Option Addr × Nat × Option Addr × Nat × Option Addr × Nat × Option Addr × Nat × Option Addr × Nat × Nat) => [(3, .int .u8 by_p3), (10, .slice A7 r4.1.length c7), (12, .slice (some ⟨g2, 0, none⟩) 2 2), (13, .int .i64 q1), (14, .slice (some ⟨g3, 0, none⟩) l2.length c10), (55, .slice (some ⟨g2, 0, none⟩) 2 2), (56, .slice A7 r4.1.length c7), (57, .slice A7 r4.1.length c7), (58, .int .i64 q1), (59, .slice e.1 l3.length e.2.1), (60, .slice A7 r4.1.length c7), (61, .slice e.2.2.2.2.2.2.2.2.1 l7.length e.2.2.2.2.2.2.2.2.2.1), (62, .int .u8 by_p3), (63, .slice (some ⟨e.2.2.2.2.2.2.2.2.2.2, 0, none⟩) 1 1), (65, .slice (some ⟨g3, 0, none⟩) l2.length c10), (66, .slice (some ⟨g3, 0, none⟩) l2.length c10), (67, .slice (some ⟨g3, 0, none⟩) l2.length c10), (68, .int .i64 (l2.length : Int)), (69, .int .i64 (IntKind.wrap .i64 ((l2.length : Int) - 4))), (70, .slice e.2.2.1 l4.length e.2.2.2.1), (72, .slice A7 r4.1.length c7), (73, .int .i64 q1), (74, .slice A7 r4.1.length c7), (75, .int .i64 (r4.1.length : Int)), (76, .int .i64 (IntKind.wrap .i64 ((r4.1.length : Int) - 4))), (77, .int .i64 q2), (78, .slice e.2.2.2.2.1 l5.length e.2.2.2.2.2.1), (80, .slice A7 r4.1.length c7), (81, .int .i64 q1), (82, .slice A7 r4.1.length c7), (83, .int .i64 (r4.1.length : Int)), (84, .int .i64 (IntKind.wrap .i64 ((r4.1.length : Int) - 4))), (85, .int .i64 q3), (86, .int .i64 (IntKind.wrap .i64 (q3 + 1))), (87, .slice A7 r4.1.length c7), (88, .int .i64 (r4.1.length : Int)), (89, .int .i64 (IntKind.wrap .i64 ((r4.1.length : Int) - 4))), (90, .slice e.2.2.2.2.2.2.1 l6.length e.2.2.2.2.2.2.2.1)]) (fun e => .res (Box e.2.2.2.2.2.2.2.2.2.2 5 [.int .u8 by_p3]) :: .res (OwnL eu8 5 e.2.2.2.2.2.2.2.2.1 e.2.2.2.2.2.2.2.2.2.1 l7) :: .ro (SlL eu8 e.2.2.2.2.2.2.1 e.2.2.2.2.2.2.2.1 l6) :: .ro (SlL eu8 e.2.2.2.2.1 e.2.2.2.2.2.1 l5) :: .ro (SlL eu8 e.2.2.1 e.2.2.2.1 l4) :: .ro (SlL eu8 e.1 e.2.1 l3) :: .ro (SlL eu8 (some ⟨g3, 0, none⟩) c10 l2) :: .ro (SlL eu8 A7 c7 r4.1) :: .res (Box g2 22 [.slice A2 raw.length c2, .slice A8 r5.length c8]) :: .res (OwnL eu8 5 A8 c8 r5) :: .ro (SlL eu8 A2 c2 raw) :: R) (fun hnd1_0 => ?mnd1_0) ?tnd1_0
     case mnd1_0 =>
      refine St.xfl (fun _ h => h) (Rd.p rfl) rfl ?_
      refine St.xfl (fun _ h => h) (Rd.p rfl) rfl ?_
      refine St.xfl (fun _ h => h) (Rd.p rfl) rfl ?_
      refine St.xfl (fun _ h => h) (Rd.p rfl) rfl ?_
      refine St.openS (.tail _ (.head _)) hl3 fun A11 c11 hS1 => ?_
      have hc1 := fun w h => Sat.addS hS1 (.tail _ (.head _)) hl3 ((fun (w : World) (h : Sat (.ro (SlL eu8 (some ⟨g3, 0, none⟩) c10 l2) :: .ro (SlL eu8 A7 c7 r4.1) :: .ro (SlL eu8 A2 c2 raw) :: R) w) => h) w h)
      refine St.xfl hc1 (Rd.sub hS1 hl3 (.tail _ (.tail _ (.head _))) rfl rfl rfl rfl rfl rfl rfl rfl) rfl ?_
      refine St.xfl (fun _ h => h) (Rd.p rfl) rfl ?_
      refine St.xfl (fun _ h => h) (Rd.p rfl) rfl ?_
      refine St.xfl (fun _ h => h) (Rd.p rfl) rfl ?_
      refine St.xfl (fun _ h => h) (Rd.p rfl) rfl ?_
      refine St.xfl (fun _ h => h) (Rd.p rfl) rfl ?_
      refine St.xfl (fun _ h => h) (Rd.p rfl) rfl ?_
      refine St.xfl (fun _ h => h) (Rd.p rfl) rfl ?_
      refine St.openS (.tail _ (.head _)) hl4 fun A12 c12 hS2 => ?_
      have hc2 := fun w h => Sat.addS hS2 (.tail _ (.head _)) hl4 (hc1 w h)
      refine St.xfl hc2 (Rd.sub hS2 hl4 (.tail _ (.tail _ (.head _))) rfl rfl rfl rfl rfl rfl rfl rfl) rfl ?_
      refine St.xfl (fun _ h => h) (Rd.p rfl) rfl ?_
      refine St.xfl (fun _ h => h) (Rd.p rfl) rfl ?_
      refine St.xfl (fun _ h => h) (Rd.p rfl) rfl ?_
      refine St.xfl (fun _ h => h) (Rd.p rfl) rfl ?_
      refine St.xfl (fun _ h => h) (Rd.p rfl) rfl ?_
      refine St.xfl hc2 (Rd.rem hq2 rfl rfl) rfl ?_
      refine St.openS (.tail _ (.tail _ (.tail _ (.head _)))) hl5 fun A13 c13 hS3 => ?_
      have hc3 := fun w h => Sat.addS hS3 (.tail _ (.tail _ (.tail _ (.head _)))) hl5 (hc2 w h)
      refine St.xfl hc3 (Rd.sub hS3 hl5 (.tail _ (.tail _ (.tail _ (.tail _ (.head _))))) rfl rfl rfl rfl rfl rfl rfl rfl) rfl ?_
      refine St.xfl (fun _ h => h) (Rd.p rfl) rfl ?_
      refine St.xfl (fun _ h => h) (Rd.p rfl) rfl ?_
      refine St.xfl (fun _ h => h) (Rd.p rfl) rfl ?_
      refine St.xfl (fun _ h => h) (Rd.p rfl) rfl ?_
      refine St.xfl (fun _ h => h) (Rd.p rfl) rfl ?_
      refine St.xfl hc3 (Rd.rem hq3 rfl rfl) rfl ?_
      refine St.xfl (fun _ h => h) (Rd.p rfl) rfl ?_
      refine St.xfl (fun _ h => h) (Rd.p rfl) rfl ?_
      refine St.xfl (fun _ h => h) (Rd.p rfl) rfl ?_
      refine St.xfl (fun _ h => h) (Rd.p rfl) rfl ?_
      refine St.openS (.tail _ (.tail _ (.tail _ (.tail _ (.head _))))) hl6 fun A14 c14 hS4 => ?_
      have hc4 := fun w h => Sat.addS hS4 (.tail _ (.tail _ (.tail _ (.tail _ (.head _))))) hl6 (hc3 w h)
      refine St.xfl hc4 (Rd.sub hS4 hl6 (.tail _ (.tail _ (.tail _ (.tail _ (.tail _ (.head _)))))) rfl rfl rfl rfl rfl rfl rfl rfl) rfl ?_
      refine St.xalt ?_ ?_
      ·refine St.xef ?_
       refine St.asrt (fun _ w => w.nilL eu8 5) ?_
       refine St.app (E := eu8) hl7 rfl rfl rfl .z rfl rfl rfl rfl rfl rfl rfl rfl (srcL (.tail _ (.tail _ (.tail _ (.tail _ (.tail _ (.tail _ (.head _)))))))) rfl rfl fun A15 c15 => ?_
       refine St.xk (fun _ w => ((.d (.d (.d (.d (.d (.k (.k (.d (.d (.k .z)))))))))) : Keep _ _).sat w) ?_
       refine St.xef ?_
       refine St.buildSlice rfl rfl rfl rfl rfl rfl rfl rfl fun g5 => ?_
       refine St.xk (fun _ w => ((.d (.d (.d (.d (.d (.d (.k (.k (.d (.d (.k .z))))))))))) : Keep _ _).sat w) ?_
       refine hnd1_0 _ _ (A11, c11, A12, c12, A13, c13, A14, c14, A15, c15, g5) ?_ ?_
       ·exact ⟨rfl, rfl, rfl, rfl, rfl, rfl, rfl, rfl, rfl, rfl, rfl, rfl, rfl, rfl, rfl, rfl, rfl, rfl, rfl, rfl, rfl, rfl, rfl, rfl, rfl, rfl, rfl, rfl, rfl, rfl, rfl, rfl, rfl, rfl, rfl, rfl, rfl, rfl, trivial⟩
       ·exact fun _ w => ((.k (.k (.k (.k (.k (.k (.k (.k (.k (.k (.k .z))))))))))) : Keep _ _).sat w
      ·refine St.xef ?_
       refine St.buildSlice rfl rfl rfl rfl rfl rfl rfl rfl fun g5 => ?_
       refine St.xk (fun _ w => ((.d (.d (.d (.d (.d (.k (.k (.d (.d (.k .z)))))))))) : Keep _ _).sat w) ?_
       refine St.xef ?_
       refine St.asrt (fun _ w => w.nilL eu8 5) ?_
       refine St.app (E := eu8) hl7 rfl rfl rfl .z rfl rfl rfl rfl rfl rfl rfl rfl (srcL (.tail _ (.tail _ (.tail _ (.tail _ (.tail _ (.tail _ (.tail _ (.head _))))))))) rfl rfl fun A15 c15 => ?_
       refine St.xk (fun _ w => ((.d (.d (.d (.d (.d (.d (.k (.k (.d (.d (.k .z))))))))))) : Keep _ _).sat w) ?_
       refine hnd1_0 _ _ (A11, c11, A12, c12, A13, c13, A14, c14, A15, c15, g5) ?_ ?_
       ·exact ⟨rfl, rfl, rfl, rfl, rfl, rfl, rfl, rfl, rfl, rfl, rfl, rfl, rfl, rfl, rfl, rfl, rfl, rfl, rfl, rfl, rfl, rfl, rfl, rfl, rfl, rfl, rfl, rfl, rfl, rfl, rfl, rfl, rfl, rfl, rfl, rfl, rfl, rfl, trivial⟩
       ·exact fun _ w => ((.k (.k (.k (.k (.k (.k (.k (.k (.k (.k (.k .z))))))))))) : Keep _ _).sat (((((((((((w.front (.s (.s (.s (.s (.s (.s (.s (.s (.s (.s .z))))))))))).front (.s (.s (.s (.s (.s (.s (.s (.s (.s (.s .z))))))))))).front (.s (.s (.s (.s (.s (.s (.s (.s (.s (.s .z))))))))))).front (.s (.s (.s (.s (.s (.s (.s (.s (.s (.s .z))))))))))).front (.s (.s (.s (.s (.s (.s (.s (.s (.s (.s .z))))))))))).front (.s (.s (.s (.s (.s (.s (.s (.s (.s (.s .z))))))))))).front (.s (.s (.s (.s (.s (.s (.s (.s (.s (.s .z))))))))))).front (.s (.s (.s (.s (.s (.s (.s (.s (.s (.s .z))))))))))).front (.s (.s (.s (.s (.s (.s (.s (.s (.s (.s .z))))))))))).front (.s (.s (.s (.s (.s (.s (.s (.s (.s .z)))))))))).front (.s (.s (.s (.s (.s (.s (.s (.s (.s (.s .z)))))))))))
     case tnd1_0 =>
      rintro ⟨A11, c11, A12, c12, A13, c13, A14, c14, A15, c15, g5⟩
      refine St.asrt (F' := .res (Box g5 5 [.int .u8 by_p3]) :: .res (OwnL eu8 5 A15 c15 l7) :: .ro (SlL eu8 A14 c14 l6) :: .ro (SlL eu8 A13 c13 l5) :: .ro (SlL eu8 A12 c12 l4) :: .ro (SlL eu8 A11 c11 l3) :: .ro (SlL eu8 (some ⟨g3, 0, none⟩) c10 l2) :: .ro (SlL eu8 A7 c7 r4.1) :: .res (Box g2 22 [.slice A2 raw.length c2, .slice A8 r5.length c8]) :: .res (OwnL eu8 5 A8 c8 r5) :: .ro (SlL eu8 A2 c2 raw) :: R) (fun _ w => w) ?_
      refine St.xef ?_
      refine St.app (E := eu8) hl8 rfl rfl rfl (.s .z) rfl rfl rfl rfl rfl rfl rfl rfl (srcB (.head _) rfl rfl) rfl rfl fun A16 c16 => ?_
      refine St.xk (fun _ w => ((.d (.d (.d (.d (.d (.d (.k (.k (.d (.d (.k .z))))))))))) : Keep _ _).sat w) ?_
      refine St.xef ?_
      refine St.call (c_law28_seal hr6) ent21 rfl rfl rfl (fun _ w => Sat.dup (G := [.ro (SlL eu8 A12 c12 l4)]) rfl ⟨(.tail _ (.tail _ (.tail _ (.tail _ (.head _))))), trivial⟩ w) ?_
      rintro _ _ ⟨A17, c17, rfl, rfl⟩
      refine St.asrt (F' := .res (OwnL eu8 5 A17 c17 r6) :: .res (OwnL eu8 5 A16 c16 l8) :: .res (Box g5 5 [.int .u8 by_p3]) :: .ro (SlL eu8 A14 c14 l6) :: .ro (SlL eu8 A13 c13 l5) :: .ro (SlL eu8 A12 c12 l4) :: .ro (SlL eu8 A11 c11 l3) :: .ro (SlL eu8 (some ⟨g3, 0, none⟩) c10 l2) :: .ro (SlL eu8 A7 c7 r4.1) :: .res (Box g2 22 [.slice A2 raw.length c2, .slice A8 r5.length c8]) :: .res (OwnL eu8 5 A8 c8 r5) :: .ro (SlL eu8 A2 c2 raw) :: R) (fun _ w => w) ?_
      refine St.xk (fun _ w => ((.d (.d (.d (.d (.d (.d (.d (.k (.k (.d (.d (.k .z)))))))))))) : Keep _ _).sat w) ?_
      refine St.xef ?_
      refine St.asrt (fun _ w => w.nilL eu8 5) ?_
      refine St.app (E := eu8) hl9 rfl rfl rfl .z rfl rfl rfl rfl rfl rfl rfl rfl (srcL (.tail _ (.tail _ (.tail _ (.tail _ (.tail _ (.head _))))))) rfl rfl fun A18 c18 => ?_
      refine St.xk (fun _ w => ((.d (.d (.d (.d (.d (.d (.d (.d (.k (.k (.d (.d (.k .z))))))))))))) : Keep _ _).sat w) ?_
      refine St.xef ?_
      refine St.app (E := eu8) hl10 rfl rfl rfl .z rfl rfl rfl rfl rfl rfl rfl rfl (srcL (.tail _ (.tail _ (.tail _ (.tail _ (.head _)))))) rfl rfl fun A19 c19 => ?_
      refine St.xk (fun _ w => ((.d (.d (.d (.d (.d (.d (.d (.d (.k (.k (.d (.d (.k .z))))))))))))) : Keep _ _).sat w) ?_
      refine St.xef ?_
      refine St.asrt (fun _ w => (w.front .z).meltL) ?_
      refine St.call (c_law28_seal hr7) ent21 rfl rfl rfl (fun _ w => Sat.dup (G := [.ro (SlL eu8 A19 c19 l10)]) rfl ⟨(.head _), trivial⟩ w) ?_
      rintro _ _ ⟨A20, c20, rfl, rfl⟩
      refine St.asrt (F' := .res (OwnL eu8 5 A20 c20 r7) :: .ro (SlL eu8 A19 c19 l10) :: .res (OwnL eu8 5 A17 c17 r6) :: .res (OwnL eu8 5 A16 c16 l8) :: .res (Box g5 5 [.int .u8 by_p3]) :: .ro (SlL eu8 A14 c14 l6) :: .ro (SlL eu8 A13 c13 l5) :: .ro (SlL eu8 A12 c12 l4) :: .ro (SlL eu8 A11 c11 l3) :: .ro (SlL eu8 (some ⟨g3, 0, none⟩) c10 l2) :: .ro (SlL eu8 A7 c7 r4.1) :: .res (Box g2 22 [.slice A2 raw.length c2, .slice A8 r5.length c8]) :: .res (OwnL eu8 5 A8 c8 r5) :: .ro (SlL eu8 A2 c2 raw) :: R) (fun _ w => w) ?_
      refine St.xk (fun _ w => ((.d (.d (.d (.d (.d (.d (.d (.d (.d (.k (.k (.d (.d (.k .z)))))))))))))) : Keep _ _).sat w) ?_
      refine St.xef ?_
      refine St.buildSlice rfl rfl rfl rfl rfl rfl rfl rfl fun g6 => ?_
      refine St.xk (fun _ w => ((.d (.d (.d (.d (.d (.d (.d (.d (.d (.d (.k (.k (.d (.d (.k .z))))))))))))))) : Keep _ _).sat w) ?_
      refine St.xef ?_
      refine St.asrt (fun _ w => (w.front (.s (.s (.s (.s (.s (.s (.s (.s (.s (.s (.s (.s (.s .z)))))))))))))).meltL) ?_
      refine St.asrt (fun _ w => Sat.litC (ls := l_sl_u8) (e := 22) [(raw, ((A2, c2), ())), (r5, ((A8, c8), ()))] rfl rfl rfl ⟨(.tail _ (.tail _ (.tail _ (.tail _ (.tail _ (.tail _ (.tail _ (.tail _ (.tail _ (.tail _ (.tail _ (.tail _ (.tail _ (.head _)))))))))))))), (.head _), trivial⟩ (w.front (.s (.s (.s (.s (.s (.s (.s (.s (.s (.s (.s (.s (.s .z))))))))))))))) ?_
      refine St.asrt (fun _ w => (w.front (.s (.s (.s (.s (.s (.s .z))))))).meltL) ?_
      refine St.asrt (fun _ w => (w.front (.s (.s (.s (.s (.s (.s .z))))))).meltL) ?_
      refine St.asrt (fun _ w => (w.front (.s (.s (.s (.s (.s .z)))))).meltL) ?_
      refine St.appC (E := (codL l_sl_u8)) hl11 rfl rfl rfl (.s (.s (.s .z))) rfl rfl rfl rfl rfl rfl rfl rfl (srcBC (ls := l_sl_u8) [(r4.1, ((A7, c7), ())), (l3, ((A11, c11), ())), (l8, ((A16, c16), ())), (l2, (((some ⟨g3, 0, none⟩), c10), ())), (r6, ((A17, c17), ())), (r7, ((A20, c20), ()))] (.tail _ (.tail _ (.tail _ (.tail _ (.tail _ (.head _)))))) rfl rfl rfl ⟨(.tail _ (.tail _ (.tail _ (.tail _ (.tail _ (.tail _ (.tail _ (.tail _ (.tail _ (.tail _ (.tail _ (.tail _ (.tail _ (.head _)))))))))))))), (.tail _ (.tail _ (.tail _ (.tail _ (.tail _ (.tail _ (.tail _ (.tail _ (.tail _ (.tail _ (.tail _ (.head _)))))))))))), (.tail _ (.tail _ (.head _))), (.tail _ (.tail _ (.tail _ (.tail _ (.tail _ (.tail _ (.tail _ (.tail _ (.tail _ (.tail _ (.tail _ (.tail _ (.head _))))))))))))), (.tail _ (.head _)), (.head _), trivial⟩) rfl rfl fun A21 c21 => ?_
      refine St.xk (fun _ w => ((.d (.d (.d (.d (.d (.d (.d (.d (.d (.d (.d (.d (.k (.k (.k .z))))))))))))))) : Keep _ _).sat w) ?_
      refine St.xfl (fun _ h => h) (Rd.p rfl) rfl ?_
      refine St.xdone ?_
      injection hj1 with hj1
      subst hj1
      refine St.thenN ?_
      exact St.hereE (A21, c21) ⟨rfl, trivial⟩ (fun _ w => ((.k (.d (.d (.d (.d (.d (.d (.d (.d (.d (.d (.d (.d (.d (.d .z))))))))))))))) : Keep _ _).sat w)
    ·replace hj1 := bif_f hb3 hj1
     refine St.skip ?_
     refine St.asrt (fun _ w => (w.front (.s .z)).meltL) ?_
     refine St.asrt (fun _ w => Sat.litC (ls := l_sl_u8) (e := 22) [(raw, ((A2, c2), ())), (r5, ((A8, c8), ()))] rfl rfl rfl ⟨(.tail _ (.tail _ (.head _))), (.head _), trivial⟩ (w.front (.s .z))) ?_
     injection hj1 with hj1
     subst hj1
     refine St.thenN ?_
     exact St.hereE ((some ⟨g2, 0, none⟩), ([raw, r5] : List (List Int)).length) ⟨rfl, trivial⟩ (fun _ w => ((.k (.d (.d (.d .z)))) : Keep _ _).sat w)
   ·rintro ⟨A9, c9⟩
    refine St.seq ?_
    refine St.seq ?_
    refine St.region ?_
    iterate 3 refine St.p rfl rfl ?_
    refine St.done ?_
    refine St.thenN ?_
    refine St.prune (Γ' := [(95, _), (96, _), (97, _)]) ⟨rfl, rfl, rfl, trivial⟩ (.k .z) ?_
    obtain ⟨o2, hl1, h⟩ := bnd_e h
    refine St.cutI (fun (o3 : Unit) (e3 : Unit) => []) (fun o3 e3 => R) (fun o3 => o2 = .inr o3) ?_ ?_
    ·refine St.block ?_
     refine St.loop hl1 (fun (s1 : Int) (e2 : Unit) => [(95, .slice A9 o1.length c9), (96, .int .i64 (o1.length : Int)), (97, .int .i64 s1)]) (fun s1 e2 => .res (OwnC (codL l_sl_u8) 22 A9 c9 o1) :: R) (fun _ _ => True) () trivial ⟨rfl, rfl, rfl, trivial⟩ (fun _ w => ((.k .z) : Keep _ _).sat w) ?_
     rintro s1 e2 - hit1
     obtain ⟨st1, hm1, hd1⟩ := iter_e hit1
     have h1 := hm1
     refine St.seq ?_
     refine St.region ?_
     refine St.p rfl rfl ?_
     refine St.done ?_
     refine St.thenN ?_
     refine St.seq ?_
     refine St.cond _ rfl (fun hb4 => ?_) (fun hb4 => ?_)
     ·replace h1 := bif_t hb4 h1
      refine St.skip ?_
      refine St.thenN ?_
      refine St.prune (Γ' := [(95, _), (96, _), (97, _)]) ⟨rfl, rfl, rfl, trivial⟩ (.k .z) ?_
      refine St.seq ?_
      refine St.block ?_
      refine St.seq ?_
      refine St.region ?_
      obtain ⟨x2, hx2, h1⟩ := bnd_e h1
      refine St.ixC hx2 rfl rfl rfl (.head _) rfl rfl rfl rfl rfl fun g7 hA => ?_
      subst hA
      refine St.ldC (ls := l_sl_u8) 0 (fun ex => .slice ex.1.1 x2.length ex.1.2) hx2 rfl rfl (.head _) rfl (fun _ => rfl) fun ex1 => ?_
      obtain ⟨⟨A22, c22⟩, _⟩ := ex1
      refine St.asrt (F' := .ro (SlL eu8 A22 c22 x2) :: .res (OwnC (codL l_sl_u8) 22 (some ⟨g7, 0, none⟩) c9 o1) :: R) (fun _ w => w) ?_
      refine St.p rfl rfl ?_
      refine St.done ?_
      refine St.thenN ?_
      refine St.prune (Γ' := [(16, _), (95, _), (96, _), (97, _)]) ⟨rfl, rfl, rfl, rfl, trivial⟩ (.k (.k .z)) ?_
      refine St.seq ?_
      refine St.region ?_
      refine St.p rfl rfl ?_
      obtain ⟨r8, hr8, h1⟩ := bnd_e h1
      refine St.call (c_bundle_Decode hr8) ent22 rfl rfl rfl (fun _ w => Sat.dup (G := [.ro (SlL eu8 A22 c22 x2)]) rfl ⟨(.head _), trivial⟩ w) ?_
      rintro _ _ ⟨A23, c23, A24, c24, rfl, rfl⟩
      refine St.asrt (F' := .ro (Sl (codL l_T_Image) A23 c23 r8.1.Images) :: .ro (SlL e_Need A24 c24 r8.1.Needs) :: .ro (SlL eu8 A22 c22 x2) :: .res (OwnC (codL l_sl_u8) 22 (some ⟨g7, 0, none⟩) c9 o1) :: R) (fun _ w => w) ?_
      iterate 3 refine St.p rfl rfl ?_
      refine St.alloc rfl rfl fun g8 => ?_
      refine St.store 0 rfl rfl rfl rfl rfl rfl .z rfl ?_
      refine St.p rfl rfl ?_
      refine St.done ?_
      refine St.thenN ?_
      refine St.prune (Γ' := [(16, _), (17, _), (18, _), (95, _), (96, _), (97, _)]) ⟨rfl, rfl, rfl, rfl, rfl, rfl, trivial⟩ (.k (.k (.k (.k (.k .z))))) ?_
      refine St.seq ?_
      refine St.region ?_
      refine St.p rfl rfl ?_
      obtain ⟨r9, hr9, h1⟩ := bnd_e h1
      refine St.call (c_ref28_Decode hr9) ent23 rfl rfl rfl (fun _ w => Sat.dup (G := [.ro (SlL eu8 A22 c22 x2)]) rfl ⟨(.tail _ (.tail _ (.tail _ (.head _)))), trivial⟩ w) ?_
      rintro _ _ ⟨A25, c25, A26, c26, rfl, rfl⟩
      refine St.asrt (F' := .ro (Sl (codL l_T_Image) A25 c25 r9.1.Images) :: .ro (SlL e_Need A26 c26 r9.1.Needs) :: .res (Box g8 26 [.slice A23 r8.1.Images.length c23, .slice A24 r8.1.Needs.length c24]) :: .ro (Sl (codL l_T_Image) A23 c23 r8.1.Images) :: .ro (SlL e_Need A24 c24 r8.1.Needs) :: .ro (SlL eu8 A22 c22 x2) :: .res (OwnC (codL l_sl_u8) 22 (some ⟨g7, 0, none⟩) c9 o1) :: R) (fun _ w => w) ?_
      iterate 3 refine St.p rfl rfl ?_
      refine St.alloc rfl rfl fun g9 => ?_
      refine St.store 0 rfl rfl rfl rfl rfl rfl .z rfl ?_
      refine St.p rfl rfl ?_
      refine St.done ?_
      refine St.thenN ?_
      refine St.prune (Γ' := [(17, _), (18, _), (19, _), (20, _), (95, _), (96, _), (97, _)]) ⟨rfl, rfl, rfl, rfl, rfl, rfl, rfl, trivial⟩ (.k (.k (.k (.k (.k (.k (.d (.k .z)))))))) ?_
      refine St.seq ?_
      obtain ⟨o4, hj2, h1⟩ := bnd_e h1
      refine St.cutE (fun (e4 : Unit) => [(95, .slice (some ⟨g7, 0, none⟩) o1.length c9), (96, .int .i64 (o1.length : Int)), (97, .int .i64 s1), (119, .bool o4)]) (fun e4 => .res (OwnC (codL l_sl_u8) 22 (some ⟨g7, 0, none⟩) c9 o1) :: R) ?_ ?_
      ·refine St.region ?_
       iterate 4 refine St.p rfl rfl ?_
       refine St.gSplit (dj := 114) _ rfl (fun hb5 => ?_) (fun hb5 => ?_)
       ·replace hj2 := bif_t hb5 hj2
        refine St.gOff (dj := 114) rfl rfl rfl rfl ?_
        refine St.gOff (dj := 114) rfl rfl rfl rfl ?_
        refine St.gOff (dj := 114) rfl rfl rfl rfl ?_
        refine St.gOff (dj := 114) rfl rfl rfl rfl ?_
        refine St.p rfl rfl ?_
        refine St.done ?_
        injection hj2 with hj2
        subst hj2
        refine St.thenN ?_
        exact St.hereE () ⟨rfl, rfl, rfl, rfl, trivial⟩ (fun _ w => ((.d (.d (.d (.d (.d (.d (.k .z))))))) : Keep _ _).sat w)
       ·replace hj2 := bif_f hb5 hj2
        refine St.gOn (dj := 114) rfl rfl ?_
        refine St.loadB 0 rfl rfl (.tail _ (.tail _ (.tail _ (.head _)))) rfl rfl ?_
        refine St.gOn (dj := 114) rfl rfl ?_
        refine St.loadB 0 rfl rfl (.head _) rfl rfl ?_
        refine St.gOn (dj := 114) rfl rfl ?_
        obtain ⟨r10, hr10, hj2⟩ := bnd_e hj2
        refine St.callV (c_ref28_Same hr10) ent24 rfl rfl rfl rfl ⟨(.tail _ (.tail _ (.tail _ (.tail _ (.head _))))), (.tail _ (.tail _ (.tail _ (.tail _ (.tail _ (.head _)))))), (.tail _ (.head _)), (.tail _ (.tail _ (.head _))), trivial⟩ ?_
        refine St.gOn (dj := 114) rfl rfl ?_
        refine St.p rfl rfl ?_
        refine St.p rfl rfl ?_
        refine St.done ?_
        injection hj2 with hj2
        subst hj2
        refine St.thenN ?_
        exact St.hereE () ⟨rfl, rfl, rfl, rfl, trivial⟩ (fun _ w => ((.d (.d (.d (.d (.d (.d (.k .z))))))) : Keep _ _).sat w)
      ·rintro e4
       refine St.cond _ rfl (fun hb6 => ?_) (fun hb6 => ?_)
       ·replace h1 := bif_t hb6 h1
        refine St.seq ?_
        refine St.region ?_
        refine St.p rfl rfl ?_
        refine St.done ?_
        refine St.thenN ?_
        refine St.prune (Γ' := [(8, _)]) ⟨rfl, trivial⟩ (.d .z) ?_
        refine St.ret ?_
        repeat (first | refine St.thenR ?_ | refine St.blkR ?_)
        injection h1 with h1
        subst h1
        have ho := hd1 _ rfl
        subst ho
        have h : some _ = some _ := h
        injection h with h
        subst h
        exact St.finR Try.results4 (.tmp rfl .nil) rfl [] ⟨rfl, rfl⟩ (fun _ w => (.z : Keep _ _).sat w)
       ·replace h1 := bif_f hb6 h1
        refine St.skip ?_
        refine St.blkN ?_
        refine St.thenN ?_
        refine St.prune (Γ' := [(95, _), (96, _), (97, _)]) ⟨rfl, rfl, rfl, trivial⟩ (.k .z) ?_
        refine St.region ?_
        refine St.p rfl rfl ?_
        refine St.p rfl rfl ?_
        refine St.done ?_
        injection h1 with h1
        subst h1
        refine St.thenN ?_
        exact St.again _ () hm1 trivial ⟨rfl, rfl, rfl, trivial⟩ (fun _ w => ((.k .z) : Keep _ _).sat w)
     ·replace h1 := bif_f hb4 h1
      refine St.exit ?_
      repeat (first | refine St.thenX ?_ | refine St.blkMiss rfl ?_)
      refine St.blkHit ?_
      injection h1 with h1
      subst h1
      have ho := hd1 _ rfl
      subst ho
      refine St.thenN ?_
      exact St.hereI () () rfl trivial (fun _ w => ((.d .z) : Keep _ _).sat w)
    ·rintro o3 e3 ho
     subst ho
     have h : _ = some _ := h
     refine St.seq ?_
     refine St.region ?_
     refine St.p rfl rfl ?_
     refine St.done ?_
     refine St.thenN ?_
     refine St.ret ?_
     repeat (first | refine St.thenR ?_ | refine St.blkR ?_)
     injection h with h
     subst h
     exact St.finR Try.results4 (.tmp rfl .nil) rfl [] ⟨rfl, rfl⟩ (fun _ w => (.z : Keep _ _).sat w)

end Go.Proofs.Ytgnmhmnglbbamaa
