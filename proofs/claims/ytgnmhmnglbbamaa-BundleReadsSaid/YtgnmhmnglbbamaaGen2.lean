/-
 Models of functions of the program, and that the functions compute them.
 Conditions: none.
-/
import Derived.Test.YtgnmhmnglbbamaaGen1
namespace Go.Proofs.Ytgnmhmnglbbamaa
open Go
set_option linter.unusedVariables false
set_option maxRecDepth 4000

set_option maxHeartbeats 4000000 in
theorem c_bundle_Decode {b_p0 : (List Int)} {A1 : Option Addr} {c1 : Nat} {r : (T_Bundle × Int)} (h : m_bundle_Decode b_p0 = some r) :
  Fun Try.prog 22 [.slice A1 b_p0.length c1] [.ro (SlL eu8 A1 c1 b_p0)] (fun v_ F_ => ∃ (A1 : Option Addr) (c1 : Nat) (A2 : Option Addr) (c2 : Nat), v_ = .tuple #[.agg #[.slice A1 r.1.Images.length c1, .slice A2 r.1.Needs.length c2], .int .i64 r.2] ∧ F_ = [.ro (Sl (codL l_T_Image) A1 c1 r.1.Images), .ro (SlL e_Need A2 c2 r.1.Needs)]) := by
 unfold m_bundle_Decode at h
 refine Fun.intro Try.func22 rfl rfl rfl fun w R => ?_
 refine St.seq ?_
 refine St.region ?_
 refine St.alloc rfl rfl fun g1 => ?_
 refine St.p rfl rfl ?_
 refine St.done ?_
 refine St.thenN ?_
 refine St.prune (Γ' := [(0, _), (2, _)]) ⟨rfl, rfl, trivial⟩ (.k (.k .z)) ?_
 refine St.seq ?_
 refine St.seq ?_
 refine St.region ?_
 iterate 3 refine St.p rfl rfl ?_
 refine St.done ?_
 refine St.thenN ?_
 refine St.prune (Γ' := [(0, _), (2, _), (19, _)]) ⟨rfl, rfl, rfl, trivial⟩ (.k (.k .z)) ?_
 refine St.cond _ rfl (fun hb1 => ?_) (fun hb1 => ?_)
 ·replace h := bif_t hb1 h
  refine St.seq ?_
  refine St.region ?_
  refine St.p rfl rfl ?_
  refine St.store 0 rfl rfl rfl rfl rfl rfl .z rfl ?_
  refine St.p rfl rfl ?_
  refine St.done ?_
  refine St.thenN ?_
  refine St.prune (Γ' := [(2, _), (3, _)]) ⟨rfl, rfl, trivial⟩ (.k (.d .z)) ?_
  refine St.ret ?_
  repeat (first | refine St.thenR ?_ | refine St.blkR ?_)
  refine St.asrt (fun _ w => w.nilSl (codL l_T_Image)) ?_
  refine St.asrt (fun _ w => w.nilSl (cod e_Need)) ?_
  injection h with h
  subst h
  exact St.finR Try.results22 (.cell rfl (.tail _ (.tail _ (.head _))) rfl (.tmp rfl .nil)) rfl [.ro (Sl (codL l_T_Image) none 0 ([] : List T_Image)), .ro (SlL e_Need none 0 ([] : List T_Need))] ⟨none, 0, none, 0, rfl, rfl⟩ (fun _ w => ((.k (.k (.d (.d (.d .z))))) : Keep _ _).sat (Sat.dup (G := [.ro (Sl (codL l_T_Image) none 0 ([] : List T_Image)), .ro (SlL e_Need none 0 ([] : List T_Need))]) rfl ⟨(.tail _ (.head _)), (.head _), trivial⟩ w))
 ·replace h := bif_f hb1 h
  refine St.skip ?_
  refine St.thenN ?_
  refine St.prune (Γ' := [(0, _), (2, _)]) ⟨rfl, rfl, trivial⟩ (.k (.k .z)) ?_
  refine St.seq ?_
  refine St.seq ?_
  refine St.region ?_
  iterate 3 refine St.p rfl rfl ?_
  refine St.done ?_
  refine St.thenN ?_
  refine St.prune (Γ' := [(0, _), (2, _), (23, _)]) ⟨rfl, rfl, rfl, trivial⟩ (.k (.k .z)) ?_
  refine St.cond _ rfl (fun hb2 => ?_) (fun hb2 => ?_)
  ·replace h := bif_t hb2 h
   refine St.seq ?_
   refine St.region ?_
   refine St.p rfl rfl ?_
   refine St.store 0 rfl rfl rfl rfl rfl rfl .z rfl ?_
   refine St.p rfl rfl ?_
   refine St.done ?_
   refine St.thenN ?_
   refine St.prune (Γ' := [(2, _), (3, _)]) ⟨rfl, rfl, trivial⟩ (.k (.d .z)) ?_
   refine St.ret ?_
   repeat (first | refine St.thenR ?_ | refine St.blkR ?_)
   refine St.asrt (fun _ w => w.nilSl (codL l_T_Image)) ?_
   refine St.asrt (fun _ w => w.nilSl (cod e_Need)) ?_
   injection h with h
   subst h
   exact St.finR Try.results22 (.cell rfl (.tail _ (.tail _ (.head _))) rfl (.tmp rfl .nil)) rfl [.ro (Sl (codL l_T_Image) none 0 ([] : List T_Image)), .ro (SlL e_Need none 0 ([] : List T_Need))] ⟨none, 0, none, 0, rfl, rfl⟩ (fun _ w => ((.k (.k (.d (.d (.d .z))))) : Keep _ _).sat (Sat.dup (G := [.ro (Sl (codL l_T_Image) none 0 ([] : List T_Image)), .ro (SlL e_Need none 0 ([] : List T_Need))]) rfl ⟨(.tail _ (.head _)), (.head _), trivial⟩ w))
  ·replace h := bif_f hb2 h
   refine St.skip ?_
   refine St.thenN ?_
   refine St.prune (Γ' := [(0, _), (2, _)]) ⟨rfl, rfl, trivial⟩ (.k (.k .z)) ?_
   refine St.seq ?_
   refine St.region ?_
   iterate 4 refine St.p rfl rfl ?_
   obtain ⟨l1, hl1, h⟩ := bnd_e h
   refine St.sub (E := (cod eu8)) rfl rfl (.tail _ (.head _)) rfl rfl rfl rfl rfl rfl rfl hl1 fun A2 c2 => ?_
   refine St.p rfl rfl ?_
   refine St.box rfl rfl fun g2 => ?_
   refine St.p rfl rfl ?_
   refine St.done ?_
   refine St.thenN ?_
   refine St.prune (Γ' := [(0, _), (2, _), (4, _)]) ⟨rfl, rfl, rfl, trivial⟩ (.k (.k (.k (.k .z)))) ?_
   refine St.seq ?_
   refine St.region ?_
   iterate 4 refine St.p rfl rfl ?_
   obtain ⟨l2, hl2, h⟩ := bnd_e h
   refine St.sub (E := (cod eu8)) rfl rfl (.tail _ (.tail _ (.tail _ (.head _)))) rfl rfl rfl rfl rfl rfl rfl hl2 fun A3 c3 => ?_
   refine St.p rfl rfl ?_
   refine St.done ?_
   refine St.thenN ?_
   refine St.prune (Γ' := [(2, _), (4, _), (5, _)]) ⟨rfl, rfl, rfl, trivial⟩ (.k (.k (.k (.k (.d .z))))) ?_
   refine St.seq ?_
   refine St.seq ?_
   refine St.region ?_
   refine St.p rfl rfl ?_
   obtain ⟨r1, hr1, h⟩ := bnd_e h
   refine St.call (c_bundle_reader_number hr1) ent47 rfl rfl rfl (fun _ w => Sat.dup (G := [.ro (SlL eu8 A2 c2 l1)]) rfl ⟨(.tail _ (.tail _ (.head _))), trivial⟩ (w.front (.s .z))) ?_
   rintro _ _ ⟨A4, c4, rfl, rfl⟩
   refine St.asrt (F' := .ro (SlL eu8 A4 c4 r1.1.b) :: .res (Box g2 81 [.slice A4 r1.1.b.length c4, .int .i64 r1.1.at_, .bool r1.1.bad]) :: .ro (SlL eu8 A3 c3 l2) :: .ro (SlL eu8 A2 c2 l1) :: .res (Box g1 26 [.slice none 0 0, .slice none 0 0]) :: R) (fun _ w => w) ?_
   refine St.p rfl rfl ?_
   refine St.p rfl rfl ?_
   obtain ⟨r2, hr2, h⟩ := bnd_e h
   refine St.callV (c_checksum_CRC32 hr2) ent25 rfl rfl rfl rfl ⟨(.tail _ (.tail _ (.head _))), trivial⟩ ?_
   refine St.p rfl rfl ?_
   refine St.done ?_
   refine St.thenN ?_
   refine St.prune (Γ' := [(2, _), (5, _), (42, _)]) ⟨rfl, rfl, rfl, trivial⟩ (.d (.d (.k (.d (.k .z))))) ?_
   refine St.cond _ rfl (fun hb3 => ?_) (fun hb3 => ?_)
   ·replace h := bif_t hb3 h
    refine St.seq ?_
    refine St.region ?_
    refine St.p rfl rfl ?_
    refine St.store 0 rfl rfl rfl rfl rfl rfl (.s .z) rfl ?_
    refine St.p rfl rfl ?_
    refine St.done ?_
    refine St.thenN ?_
    refine St.prune (Γ' := [(2, _), (3, _)]) ⟨rfl, rfl, trivial⟩ (.k (.d .z)) ?_
    refine St.ret ?_
    repeat (first | refine St.thenR ?_ | refine St.blkR ?_)
    refine St.asrt (fun _ w => w.nilSl (codL l_T_Image)) ?_
    refine St.asrt (fun _ w => w.nilSl (cod e_Need)) ?_
    injection h with h
    subst h
    exact St.finR Try.results22 (.cell rfl (.tail _ (.tail _ (.head _))) rfl (.tmp rfl .nil)) rfl [.ro (Sl (codL l_T_Image) none 0 ([] : List T_Image)), .ro (SlL e_Need none 0 ([] : List T_Need))] ⟨none, 0, none, 0, rfl, rfl⟩ (fun _ w => ((.k (.k (.d (.d (.d .z))))) : Keep _ _).sat (Sat.dup (G := [.ro (Sl (codL l_T_Image) none 0 ([] : List T_Image)), .ro (SlL e_Need none 0 ([] : List T_Need))]) rfl ⟨(.tail _ (.head _)), (.head _), trivial⟩ w))
   ·replace h := bif_f hb3 h
    refine St.skip ?_
    refine St.thenN ?_
    refine St.prune (Γ' := [(2, _), (5, _)]) ⟨rfl, rfl, trivial⟩ (.k (.k .z)) ?_
    refine St.seq ?_
    refine St.region ?_
    refine St.p rfl rfl ?_
    refine St.p rfl rfl ?_
    refine St.box rfl rfl fun g3 => ?_
    refine St.p rfl rfl ?_
    refine St.done ?_
    refine St.thenN ?_
    refine St.prune (Γ' := [(2, _), (5, _), (6, _)]) ⟨rfl, rfl, rfl, trivial⟩ (.k (.k (.k .z))) ?_
    refine St.seq ?_
    refine St.region ?_
    refine St.alloc rfl rfl fun g4 => ?_
    refine St.done ?_
    refine St.thenN ?_
    refine St.seq ?_
    refine St.region ?_
    refine St.p rfl rfl ?_
    refine St.done ?_
    refine St.thenN ?_
    refine St.seq ?_
    refine St.region ?_
    refine St.p rfl rfl ?_
    obtain ⟨r3, hr3, h⟩ := bnd_e h
    refine St.call (c_bundle_reader_take hr3) ent48 rfl rfl rfl (fun _ w => Sat.dup (G := [.ro (SlL eu8 A3 c3 l2)]) rfl ⟨(.tail _ (.tail _ (.head _))), trivial⟩ (w.front (.s .z))) ?_
    rintro _ _ ⟨A5, c5, A6, c6, rfl, rfl⟩
    refine St.asrt (F' := .ro (SlL eu8 A5 c5 r3.1.b) :: .ro (SlL eu8 A6 c6 r3.2) :: .res (Box g3 81 [.slice A5 r3.1.b.length c5, .int .i64 r3.1.at_, .bool r3.1.bad]) :: .res (Box g4 26 [.slice none 0 0, .slice none 0 0]) :: .ro (SlL eu8 A3 c3 l2) :: .res (Box g1 26 [.slice none 0 0, .slice none 0 0]) :: R) (fun _ w => w) ?_
    refine St.b2s rfl rfl rfl rfl rfl rfl rfl rfl rfl (srcL (E := eu8) (.tail _ (.head _))) ?_
    refine St.p rfl rfl ?_
    refine St.p rfl rfl ?_
    refine St.done ?_
    refine St.thenN ?_
    refine St.prune (Γ' := [(2, _), (5, _), (6, _), (7, _), (8, _), (9, _)]) ⟨rfl, rfl, rfl, rfl, rfl, rfl, trivial⟩ (.k (.d (.k (.k (.k (.k .z)))))) ?_
    refine St.seq ?_
    refine St.seq ?_
    refine St.region ?_
    refine St.p rfl rfl ?_
    obtain ⟨r4, hr4, h⟩ := bnd_e h
    refine St.call (c_bundle_reader_number hr4) ent47 rfl rfl rfl (fun _ w => Sat.dup (G := [.ro (SlL eu8 A5 c5 r3.1.b)]) rfl ⟨(.tail _ (.head _)), trivial⟩ (w.front (.s .z))) ?_
    rintro _ _ ⟨A7, c7, rfl, rfl⟩
    refine St.asrt (F' := .ro (SlL eu8 A7 c7 r4.1.b) :: .res (Box g3 81 [.slice A7 r4.1.b.length c7, .int .i64 r4.1.at_, .bool r4.1.bad]) :: .ro (SlL eu8 A5 c5 r3.1.b) :: .res (Box g4 26 [.slice none 0 0, .slice none 0 0]) :: .ro (SlL eu8 A3 c3 l2) :: .res (Box g1 26 [.slice none 0 0, .slice none 0 0]) :: R) (fun _ w => w) ?_
    refine St.p rfl rfl ?_
    refine St.done ?_
    refine St.thenN ?_
    refine St.prune (Γ' := [(2, _), (5, _), (6, _), (7, _), (8, _), (9, _), (10, _)]) ⟨rfl, rfl, rfl, rfl, rfl, rfl, rfl, trivial⟩ (.k (.k (.d (.k (.k (.k .z)))))) ?_
    refine St.asrt (fun _ w => w.nilC (codL l_T_Image) 41) ?_
    refine St.asrt (fun _ w => w.nilC (codL l_T_Image) 41) ?_
    obtain ⟨o1, hl1, h⟩ := bnd_e h
    refine St.cutE (fun (e2 : Option Addr × Nat × Option Addr × Nat × Option Addr × Nat) => [(2, .pointer (some ⟨g1, 0, none⟩)), (5, .slice A3 l2.length c3), (6, .pointer (some ⟨g3, 0, none⟩)), (7, .pointer (some ⟨g4, 0, none⟩)), (8, .bool o1.1), (9, .bool ((strOf r3.2).toList == ((⟨#[66, 77, 67, 70]⟩) : ByteArray).toList))]) (fun e2 => .res (OwnC (codL l_T_Image) 41 e2.2.2.2.2.1 e2.2.2.2.2.2 o1.2.2.2.2.2) :: .ro (SlL eu8 e2.2.2.1 e2.2.2.2.1 o1.2.2.1) :: .res (OwnC (codL l_T_Image) 41 e2.1 e2.2.1 o1.2.1) :: .res (Box g3 81 [.slice e2.2.2.1 o1.2.2.1.length e2.2.2.2.1, .int .i64 o1.2.2.2.1, .bool o1.2.2.2.2.1]) :: .res (Box g4 26 [.slice e2.2.2.2.2.1 o1.2.2.2.2.2.length e2.2.2.2.2.2, .slice none 0 0]) :: .ro (SlL eu8 A3 c3 l2) :: .res (Box g1 26 [.slice e2.1 o1.2.1.length e2.2.1, .slice none 0 0]) :: R) ?_ ?_
    ·refine St.block ?_
     refine St.loop hl1 (fun (s1 : Bool × Int × List T_Image × List Int × Int × Bool × List T_Image) (e1 : Option Addr × Nat × Option Addr × Nat × Option Addr × Nat) => [(2, .pointer (some ⟨g1, 0, none⟩)), (5, .slice A3 l2.length c3), (6, .pointer (some ⟨g3, 0, none⟩)), (7, .pointer (some ⟨g4, 0, none⟩)), (8, .bool s1.1), (9, .bool ((strOf r3.2).toList == ((⟨#[66, 77, 67, 70]⟩) : ByteArray).toList)), (10, .int .i64 s1.2.1)]) (fun s1 e1 => .res (OwnC (codL l_T_Image) 41 e1.2.2.2.2.1 e1.2.2.2.2.2 s1.2.2.2.2.2.2) :: .ro (SlL eu8 e1.2.2.1 e1.2.2.2.1 s1.2.2.2.1) :: .res (OwnC (codL l_T_Image) 41 e1.1 e1.2.1 s1.2.2.1) :: .res (Box g3 81 [.slice e1.2.2.1 s1.2.2.2.1.length e1.2.2.2.1, .int .i64 s1.2.2.2.2.1, .bool s1.2.2.2.2.2.1]) :: .res (Box g4 26 [.slice e1.2.2.2.2.1 s1.2.2.2.2.2.2.length e1.2.2.2.2.2, .slice none 0 0]) :: .ro (SlL eu8 A3 c3 l2) :: .res (Box g1 26 [.slice e1.1 s1.2.2.1.length e1.2.1, .slice none 0 0]) :: R) (fun _ _ => True) (none, 0, A7, c7, none, 0) trivial ⟨rfl, rfl, rfl, rfl, rfl, rfl, rfl, trivial⟩ (fun _ w => ((.k (.k (.k (.k (.k (.k (.k .z))))))) : Keep _ _).sat (((((((w.front (.s (.s (.s (.s (.s (.s .z))))))).front (.s (.s (.s (.s (.s (.s .z))))))).front (.s (.s (.s (.s (.s (.s .z))))))).front (.s (.s (.s (.s (.s (.s .z))))))).front (.s (.s (.s (.s .z))))).front (.s (.s (.s (.s (.s (.s .z))))))).front (.s (.s (.s (.s (.s (.s .z)))))))) ?_
     rintro s1 ⟨A8, c8, A9, c9, A10, c10⟩ - hit1
     obtain ⟨st1, hm1, hd1⟩ := iter_e hit1
     have h1 := hm1
     refine St.seq ?_
     refine St.seq ?_
     obtain ⟨o2, hj1, h1⟩ := bnd_e h1
     refine St.cutE (fun (e3 : Unit) => [(2, .pointer (some ⟨g1, 0, none⟩)), (5, .slice A3 l2.length c3), (6, .pointer (some ⟨g3, 0, none⟩)), (7, .pointer (some ⟨g4, 0, none⟩)), (8, .bool s1.1), (9, .bool ((strOf r3.2).toList == ((⟨#[66, 77, 67, 70]⟩) : ByteArray).toList)), (10, .int .i64 s1.2.1), (61, .bool o2)]) (fun e3 => .res (OwnC (codL l_T_Image) 41 A10 c10 s1.2.2.2.2.2.2) :: .ro (SlL eu8 A9 c9 s1.2.2.2.1) :: .res (OwnC (codL l_T_Image) 41 A8 c8 s1.2.2.1) :: .res (Box g3 81 [.slice A9 s1.2.2.2.1.length c9, .int .i64 s1.2.2.2.2.1, .bool s1.2.2.2.2.2.1]) :: .res (Box g4 26 [.slice A10 s1.2.2.2.2.2.2.length c10, .slice none 0 0]) :: .ro (SlL eu8 A3 c3 l2) :: .res (Box g1 26 [.slice A8 s1.2.2.1.length c8, .slice none 0 0]) :: R) ?_ ?_
     ·refine St.region ?_
      iterate 3 refine St.p rfl rfl ?_
      refine St.gSplit (dj := 55) _ rfl (fun hb4 => ?_) (fun hb4 => ?_)
      ·replace hj1 := bif_t hb4 hj1
       refine St.gOn (dj := 55) rfl rfl ?_
       refine St.p rfl rfl ?_
       refine St.gOn (dj := 55) rfl rfl ?_
       refine St.p rfl rfl ?_
       refine St.gOn (dj := 55) rfl rfl ?_
       refine St.p rfl rfl ?_
       refine St.gOn (dj := 55) rfl rfl ?_
       refine St.loadB 2 rfl rfl (.tail _ (.tail _ (.tail _ (.head _)))) rfl rfl ?_
       refine St.gOn (dj := 55) rfl rfl ?_
       refine St.p rfl rfl ?_
       refine St.p rfl rfl ?_
       refine St.done ?_
       injection hj1 with hj1
       subst hj1
       refine St.thenN ?_
       exact St.hereE () ⟨rfl, rfl, rfl, rfl, rfl, rfl, rfl, rfl, trivial⟩ (fun _ w => ((.k (.k (.k (.k (.k (.k (.k .z))))))) : Keep _ _).sat w)
      ·replace hj1 := bif_f hb4 hj1
       refine St.gOff (dj := 55) rfl rfl rfl rfl ?_
       refine St.gOff (dj := 55) rfl rfl rfl rfl ?_
       refine St.gOff (dj := 55) rfl rfl rfl rfl ?_
       refine St.gOff (dj := 55) rfl rfl rfl rfl ?_
       refine St.gOff (dj := 55) rfl rfl rfl rfl ?_
       refine St.p rfl rfl ?_
       refine St.done ?_
       injection hj1 with hj1
       subst hj1
       refine St.thenN ?_
       exact St.hereE () ⟨rfl, rfl, rfl, rfl, rfl, rfl, rfl, rfl, trivial⟩ (fun _ w => ((.k (.k (.k (.k (.k (.k (.k .z))))))) : Keep _ _).sat w)
     ·rintro e3
      refine St.cond _ rfl (fun hb5 => ?_) (fun hb5 => ?_)
      ·replace h1 := bif_t hb5 h1
       refine St.skip ?_
       refine St.thenN ?_
       refine St.prune (Γ' := [(2, _), (5, _), (6, _), (7, _), (8, _), (9, _), (10, _)]) ⟨rfl, rfl, rfl, rfl, rfl, rfl, rfl, trivial⟩ (.k (.k (.k (.k (.k (.k (.k .z))))))) ?_
       refine St.seq ?_
       refine St.block ?_
       refine St.seq ?_
       refine St.region ?_
       iterate 3 refine St.p rfl rfl ?_
       refine St.loadB 1 rfl rfl (.tail _ (.tail _ (.tail _ (.head _)))) rfl rfl ?_
       refine St.p rfl rfl ?_
       refine St.done ?_
       refine St.thenN ?_
       refine St.prune (Γ' := [(2, _), (5, _), (6, _), (7, _), (8, _), (9, _), (10, _), (11, _)]) ⟨rfl, rfl, rfl, rfl, rfl, rfl, rfl, rfl, trivial⟩ (.k (.k (.k (.k (.k (.k (.k .z))))))) ?_
       refine St.seq ?_
       refine St.region ?_
       refine St.p rfl rfl ?_
       obtain ⟨r5, hr5, h1⟩ := bnd_e h1
       refine St.call (c_bundle_reader_text hr5) ent49 rfl rfl rfl (fun _ w => Sat.dup (G := [.ro (SlL eu8 A9 c9 s1.2.2.2.1)]) rfl ⟨(.tail _ (.tail _ (.head _))), trivial⟩ (w.front (.s (.s (.s .z))))) ?_
       rintro _ _ ⟨A14, c14, rfl, rfl⟩
       refine St.asrt (F' := .ro (SlL eu8 A14 c14 r5.1.b) :: .res (Box g3 81 [.slice A14 r5.1.b.length c14, .int .i64 r5.1.at_, .bool r5.1.bad]) :: .res (OwnC (codL l_T_Image) 41 A10 c10 s1.2.2.2.2.2.2) :: .ro (SlL eu8 A9 c9 s1.2.2.2.1) :: .res (OwnC (codL l_T_Image) 41 A8 c8 s1.2.2.1) :: .res (Box g4 26 [.slice A10 s1.2.2.2.2.2.2.length c10, .slice none 0 0]) :: .ro (SlL eu8 A3 c3 l2) :: .res (Box g1 26 [.slice A8 s1.2.2.1.length c8, .slice none 0 0]) :: R) (fun _ w => w) ?_
       refine St.p rfl rfl ?_
       obtain ⟨r6, hr6, h1⟩ := bnd_e h1
       refine St.call (c_bundle_reader_version hr6) ent50 rfl rfl rfl (fun _ w => Sat.dup (G := [.ro (SlL eu8 A14 c14 r5.1.b)]) rfl ⟨(.tail _ (.head _)), trivial⟩ (w.front (.s .z))) ?_
       rintro _ _ ⟨A15, c15, rfl, rfl⟩
       refine St.asrt (F' := .ro (SlL eu8 A15 c15 r6.1.b) :: .res (Box g3 81 [.slice A15 r6.1.b.length c15, .int .i64 r6.1.at_, .bool r6.1.bad]) :: .ro (SlL eu8 A14 c14 r5.1.b) :: .res (OwnC (codL l_T_Image) 41 A10 c10 s1.2.2.2.2.2.2) :: .ro (SlL eu8 A9 c9 s1.2.2.2.1) :: .res (OwnC (codL l_T_Image) 41 A8 c8 s1.2.2.1) :: .res (Box g4 26 [.slice A10 s1.2.2.2.2.2.2.length c10, .slice none 0 0]) :: .ro (SlL eu8 A3 c3 l2) :: .res (Box g1 26 [.slice A8 s1.2.2.1.length c8, .slice none 0 0]) :: R) (fun _ w => w) ?_
       refine St.p rfl rfl ?_
       refine St.alloc rfl rfl fun g5 => ?_
       refine St.store 0 rfl rfl rfl rfl rfl rfl .z rfl ?_
       refine St.done ?_
       refine St.thenN ?_
       refine St.prune (Γ' := [(2, _), (5, _), (6, _), (7, _), (8, _), (9, _), (10, _), (11, _), (12, _)]) ⟨rfl, rfl, rfl, rfl, rfl, rfl, rfl, rfl, rfl, trivial⟩ (.k (.k (.k (.d (.k (.d (.k (.k (.k (.k .z)))))))))) ?_
       refine St.seq ?_
       refine St.region ?_
       refine St.p rfl rfl ?_
       refine St.p rfl rfl ?_
       obtain ⟨r7, hr7, h1⟩ := bnd_e h1
       refine St.call (c_bundle_reader_number hr7) ent47 rfl rfl rfl (fun _ w => Sat.dup (G := [.ro (SlL eu8 A15 c15 r6.1.b)]) rfl ⟨(.tail _ (.tail _ (.head _))), trivial⟩ (w.front (.s (.s .z)))) ?_
       rintro _ _ ⟨A16, c16, rfl, rfl⟩
       refine St.asrt (F' := .ro (SlL eu8 A16 c16 r7.1.b) :: .res (Box g3 81 [.slice A16 r7.1.b.length c16, .int .i64 r7.1.at_, .bool r7.1.bad]) :: .res (Box g5 41 [.string r5.2, .int .i64 r6.2.Major, .int .i64 r6.2.Minor, .int .i64 r6.2.Patch, .slice none 0 0]) :: .ro (SlL eu8 A15 c15 r6.1.b) :: .res (OwnC (codL l_T_Image) 41 A10 c10 s1.2.2.2.2.2.2) :: .res (OwnC (codL l_T_Image) 41 A8 c8 s1.2.2.1) :: .res (Box g4 26 [.slice A10 s1.2.2.2.2.2.2.length c10, .slice none 0 0]) :: .ro (SlL eu8 A3 c3 l2) :: .res (Box g1 26 [.slice A8 s1.2.2.1.length c8, .slice none 0 0]) :: R) (fun _ w => w) ?_
       obtain ⟨r8, hr8, h1⟩ := bnd_e h1
       refine St.call (c_bundle_reader_take hr8) ent48 rfl rfl rfl (fun _ w => Sat.dup (G := [.ro (SlL eu8 A16 c16 r7.1.b)]) rfl ⟨(.tail _ (.head _)), trivial⟩ (w.front (.s .z))) ?_
       rintro _ _ ⟨A17, c17, A18, c18, rfl, rfl⟩
       refine St.asrt (F' := .ro (SlL eu8 A17 c17 r8.1.b) :: .ro (SlL eu8 A18 c18 r8.2) :: .res (Box g3 81 [.slice A17 r8.1.b.length c17, .int .i64 r8.1.at_, .bool r8.1.bad]) :: .ro (SlL eu8 A16 c16 r7.1.b) :: .res (Box g5 41 [.string r5.2, .int .i64 r6.2.Major, .int .i64 r6.2.Minor, .int .i64 r6.2.Patch, .slice none 0 0]) :: .ro (SlL eu8 A15 c15 r6.1.b) :: .res (OwnC (codL l_T_Image) 41 A10 c10 s1.2.2.2.2.2.2) :: .res (OwnC (codL l_T_Image) 41 A8 c8 s1.2.2.1) :: .res (Box g4 26 [.slice A10 s1.2.2.2.2.2.2.length c10, .slice none 0 0]) :: .ro (SlL eu8 A3 c3 l2) :: .res (Box g1 26 [.slice A8 s1.2.2.1.length c8, .slice none 0 0]) :: R) (fun _ w => w) ?_
       obtain ⟨r9, hr9, h1⟩ := bnd_e h1
       refine St.call (c_slices_Clone__byte_byte hr9) ent51 rfl rfl rfl (fun _ w => Sat.dup (G := [.ro (SlL eu8 A18 c18 r8.2)]) rfl ⟨(.tail _ (.head _)), trivial⟩ w) ?_
       rintro _ _ ⟨A19, c19, rfl, rfl⟩
       refine St.asrt (F' := .res (OwnL eu8 5 A19 c19 r9) :: .ro (SlL eu8 A17 c17 r8.1.b) :: .ro (SlL eu8 A18 c18 r8.2) :: .res (Box g3 81 [.slice A17 r8.1.b.length c17, .int .i64 r8.1.at_, .bool r8.1.bad]) :: .ro (SlL eu8 A16 c16 r7.1.b) :: .res (Box g5 41 [.string r5.2, .int .i64 r6.2.Major, .int .i64 r6.2.Minor, .int .i64 r6.2.Patch, .slice none 0 0]) :: .ro (SlL eu8 A15 c15 r6.1.b) :: .res (OwnC (codL l_T_Image) 41 A10 c10 s1.2.2.2.2.2.2) :: .res (OwnC (codL l_T_Image) 41 A8 c8 s1.2.2.1) :: .res (Box g4 26 [.slice A10 s1.2.2.2.2.2.2.length c10, .slice none 0 0]) :: .ro (SlL eu8 A3 c3 l2) :: .res (Box g1 26 [.slice A8 s1.2.2.1.length c8, .slice none 0 0]) :: R) (fun _ w => w) ?_
       refine St.p rfl rfl ?_
       refine St.store 4 rfl rfl rfl rfl rfl rfl (.s (.s (.s (.s (.s .z))))) rfl ?_
       refine St.done ?_
       refine St.thenN ?_
       refine St.prune (Γ' := [(2, _), (5, _), (6, _), (7, _), (8, _), (9, _), (10, _), (11, _), (12, _)]) ⟨rfl, rfl, rfl, rfl, rfl, rfl, rfl, rfl, rfl, trivial⟩ (.k (.k (.k (.d (.k (.d (.d (.k (.k (.k (.k (.k .z)))))))))))) ?_
       refine St.seq ?_
       refine St.region ?_
       iterate 3 refine St.p rfl rfl ?_
       refine St.loadB 1 rfl rfl (.tail _ (.tail _ (.tail _ (.head _)))) rfl rfl ?_
       refine St.p rfl rfl ?_
       refine St.done ?_
       refine St.thenN ?_
       refine St.prune (Γ' := [(2, _), (5, _), (6, _), (7, _), (8, _), (9, _), (10, _), (11, _), (12, _), (13, _)]) ⟨rfl, rfl, rfl, rfl, rfl, rfl, rfl, rfl, rfl, rfl, trivial⟩ (.k (.k (.k (.k (.k (.k (.k (.k (.k .z))))))))) ?_
       refine St.seq ?_
       refine St.region ?_
       refine St.p rfl rfl ?_
       obtain ⟨r10, hr10, h1⟩ := bnd_e h1
       refine St.call (c_bundle_reader_number hr10) ent47 rfl rfl rfl (fun _ w => Sat.dup (G := [.ro (SlL eu8 A17 c17 r8.1.b)]) rfl ⟨(.tail _ (.tail _ (.tail _ (.head _)))), trivial⟩ (w.front (.s (.s (.s .z))))) ?_
       rintro _ _ ⟨A20, c20, rfl, rfl⟩
       refine St.asrt (F' := .ro (SlL eu8 A20 c20 r10.1.b) :: .res (Box g3 81 [.slice A20 r10.1.b.length c20, .int .i64 r10.1.at_, .bool r10.1.bad]) :: .res (Box g5 41 [.string r5.2, .int .i64 r6.2.Major, .int .i64 r6.2.Minor, .int .i64 r6.2.Patch, .slice A19 r9.length c19]) :: .res (OwnL eu8 5 A19 c19 r9) :: .ro (SlL eu8 A17 c17 r8.1.b) :: .res (OwnC (codL l_T_Image) 41 A10 c10 s1.2.2.2.2.2.2) :: .res (OwnC (codL l_T_Image) 41 A8 c8 s1.2.2.1) :: .res (Box g4 26 [.slice A10 s1.2.2.2.2.2.2.length c10, .slice none 0 0]) :: .ro (SlL eu8 A3 c3 l2) :: .res (Box g1 26 [.slice A8 s1.2.2.1.length c8, .slice none 0 0]) :: R) (fun _ w => w) ?_
       refine St.p rfl rfl ?_
       refine St.p rfl rfl ?_
       refine St.done ?_
       refine St.thenN ?_
       refine St.prune (Γ' := [(2, _), (5, _), (6, _), (7, _), (8, _), (9, _), (10, _), (11, _), (12, _), (13, _), (14, _)]) ⟨rfl, rfl, rfl, rfl, rfl, rfl, rfl, rfl, rfl, rfl, rfl, trivial⟩ (.k (.k (.k (.k (.d (.k (.k (.k (.k (.k .z)))))))))) ?_
       refine St.seq ?_
       obtain ⟨o3, hj2, h1⟩ := bnd_e h1
       refine St.cutE (fun (e4 : Unit) => [(2, .pointer (some ⟨g1, 0, none⟩)), (5, .slice A3 l2.length c3), (6, .pointer (some ⟨g3, 0, none⟩)), (7, .pointer (some ⟨g4, 0, none⟩)), (8, .bool o3), (9, .bool ((strOf r3.2).toList == ((⟨#[66, 77, 67, 70]⟩) : ByteArray).toList)), (10, .int .i64 s1.2.1), (12, .pointer (some ⟨g5, 0, none⟩))]) (fun e4 => .ro (SlL eu8 A20 c20 r10.1.b) :: .res (Box g3 81 [.slice A20 r10.1.b.length c20, .int .i64 r10.1.at_, .bool r10.1.bad]) :: .res (Box g5 41 [.string r5.2, .int .i64 r6.2.Major, .int .i64 r6.2.Minor, .int .i64 r6.2.Patch, .slice A19 r9.length c19]) :: .res (OwnL eu8 5 A19 c19 r9) :: .res (OwnC (codL l_T_Image) 41 A10 c10 s1.2.2.2.2.2.2) :: .res (OwnC (codL l_T_Image) 41 A8 c8 s1.2.2.1) :: .res (Box g4 26 [.slice A10 s1.2.2.2.2.2.2.length c10, .slice none 0 0]) :: .ro (SlL eu8 A3 c3 l2) :: .res (Box g1 26 [.slice A8 s1.2.2.1.length c8, .slice none 0 0]) :: R) ?_ ?_
       ·refine St.region ?_
        refine St.p rfl rfl ?_
        refine St.p rfl rfl ?_
        refine St.gSplit (dj := 87) _ rfl (fun hb6 => ?_) (fun hb6 => ?_)
        ·replace hj2 := bif_t hb6 hj2
         refine St.gOn (dj := 87) rfl rfl ?_
         refine St.p rfl rfl ?_
         refine St.gOn (dj := 87) rfl rfl ?_
         refine St.p rfl rfl ?_
         refine St.gOn (dj := 87) rfl rfl ?_
         refine St.p rfl rfl ?_
         refine St.gOn (dj := 87) rfl rfl ?_
         refine St.loadB 2 rfl rfl (.tail _ (.head _)) rfl rfl ?_
         refine St.gOn (dj := 87) rfl rfl ?_
         iterate 3 refine St.p rfl rfl ?_
         refine St.gSplit (dj := 94) _ rfl (fun hb7 => ?_) (fun hb7 => ?_)
         ·replace hj2 := bif_t hb7 hj2
          refine St.gOn (dj := 94) rfl rfl ?_
          refine St.p rfl rfl ?_
          refine St.gOn (dj := 94) rfl rfl ?_
          refine St.p rfl rfl ?_
          refine St.gOn (dj := 94) rfl rfl ?_
          refine St.p rfl rfl ?_
          refine St.gOn (dj := 94) rfl rfl ?_
          refine St.p rfl rfl ?_
          refine St.gOn (dj := 94) rfl rfl ?_
          obtain ⟨l3, hl3, hj2⟩ := bnd_e hj2
          refine St.sub (E := (cod eu8)) rfl rfl (.tail _ (.tail _ (.tail _ (.tail _ (.tail _ (.tail _ (.tail _ (.head _)))))))) rfl rfl rfl rfl rfl rfl rfl hl3 fun A21 c21 => ?_
          refine St.gOn (dj := 94) rfl rfl ?_
          obtain ⟨r11, hr11, hj2⟩ := bnd_e hj2
          refine St.callV (c_checksum_CRC32 hr11) ent25 rfl rfl rfl rfl ⟨(.head _), trivial⟩ ?_
          refine St.gOn (dj := 94) rfl rfl ?_
          iterate 3 refine St.p rfl rfl ?_
          refine St.done ?_
          injection hj2 with hj2
          subst hj2
          refine St.thenN ?_
          exact St.hereE () ⟨rfl, rfl, rfl, rfl, rfl, rfl, rfl, rfl, trivial⟩ (fun _ w => ((.d (.k (.k (.k (.k (.k (.k (.k (.k (.k .z)))))))))) : Keep _ _).sat w)
         ·replace hj2 := bif_f hb7 hj2
          refine St.gOff (dj := 94) rfl rfl rfl rfl ?_
          refine St.gOff (dj := 94) rfl rfl rfl rfl ?_
          refine St.gOff (dj := 94) rfl rfl rfl rfl ?_
          refine St.gOff (dj := 94) rfl rfl rfl rfl ?_
          refine St.gOff (dj := 94) rfl rfl rfl rfl ?_
          refine St.gOff (dj := 94) rfl rfl rfl rfl ?_
          refine St.gOff (dj := 94) rfl rfl rfl rfl ?_
          refine St.p rfl rfl ?_
          refine St.p rfl rfl ?_
          refine St.done ?_
          injection hj2 with hj2
          subst hj2
          refine St.thenN ?_
          exact St.hereE () ⟨rfl, rfl, rfl, rfl, rfl, rfl, rfl, rfl, trivial⟩ (fun _ w => ((.k (.k (.k (.k (.k (.k (.k (.k (.k .z))))))))) : Keep _ _).sat w)
        ·replace hj2 := bif_f hb6 hj2
         refine St.gOff (dj := 87) rfl rfl rfl rfl ?_
         refine St.gOff (dj := 87) rfl rfl rfl rfl ?_
         refine St.gOff (dj := 87) rfl rfl rfl rfl ?_
         refine St.gOff (dj := 87) rfl rfl rfl rfl ?_
         refine St.gOff (dj := 87) rfl rfl rfl rfl ?_
         refine St.p rfl rfl ?_
         refine St.p rfl rfl ?_
         refine St.gOff (dj := 94) rfl rfl rfl rfl ?_
         refine St.gOff (dj := 94) rfl rfl rfl rfl ?_
         refine St.gOff (dj := 94) rfl rfl rfl rfl ?_
         refine St.gOff (dj := 94) rfl rfl rfl rfl ?_
         refine St.gOff (dj := 94) rfl rfl rfl rfl ?_
         refine St.gOff (dj := 94) rfl rfl rfl rfl ?_
         refine St.gOff (dj := 94) rfl rfl rfl rfl ?_
         refine St.p rfl rfl ?_
         refine St.p rfl rfl ?_
         refine St.done ?_
         injection hj2 with hj2
         subst hj2
         refine St.thenN ?_
         exact St.hereE () ⟨rfl, rfl, rfl, rfl, rfl, rfl, rfl, rfl, trivial⟩ (fun _ w => ((.k (.k (.k (.k (.k (.k (.k (.k (.k .z))))))))) : Keep _ _).sat w)
       ·rintro e4
        refine St.region ?_
        refine St.p rfl rfl ?_
        refine St.loadB 0 rfl rfl (.tail _ (.tail _ (.tail _ (.tail _ (.tail _ (.tail _ (.head _))))))) rfl rfl ?_
        refine St.loadB 0 rfl rfl (.tail _ (.tail _ (.head _))) rfl rfl ?_
        refine St.buildSlice rfl rfl rfl rfl rfl rfl rfl rfl fun g6 => ?_
        obtain ⟨l4, hl4, h1⟩ := bnd_e h1
        refine St.asrt (fun _ w => (w.front (.s (.s (.s (.s .z))))).meltL) ?_
        refine St.appC (E := (codL l_T_Image)) hl4 rfl rfl rfl (.s (.s (.s (.s (.s .z))))) rfl rfl rfl rfl rfl rfl rfl rfl (srcBC (ls := l_T_Image) [((⟨r5.2, r6.2, r9⟩ : T_Image), ((A19, c19), ()))] (.tail _ (.head _)) rfl rfl rfl ⟨(.head _), trivial⟩) rfl rfl fun A22 c22 => ?_
        refine St.p rfl rfl ?_
        refine St.store 0 rfl rfl rfl rfl rfl rfl (.s (.s (.s (.s (.s (.s (.s .z))))))) rfl ?_
        refine St.done ?_
        refine St.blkN ?_
        refine St.thenN ?_
        refine St.prune (Γ' := [(2, _), (5, _), (6, _), (7, _), (8, _), (9, _), (10, _)]) ⟨rfl, rfl, rfl, rfl, rfl, rfl, rfl, trivial⟩ (.k (.k (.d (.d (.k (.k (.d (.k (.k (.k .z)))))))))) ?_
        refine St.region ?_
        iterate 3 refine St.p rfl rfl ?_
        refine St.done ?_
        injection h1 with h1
        subst h1
        refine St.thenN ?_
        exact St.again _ (A8, c8, A20, c20, A22, c22) hm1 trivial ⟨rfl, rfl, rfl, rfl, rfl, rfl, rfl, trivial⟩ (fun _ w => ((.k (.k (.k (.k (.k (.k (.k .z))))))) : Keep _ _).sat (((((((w.front (.s (.s (.s (.s (.s (.s .z))))))).front (.s (.s (.s (.s (.s (.s .z))))))).front (.s (.s .z))).front (.s (.s (.s (.s (.s .z)))))).front (.s (.s (.s (.s (.s (.s .z))))))).front (.s (.s (.s (.s (.s (.s .z))))))).front (.s (.s (.s (.s (.s (.s .z))))))))
      ·replace h1 := bif_f hb5 h1
       refine St.exit ?_
       repeat (first | refine St.thenX ?_ | refine St.blkMiss rfl ?_)
       refine St.blkHit ?_
       injection h1 with h1
       subst h1
       have ho := hd1 _ rfl
       subst ho
       refine St.thenN ?_
       exact St.hereE (A8, c8, A9, c9, A10, c10) ⟨rfl, rfl, rfl, rfl, rfl, rfl, trivial⟩ (fun _ w => ((.k (.k (.k (.k (.k (.k (.k .z))))))) : Keep _ _).sat w)
    ·rintro ⟨A11, c11, A12, c12, A13, c13⟩
     refine St.seq ?_
     refine St.seq ?_
     refine St.region ?_
     refine St.p rfl rfl ?_
     obtain ⟨r12, hr12, h⟩ := bnd_e h
     refine St.call (c_bundle_reader_number hr12) ent47 rfl rfl rfl (fun _ w => Sat.dup (G := [.ro (SlL eu8 A12 c12 o1.2.2.1)]) rfl ⟨(.tail _ (.tail _ (.head _))), trivial⟩ (w.front (.s (.s (.s .z))))) ?_
     rintro _ _ ⟨A23, c23, rfl, rfl⟩
     refine St.asrt (F' := .ro (SlL eu8 A23 c23 r12.1.b) :: .res (Box g3 81 [.slice A23 r12.1.b.length c23, .int .i64 r12.1.at_, .bool r12.1.bad]) :: .res (OwnC (codL l_T_Image) 41 A13 c13 o1.2.2.2.2.2) :: .ro (SlL eu8 A12 c12 o1.2.2.1) :: .res (OwnC (codL l_T_Image) 41 A11 c11 o1.2.1) :: .res (Box g4 26 [.slice A13 o1.2.2.2.2.2.length c13, .slice none 0 0]) :: .ro (SlL eu8 A3 c3 l2) :: .res (Box g1 26 [.slice A11 o1.2.1.length c11, .slice none 0 0]) :: R) (fun _ w => w) ?_
     refine St.p rfl rfl ?_
     refine St.done ?_
     refine St.thenN ?_
     refine St.prune (Γ' := [(2, _), (5, _), (6, _), (7, _), (8, _), (9, _), (15, _)]) ⟨rfl, rfl, rfl, rfl, rfl, rfl, rfl, trivial⟩ (.k (.k (.k (.d (.k (.k (.k (.k .z)))))))) ?_
     refine St.asrt (fun _ w => w.nilL e_Need 67) ?_
     refine St.asrt (fun _ w => w.nilL e_Need 67) ?_
     obtain ⟨o4, hl2, h⟩ := bnd_e h
     refine St.cutE (fun (e6 : Option Addr × Nat × Option Addr × Nat × Option Addr × Nat) => [(2, .pointer (some ⟨g1, 0, none⟩)), (5, .slice A3 l2.length c3), (6, .pointer (some ⟨g3, 0, none⟩)), (7, .pointer (some ⟨g4, 0, none⟩)), (8, .bool o1.1), (9, .bool ((strOf r3.2).toList == ((⟨#[66, 77, 67, 70]⟩) : ByteArray).toList))]) (fun e6 => .res (OwnL e_Need 67 e6.2.2.2.2.1 e6.2.2.2.2.2 o4.2.2.2.2) :: .ro (SlL eu8 e6.2.2.1 e6.2.2.2.1 o4.2.1) :: .res (OwnL e_Need 67 e6.1 e6.2.1 o4.1) :: .res (Box g3 81 [.slice e6.2.2.1 o4.2.1.length e6.2.2.2.1, .int .i64 o4.2.2.1, .bool o4.2.2.2.1]) :: .res (OwnC (codL l_T_Image) 41 A13 c13 o1.2.2.2.2.2) :: .res (OwnC (codL l_T_Image) 41 A11 c11 o1.2.1) :: .res (Box g4 26 [.slice A13 o1.2.2.2.2.2.length c13, .slice e6.2.2.2.2.1 o4.2.2.2.2.length e6.2.2.2.2.2]) :: .ro (SlL eu8 A3 c3 l2) :: .res (Box g1 26 [.slice A11 o1.2.1.length c11, .slice e6.1 o4.1.length e6.2.1]) :: R) ?_ ?_
     ·refine St.block ?_
      refine St.loop hl2 (fun (s2 : Int × List T_Need × List Int × Int × Bool × List T_Need) (e5 : Option Addr × Nat × Option Addr × Nat × Option Addr × Nat) => [(2, .pointer (some ⟨g1, 0, none⟩)), (5, .slice A3 l2.length c3), (6, .pointer (some ⟨g3, 0, none⟩)), (7, .pointer (some ⟨g4, 0, none⟩)), (8, .bool o1.1), (9, .bool ((strOf r3.2).toList == ((⟨#[66, 77, 67, 70]⟩) : ByteArray).toList)), (15, .int .i64 s2.1)]) (fun s2 e5 => .res (OwnL e_Need 67 e5.2.2.2.2.1 e5.2.2.2.2.2 s2.2.2.2.2.2) :: .ro (SlL eu8 e5.2.2.1 e5.2.2.2.1 s2.2.2.1) :: .res (OwnL e_Need 67 e5.1 e5.2.1 s2.2.1) :: .res (Box g3 81 [.slice e5.2.2.1 s2.2.2.1.length e5.2.2.2.1, .int .i64 s2.2.2.2.1, .bool s2.2.2.2.2.1]) :: .res (OwnC (codL l_T_Image) 41 A13 c13 o1.2.2.2.2.2) :: .res (OwnC (codL l_T_Image) 41 A11 c11 o1.2.1) :: .res (Box g4 26 [.slice A13 o1.2.2.2.2.2.length c13, .slice e5.2.2.2.2.1 s2.2.2.2.2.2.length e5.2.2.2.2.2]) :: .ro (SlL eu8 A3 c3 l2) :: .res (Box g1 26 [.slice A11 o1.2.1.length c11, .slice e5.1 s2.2.1.length e5.2.1]) :: R) (fun _ _ => True) (none, 0, A23, c23, none, 0) trivial ⟨rfl, rfl, rfl, rfl, rfl, rfl, rfl, trivial⟩ (fun _ w => ((.k (.k (.k (.k (.k (.k (.k (.k (.k .z))))))))) : Keep _ _).sat (((((((((w.front (.s (.s (.s (.s (.s (.s (.s (.s .z))))))))).front (.s (.s (.s (.s (.s (.s (.s (.s .z))))))))).front (.s (.s (.s (.s (.s (.s (.s (.s .z))))))))).front (.s (.s (.s (.s (.s (.s (.s (.s .z))))))))).front (.s (.s (.s (.s (.s (.s (.s (.s .z))))))))).front (.s (.s (.s (.s (.s (.s (.s (.s .z))))))))).front (.s (.s (.s (.s (.s (.s .z))))))).front (.s (.s (.s (.s (.s (.s (.s (.s .z))))))))).front (.s (.s (.s (.s (.s (.s (.s (.s .z)))))))))) ?_
      rintro s2 ⟨A24, c24, A25, c25, A26, c26⟩ - hit2
      obtain ⟨st2, hm2, hd2⟩ := iter_e hit2
      have h2 := hm2
      refine St.seq ?_
      refine St.seq ?_
      obtain ⟨o5, hj3, h2⟩ := bnd_e h2
      refine St.cutE (fun (e7 : Unit) => [(2, .pointer (some ⟨g1, 0, none⟩)), (5, .slice A3 l2.length c3), (6, .pointer (some ⟨g3, 0, none⟩)), (7, .pointer (some ⟨g4, 0, none⟩)), (8, .bool o1.1), (9, .bool ((strOf r3.2).toList == ((⟨#[66, 77, 67, 70]⟩) : ByteArray).toList)), (15, .int .i64 s2.1), (119, .bool o5)]) (fun e7 => .res (OwnL e_Need 67 A26 c26 s2.2.2.2.2.2) :: .ro (SlL eu8 A25 c25 s2.2.2.1) :: .res (OwnL e_Need 67 A24 c24 s2.2.1) :: .res (Box g3 81 [.slice A25 s2.2.2.1.length c25, .int .i64 s2.2.2.2.1, .bool s2.2.2.2.2.1]) :: .res (OwnC (codL l_T_Image) 41 A13 c13 o1.2.2.2.2.2) :: .res (OwnC (codL l_T_Image) 41 A11 c11 o1.2.1) :: .res (Box g4 26 [.slice A13 o1.2.2.2.2.2.length c13, .slice A26 s2.2.2.2.2.2.length c26]) :: .ro (SlL eu8 A3 c3 l2) :: .res (Box g1 26 [.slice A11 o1.2.1.length c11, .slice A24 s2.2.1.length c24]) :: R) ?_ ?_
      ·refine St.region ?_
       iterate 3 refine St.p rfl rfl ?_
       refine St.gSplit (dj := 113) _ rfl (fun hb8 => ?_) (fun hb8 => ?_)
       ·replace hj3 := bif_t hb8 hj3
        refine St.gOn (dj := 113) rfl rfl ?_
        refine St.p rfl rfl ?_
        refine St.gOn (dj := 113) rfl rfl ?_
        refine St.p rfl rfl ?_
        refine St.gOn (dj := 113) rfl rfl ?_
        refine St.p rfl rfl ?_
        refine St.gOn (dj := 113) rfl rfl ?_
        refine St.loadB 2 rfl rfl (.tail _ (.tail _ (.tail _ (.head _)))) rfl rfl ?_
        refine St.gOn (dj := 113) rfl rfl ?_
        refine St.p rfl rfl ?_
        refine St.p rfl rfl ?_
        refine St.done ?_
        injection hj3 with hj3
        subst hj3
        refine St.thenN ?_
        exact St.hereE () ⟨rfl, rfl, rfl, rfl, rfl, rfl, rfl, rfl, trivial⟩ (fun _ w => ((.k (.k (.k (.k (.k (.k (.k (.k (.k .z))))))))) : Keep _ _).sat w)
       ·replace hj3 := bif_f hb8 hj3
        refine St.gOff (dj := 113) rfl rfl rfl rfl ?_
        refine St.gOff (dj := 113) rfl rfl rfl rfl ?_
        refine St.gOff (dj := 113) rfl rfl rfl rfl ?_
        refine St.gOff (dj := 113) rfl rfl rfl rfl ?_
        refine St.gOff (dj := 113) rfl rfl rfl rfl ?_
        refine St.p rfl rfl ?_
        refine St.done ?_
        injection hj3 with hj3
        subst hj3
        refine St.thenN ?_
        exact St.hereE () ⟨rfl, rfl, rfl, rfl, rfl, rfl, rfl, rfl, trivial⟩ (fun _ w => ((.k (.k (.k (.k (.k (.k (.k (.k (.k .z))))))))) : Keep _ _).sat w)
      ·rintro e7
       refine St.cond _ rfl (fun hb9 => ?_) (fun hb9 => ?_)
       ·replace h2 := bif_t hb9 h2
        refine St.skip ?_
        refine St.thenN ?_
        refine St.prune (Γ' := [(2, _), (5, _), (6, _), (7, _), (8, _), (9, _), (15, _)]) ⟨rfl, rfl, rfl, rfl, rfl, rfl, rfl, trivial⟩ (.k (.k (.k (.k (.k (.k (.k (.k (.k .z))))))))) ?_
        refine St.seq ?_
        refine St.block ?_
        obtain ⟨r13, hr13, h2⟩ := bnd_e h2
        obtain ⟨r14, hr14, h2⟩ := bnd_e h2
        obtain ⟨r15, hr15, h2⟩ := bnd_e h2
        obtain ⟨r16, hr16, h2⟩ := bnd_e h2
        obtain ⟨l5, hl5, h2⟩ := bnd_e h2
        refine St.regionX (iL [(.fl, 0), (.fl, 2), (.fl, 4), (.fl, 6), (.fl, 8)] (.alt (iL [(.ef, 1)] (iL [(.ef, 3)] (iL [(.ef, 5)] (iL [(.ef, 7)] (iL [(.ef, 9), (.fl, 10)] (iL [(.ef, 11)] (iL [(.ef, 12), (.fl, 13)] (iL [(.ef, 14)] .nil)))))))) (iL [(.ef, 3)] (.alt (iL [(.ef, 1)] (iL [(.ef, 5)] (iL [(.ef, 7)] (iL [(.ef, 9), (.fl, 10)] (iL [(.ef, 11)] (iL [(.ef, 12), (.fl, 13)] (iL [(.ef, 14)] .nil))))))) (iL [(.ef, 5)] (.alt (iL [(.ef, 1)] (iL [(.ef, 7)] (iL [(.ef, 9), (.fl, 10)] (iL [(.ef, 11)] (iL [(.ef, 12), (.fl, 13)] (iL [(.ef, 14)] .nil)))))) (iL [(.ef, 7)] (.alt (iL [(.ef, 1)] (iL [(.ef, 9), (.fl, 10)] (iL [(.ef, 11)] (iL [(.ef, 12), (.fl, 13)] (iL [(.ef, 14)] .nil))))) (iL [(.ef, 9), (.fl, 10)] (.alt (iL [(.ef, 1)] (iL [(.ef, 11)] (iL [(.ef, 12), (.fl, 13)] (iL [(.ef, 14)] .nil)))) (iL [(.ef, 11)] (iL [(.ef, 1)] (iL [(.ef, 12), (.fl, 13)] (iL [(.ef, 14)] .nil)))))))))))))) (.ro (SlL eu8 A25 c25 s2.2.2.1) :: .res (OwnL e_Need 67 A24 c24 s2.2.1) :: .res (OwnC (codL l_T_Image) 41 A13 c13 o1.2.2.2.2.2) :: .res (OwnC (codL l_T_Image) 41 A11 c11 o1.2.1) :: .ro (SlL eu8 A3 c3 l2) :: .res (Box g1 26 [.slice A11 o1.2.1.length c11, .slice A24 s2.2.1.length c24]) :: R) mixed (by kernel_rfl) (fun _ w => ((.d (.k (.k (.d (.k (.k (.d (.k (.k .z))))))))) : Keep _ _).sat w) ?_
        refine St.share (Y := ?Ynd1_0) (fun (e : Nat × Option Addr × Nat × Option Addr × Nat × Option Addr × Nat × Option Addr × Nat) => [(2, .pointer (some ⟨g1, 0, none⟩)), (5, .slice A3 l2.length c3), (6, .pointer (some ⟨g3, 0, none⟩)), (7, .pointer (some ⟨g4, 0, none⟩)), (8, .bool o1.1), (9, .bool ((strOf r3.2).toList == ((⟨#[66, 77, 67, 70]⟩) : ByteArray).toList)), (15, .int .i64 s2.1), (122, .pointer (some ⟨g4, 1, none⟩)), (123, .slice A26 s2.2.2.2.2.2.length c26), (124, .pointer (some ⟨g3, 0, none⟩)), (125, .string r13.2), (126, .pointer (some ⟨g3, 0, none⟩)), (127, .agg #[.int .i64 r14.2.Major, .int .i64 r14.2.Minor, .int .i64 r14.2.Patch]), (128, .pointer (some ⟨g3, 0, none⟩)), (129, .string r15.2), (130, .pointer (some ⟨g3, 0, none⟩)), (131, .agg #[.int .i64 r16.2.Major, .int .i64 r16.2.Minor, .int .i64 r16.2.Patch]), (132, .agg #[.string r13.2, .int .i64 r14.2.Major, .int .i64 r14.2.Minor, .int .i64 r14.2.Patch, .string r15.2, .int .i64 r16.2.Major, .int .i64 r16.2.Minor, .int .i64 r16.2.Patch]), (133, .slice (some ⟨e.1, 0, none⟩) 1 1)]) (fun e => .res (Box e.1 67 [.string r13.2, .int .i64 r14.2.Major, .int .i64 r14.2.Minor, .int .i64 r14.2.Patch, .string r15.2, .int .i64 r16.2.Major, .int .i64 r16.2.Minor, .int .i64 r16.2.Patch]) :: .ro (SlL eu8 e.2.1 e.2.2.1 r16.1.b) :: .res (Box g3 81 [.slice e.2.1 r16.1.b.length e.2.2.1, .int .i64 r16.1.at_, .bool r16.1.bad]) :: .ro (SlL eu8 e.2.2.2.1 e.2.2.2.2.1 r15.1.b) :: .ro (SlL eu8 e.2.2.2.2.2.1 e.2.2.2.2.2.2.1 r14.1.b) :: .ro (SlL eu8 e.2.2.2.2.2.2.2.1 e.2.2.2.2.2.2.2.2 r13.1.b) :: .res (OwnL e_Need 67 A26 c26 s2.2.2.2.2.2) :: .ro (SlL eu8 A25 c25 s2.2.2.1) :: .res (OwnL e_Need 67 A24 c24 s2.2.1) :: .res (OwnC (codL l_T_Image) 41 A13 c13 o1.2.2.2.2.2) :: .res (OwnC (codL l_T_Image) 41 A11 c11 o1.2.1) :: .res (Box g4 26 [.slice A13 o1.2.2.2.2.2.length c13, .slice A26 s2.2.2.2.2.2.length c26]) :: .ro (SlL eu8 A3 c3 l2) :: .res (Box g1 26 [.slice A11 o1.2.1.length c11, .slice A24 s2.2.1.length c24]) :: R) (fun hnd1_0 => ?mnd1_0) ?tnd1_0
        case mnd1_0 =>
         refine St.share (Y := ?Ynd1_1) (fun (e : Option Addr × Nat × Option Addr × Nat × Option Addr × Nat × Option Addr × Nat) => [(2, .pointer (some ⟨g1, 0, none⟩)), (5, .slice A3 l2.length c3), (6, .pointer (some ⟨g3, 0, none⟩)), (7, .pointer (some ⟨g4, 0, none⟩)), (8, .bool o1.1), (9, .bool ((strOf r3.2).toList == ((⟨#[66, 77, 67, 70]⟩) : ByteArray).toList)), (15, .int .i64 s2.1), (122, .pointer (some ⟨g4, 1, none⟩)), (123, .slice A26 s2.2.2.2.2.2.length c26), (124, .pointer (some ⟨g3, 0, none⟩)), (125, .string r13.2), (126, .pointer (some ⟨g3, 0, none⟩)), (127, .agg #[.int .i64 r14.2.Major, .int .i64 r14.2.Minor, .int .i64 r14.2.Patch]), (128, .pointer (some ⟨g3, 0, none⟩)), (129, .string r15.2), (130, .pointer (some ⟨g3, 0, none⟩)), (131, .agg #[.int .i64 r16.2.Major, .int .i64 r16.2.Minor, .int .i64 r16.2.Patch]), (132, .agg #[.string r13.2, .int .i64 r14.2.Major, .int .i64 r14.2.Minor, .int .i64 r14.2.Patch, .string r15.2, .int .i64 r16.2.Major, .int .i64 r16.2.Minor, .int .i64 r16.2.Patch])]) (fun e => .ro (SlL eu8 e.1 e.2.1 r16.1.b) :: .res (Box g3 81 [.slice e.1 r16.1.b.length e.2.1, .int .i64 r16.1.at_, .bool r16.1.bad]) :: .ro (SlL eu8 e.2.2.1 e.2.2.2.1 r15.1.b) :: .ro (SlL eu8 e.2.2.2.2.1 e.2.2.2.2.2.1 r14.1.b) :: .ro (SlL eu8 e.2.2.2.2.2.2.1 e.2.2.2.2.2.2.2 r13.1.b) :: .res (OwnL e_Need 67 A26 c26 s2.2.2.2.2.2) :: .ro (SlL eu8 A25 c25 s2.2.2.1) :: .res (OwnL e_Need 67 A24 c24 s2.2.1) :: .res (OwnC (codL l_T_Image) 41 A13 c13 o1.2.2.2.2.2) :: .res (OwnC (codL l_T_Image) 41 A11 c11 o1.2.1) :: .res (Box g4 26 [.slice A13 o1.2.2.2.2.2.length c13, .slice A26 s2.2.2.2.2.2.length c26]) :: .ro (SlL eu8 A3 c3 l2) :: .res (Box g1 26 [.slice A11 o1.2.1.length c11, .slice A24 s2.2.1.length c24]) :: R) (fun hnd1_1 => ?mnd1_1) ?tnd1_1
         case mnd1_1 =>
          refine St.share (Y := ?Ynd1_2) (fun (e : Option Addr × Nat × Option Addr × Nat × Option Addr × Nat) => [(2, .pointer (some ⟨g1, 0, none⟩)), (5, .slice A3 l2.length c3), (6, .pointer (some ⟨g3, 0, none⟩)), (7, .pointer (some ⟨g4, 0, none⟩)), (8, .bool o1.1), (9, .bool ((strOf r3.2).toList == ((⟨#[66, 77, 67, 70]⟩) : ByteArray).toList)), (15, .int .i64 s2.1), (122, .pointer (some ⟨g4, 1, none⟩)), (123, .slice A26 s2.2.2.2.2.2.length c26), (124, .pointer (some ⟨g3, 0, none⟩)), (125, .string r13.2), (126, .pointer (some ⟨g3, 0, none⟩)), (127, .agg #[.int .i64 r14.2.Major, .int .i64 r14.2.Minor, .int .i64 r14.2.Patch]), (128, .pointer (some ⟨g3, 0, none⟩)), (129, .string r15.2), (130, .pointer (some ⟨g3, 0, none⟩))]) (fun e => .ro (SlL eu8 e.1 e.2.1 r15.1.b) :: .res (Box g3 81 [.slice e.1 r15.1.b.length e.2.1, .int .i64 r15.1.at_, .bool r15.1.bad]) :: .ro (SlL eu8 e.2.2.1 e.2.2.2.1 r14.1.b) :: .ro (SlL eu8 e.2.2.2.2.1 e.2.2.2.2.2 r13.1.b) :: .res (OwnL e_Need 67 A26 c26 s2.2.2.2.2.2) :: .ro (SlL eu8 A25 c25 s2.2.2.1) :: .res (OwnL e_Need 67 A24 c24 s2.2.1) :: .res (OwnC (codL l_T_Image) 41 A13 c13 o1.2.2.2.2.2) :: .res (OwnC (codL l_T_Image) 41 A11 c11 o1.2.1) :: .res (Box g4 26 [.slice A13 o1.2.2.2.2.2.length c13, .slice A26 s2.2.2.2.2.2.length c26]) :: .ro (SlL eu8 A3 c3 l2) :: .res (Box g1 26 [.slice A11 o1.2.1.length c11, .slice A24 s2.2.1.length c24]) :: R) (fun hnd1_2 => ?mnd1_2) ?tnd1_2
          case mnd1_2 =>
           refine St.share (Y := ?Ynd1_3) (fun (e : Option Addr × Nat × Option Addr × Nat) => [(2, .pointer (some ⟨g1, 0, none⟩)), (5, .slice A3 l2.length c3), (6, .pointer (some ⟨g3, 0, none⟩)), (7, .pointer (some ⟨g4, 0, none⟩)), (8, .bool o1.1), (9, .bool ((strOf r3.2).toList == ((⟨#[66, 77, 67, 70]⟩) : ByteArray).toList)), (15, .int .i64 s2.1), (122, .pointer (some ⟨g4, 1, none⟩)), (123, .slice A26 s2.2.2.2.2.2.length c26), (124, .pointer (some ⟨g3, 0, none⟩)), (125, .string r13.2), (126, .pointer (some ⟨g3, 0, none⟩)), (127, .agg #[.int .i64 r14.2.Major, .int .i64 r14.2.Minor, .int .i64 r14.2.Patch]), (128, .pointer (some ⟨g3, 0, none⟩)), (130, .pointer (some ⟨g3, 0, none⟩))]) (fun e => .ro (SlL eu8 e.1 e.2.1 r14.1.b) :: .res (Box g3 81 [.slice e.1 r14.1.b.length e.2.1, .int .i64 r14.1.at_, .bool r14.1.bad]) :: .ro (SlL eu8 e.2.2.1 e.2.2.2 r13.1.b) :: .res (OwnL e_Need 67 A26 c26 s2.2.2.2.2.2) :: .ro (SlL eu8 A25 c25 s2.2.2.1) :: .res (OwnL e_Need 67 A24 c24 s2.2.1) :: .res (OwnC (codL l_T_Image) 41 A13 c13 o1.2.2.2.2.2) :: .res (OwnC (codL l_T_Image) 41 A11 c11 o1.2.1) :: .res (Box g4 26 [.slice A13 o1.2.2.2.2.2.length c13, .slice A26 s2.2.2.2.2.2.length c26]) :: .ro (SlL eu8 A3 c3 l2) :: .res (Box g1 26 [.slice A11 o1.2.1.length c11, .slice A24 s2.2.1.length c24]) :: R) (fun hnd1_3 => ?mnd1_3) ?tnd1_3
           case mnd1_3 =>
            refine St.share (Y := ?Ynd1_4) (fun (e : Option Addr × Nat) => [(2, .pointer (some ⟨g1, 0, none⟩)), (5, .slice A3 l2.length c3), (6, .pointer (some ⟨g3, 0, none⟩)), (7, .pointer (some ⟨g4, 0, none⟩)), (8, .bool o1.1), (9, .bool ((strOf r3.2).toList == ((⟨#[66, 77, 67, 70]⟩) : ByteArray).toList)), (15, .int .i64 s2.1), (122, .pointer (some ⟨g4, 1, none⟩)), (123, .slice A26 s2.2.2.2.2.2.length c26), (124, .pointer (some ⟨g3, 0, none⟩)), (125, .string r13.2), (126, .pointer (some ⟨g3, 0, none⟩)), (128, .pointer (some ⟨g3, 0, none⟩)), (130, .pointer (some ⟨g3, 0, none⟩))]) (fun e => .ro (SlL eu8 e.1 e.2 r13.1.b) :: .res (Box g3 81 [.slice e.1 r13.1.b.length e.2, .int .i64 r13.1.at_, .bool r13.1.bad]) :: .res (OwnL e_Need 67 A26 c26 s2.2.2.2.2.2) :: .ro (SlL eu8 A25 c25 s2.2.2.1) :: .res (OwnL e_Need 67 A24 c24 s2.2.1) :: .res (OwnC (codL l_T_Image) 41 A13 c13 o1.2.2.2.2.2) :: .res (OwnC (codL l_T_Image) 41 A11 c11 o1.2.1) :: .res (Box g4 26 [.slice A13 o1.2.2.2.2.2.length c13, .slice A26 s2.2.2.2.2.2.length c26]) :: .ro (SlL eu8 A3 c3 l2) :: .res (Box g1 26 [.slice A11 o1.2.1.length c11, .slice A24 s2.2.1.length c24]) :: R) (fun hnd1_4 => ?mnd1_4) ?tnd1_4
            case mnd1_4 =>
             refine St.xfl (fun _ h => h) (Rd.p rfl) rfl ?_
             refine St.xfl (fun _ h => h) (Rd.p rfl) rfl ?_
             refine St.xfl (fun _ h => h) (Rd.p rfl) rfl ?_
             refine St.xfl (fun _ h => h) (Rd.p rfl) rfl ?_
             refine St.xfl (fun _ h => h) (Rd.p rfl) rfl ?_
             refine St.xalt ?_ ?_
             ·refine St.xef ?_
              refine St.loadB 1 rfl rfl (.tail _ (.tail _ (.tail _ (.tail _ (.tail _ (.tail _ (.head _))))))) rfl rfl ?_
              refine St.xk (fun _ w => ((.d (.k (.k (.d (.k (.k (.d (.k (.k .z))))))))) : Keep _ _).sat w) ?_
              refine St.xef ?_
              refine St.call (c_bundle_reader_text hr13) ent49 rfl rfl rfl (fun _ w => Sat.dup (G := [.ro (SlL eu8 A25 c25 s2.2.2.1)]) rfl ⟨(.tail _ (.tail _ (.head _))), trivial⟩ (w.front (.s (.s (.s .z))))) ?_
              rintro _ _ ⟨A30, c30, rfl, rfl⟩
              refine St.asrt (F' := .ro (SlL eu8 A30 c30 r13.1.b) :: .res (Box g3 81 [.slice A30 r13.1.b.length c30, .int .i64 r13.1.at_, .bool r13.1.bad]) :: .res (OwnL e_Need 67 A26 c26 s2.2.2.2.2.2) :: .ro (SlL eu8 A25 c25 s2.2.2.1) :: .res (OwnL e_Need 67 A24 c24 s2.2.1) :: .res (OwnC (codL l_T_Image) 41 A13 c13 o1.2.2.2.2.2) :: .res (OwnC (codL l_T_Image) 41 A11 c11 o1.2.1) :: .res (Box g4 26 [.slice A13 o1.2.2.2.2.2.length c13, .slice A26 s2.2.2.2.2.2.length c26]) :: .ro (SlL eu8 A3 c3 l2) :: .res (Box g1 26 [.slice A11 o1.2.1.length c11, .slice A24 s2.2.1.length c24]) :: R) (fun _ w => w) ?_
              refine St.xk (fun _ w => ((.d (.d (.d (.k (.k (.k (.k (.d (.k (.k .z)))))))))) : Keep _ _).sat w) ?_
              refine hnd1_4 _ _ (A30, c30) ?_ ?_
              ·exact ⟨rfl, rfl, rfl, rfl, rfl, rfl, rfl, rfl, rfl, rfl, rfl, rfl, rfl, rfl, trivial⟩
              ·exact fun _ w => ((.k (.k (.k (.k (.k (.k (.k (.k (.k (.k .z)))))))))) : Keep _ _).sat w
             ·refine St.xef ?_
              refine St.call (c_bundle_reader_text hr13) ent49 rfl rfl rfl (fun _ w => Sat.dup (G := [.ro (SlL eu8 A25 c25 s2.2.2.1)]) rfl ⟨(.tail _ (.tail _ (.head _))), trivial⟩ (w.front (.s (.s (.s .z))))) ?_
              rintro _ _ ⟨A30, c30, rfl, rfl⟩
              refine St.asrt (F' := .ro (SlL eu8 A30 c30 r13.1.b) :: .res (Box g3 81 [.slice A30 r13.1.b.length c30, .int .i64 r13.1.at_, .bool r13.1.bad]) :: .res (OwnL e_Need 67 A26 c26 s2.2.2.2.2.2) :: .ro (SlL eu8 A25 c25 s2.2.2.1) :: .res (OwnL e_Need 67 A24 c24 s2.2.1) :: .res (OwnC (codL l_T_Image) 41 A13 c13 o1.2.2.2.2.2) :: .res (OwnC (codL l_T_Image) 41 A11 c11 o1.2.1) :: .res (Box g4 26 [.slice A13 o1.2.2.2.2.2.length c13, .slice A26 s2.2.2.2.2.2.length c26]) :: .ro (SlL eu8 A3 c3 l2) :: .res (Box g1 26 [.slice A11 o1.2.1.length c11, .slice A24 s2.2.1.length c24]) :: R) (fun _ w => w) ?_
              refine St.xk (fun _ w => ((.d (.d (.d (.k (.k (.k (.k (.d (.k (.k .z)))))))))) : Keep _ _).sat w) ?_
              refine St.xalt ?_ ?_
              ·refine St.xef ?_
               refine St.loadB 1 rfl rfl (.tail _ (.tail _ (.tail _ (.tail _ (.tail _ (.tail _ (.tail _ (.head _)))))))) rfl rfl ?_
               refine St.xk (fun _ w => ((.d (.d (.d (.k (.k (.k (.k (.d (.k (.k .z)))))))))) : Keep _ _).sat w) ?_
               refine hnd1_4 _ _ (A30, c30) ?_ ?_
               ·exact ⟨rfl, rfl, rfl, rfl, rfl, rfl, rfl, rfl, rfl, rfl, rfl, rfl, rfl, rfl, trivial⟩
               ·exact fun _ w => ((.k (.k (.k (.k (.k (.k (.k (.k (.k (.k .z)))))))))) : Keep _ _).sat w
              ·refine St.xef ?_
               refine St.call (c_bundle_reader_version hr14) ent50 rfl rfl rfl (fun _ w => Sat.dup (G := [.ro (SlL eu8 A30 c30 r13.1.b)]) rfl ⟨(.tail _ (.head _)), trivial⟩ (w.front (.s .z))) ?_
               rintro _ _ ⟨A31, c31, rfl, rfl⟩
               refine St.asrt (F' := .ro (SlL eu8 A31 c31 r14.1.b) :: .res (Box g3 81 [.slice A31 r14.1.b.length c31, .int .i64 r14.1.at_, .bool r14.1.bad]) :: .ro (SlL eu8 A30 c30 r13.1.b) :: .res (OwnL e_Need 67 A26 c26 s2.2.2.2.2.2) :: .ro (SlL eu8 A25 c25 s2.2.2.1) :: .res (OwnL e_Need 67 A24 c24 s2.2.1) :: .res (OwnC (codL l_T_Image) 41 A13 c13 o1.2.2.2.2.2) :: .res (OwnC (codL l_T_Image) 41 A11 c11 o1.2.1) :: .res (Box g4 26 [.slice A13 o1.2.2.2.2.2.length c13, .slice A26 s2.2.2.2.2.2.length c26]) :: .ro (SlL eu8 A3 c3 l2) :: .res (Box g1 26 [.slice A11 o1.2.1.length c11, .slice A24 s2.2.1.length c24]) :: R) (fun _ w => w) ?_
               refine St.xk (fun _ w => ((.d (.d (.d (.d (.k (.k (.k (.k (.d (.k (.k .z))))))))))) : Keep _ _).sat w) ?_
               refine St.xalt ?_ ?_
               ·refine St.xef ?_
                refine St.loadB 1 rfl rfl (.tail _ (.tail _ (.tail _ (.tail _ (.tail _ (.tail _ (.tail _ (.tail _ (.head _))))))))) rfl rfl ?_
                refine St.xk (fun _ w => ((.d (.d (.d (.d (.k (.k (.k (.k (.d (.k (.k .z))))))))))) : Keep _ _).sat w) ?_
                refine hnd1_3 _ _ (A31, c31, A30, c30) ?_ ?_
                ·exact ⟨rfl, rfl, rfl, rfl, rfl, rfl, rfl, rfl, rfl, rfl, rfl, rfl, rfl, rfl, rfl, trivial⟩
                ·exact fun _ w => ((.k (.k (.k (.k (.k (.k (.k (.k (.k (.k (.k .z))))))))))) : Keep _ _).sat w
               ·refine St.xef ?_
                refine St.call (c_bundle_reader_text hr15) ent49 rfl rfl rfl (fun _ w => Sat.dup (G := [.ro (SlL eu8 A31 c31 r14.1.b)]) rfl ⟨(.tail _ (.head _)), trivial⟩ (w.front (.s .z))) ?_
                rintro _ _ ⟨A32, c32, rfl, rfl⟩
                refine St.asrt (F' := .ro (SlL eu8 A32 c32 r15.1.b) :: .res (Box g3 81 [.slice A32 r15.1.b.length c32, .int .i64 r15.1.at_, .bool r15.1.bad]) :: .ro (SlL eu8 A31 c31 r14.1.b) :: .ro (SlL eu8 A30 c30 r13.1.b) :: .res (OwnL e_Need 67 A26 c26 s2.2.2.2.2.2) :: .ro (SlL eu8 A25 c25 s2.2.2.1) :: .res (OwnL e_Need 67 A24 c24 s2.2.1) :: .res (OwnC (codL l_T_Image) 41 A13 c13 o1.2.2.2.2.2) :: .res (OwnC (codL l_T_Image) 41 A11 c11 o1.2.1) :: .res (Box g4 26 [.slice A13 o1.2.2.2.2.2.length c13, .slice A26 s2.2.2.2.2.2.length c26]) :: .ro (SlL eu8 A3 c3 l2) :: .res (Box g1 26 [.slice A11 o1.2.1.length c11, .slice A24 s2.2.1.length c24]) :: R) (fun _ w => w) ?_
                refine St.xk (fun _ w => ((.d (.d (.d (.d (.d (.k (.k (.k (.k (.d (.k (.k .z)))))))))))) : Keep _ _).sat w) ?_
                refine St.xalt ?_ ?_
                ·refine St.xef ?_
                 refine St.loadB 1 rfl rfl (.tail _ (.tail _ (.tail _ (.tail _ (.tail _ (.tail _ (.tail _ (.tail _ (.tail _ (.head _)))))))))) rfl rfl ?_
                 refine St.xk (fun _ w => ((.d (.d (.d (.d (.d (.k (.k (.k (.k (.d (.k (.k .z)))))))))))) : Keep _ _).sat w) ?_
                 refine hnd1_2 _ _ (A32, c32, A31, c31, A30, c30) ?_ ?_
                 ·exact ⟨rfl, rfl, rfl, rfl, rfl, rfl, rfl, rfl, rfl, rfl, rfl, rfl, rfl, rfl, rfl, rfl, trivial⟩
                 ·exact fun _ w => ((.k (.k (.k (.k (.k (.k (.k (.k (.k (.k (.k (.k .z)))))))))))) : Keep _ _).sat w
                ·refine St.xef ?_
                 refine St.call (c_bundle_reader_version hr16) ent50 rfl rfl rfl (fun _ w => Sat.dup (G := [.ro (SlL eu8 A32 c32 r15.1.b)]) rfl ⟨(.tail _ (.head _)), trivial⟩ (w.front (.s .z))) ?_
                 rintro _ _ ⟨A33, c33, rfl, rfl⟩
                 refine St.asrt (F' := .ro (SlL eu8 A33 c33 r16.1.b) :: .res (Box g3 81 [.slice A33 r16.1.b.length c33, .int .i64 r16.1.at_, .bool r16.1.bad]) :: .ro (SlL eu8 A32 c32 r15.1.b) :: .ro (SlL eu8 A31 c31 r14.1.b) :: .ro (SlL eu8 A30 c30 r13.1.b) :: .res (OwnL e_Need 67 A26 c26 s2.2.2.2.2.2) :: .ro (SlL eu8 A25 c25 s2.2.2.1) :: .res (OwnL e_Need 67 A24 c24 s2.2.1) :: .res (OwnC (codL l_T_Image) 41 A13 c13 o1.2.2.2.2.2) :: .res (OwnC (codL l_T_Image) 41 A11 c11 o1.2.1) :: .res (Box g4 26 [.slice A13 o1.2.2.2.2.2.length c13, .slice A26 s2.2.2.2.2.2.length c26]) :: .ro (SlL eu8 A3 c3 l2) :: .res (Box g1 26 [.slice A11 o1.2.1.length c11, .slice A24 s2.2.1.length c24]) :: R) (fun _ w => w) ?_
                 refine St.xk (fun _ w => ((.d (.d (.d (.d (.d (.d (.k (.k (.k (.k (.d (.k (.k .z))))))))))))) : Keep _ _).sat w) ?_
                 refine St.xfl (fun _ h => h) (Rd.p rfl) rfl ?_
                 refine St.xalt ?_ ?_
                 ·refine St.xef ?_
                  refine St.loadB 1 rfl rfl (.tail _ (.tail _ (.tail _ (.tail _ (.tail _ (.tail _ (.tail _ (.tail _ (.tail _ (.tail _ (.head _))))))))))) rfl rfl ?_
                  refine St.xk (fun _ w => ((.d (.d (.d (.d (.d (.d (.k (.k (.k (.k (.d (.k (.k .z))))))))))))) : Keep _ _).sat w) ?_
                  refine hnd1_1 _ _ (A33, c33, A32, c32, A31, c31, A30, c30) ?_ ?_
                  ·exact ⟨rfl, rfl, rfl, rfl, rfl, rfl, rfl, rfl, rfl, rfl, rfl, rfl, rfl, rfl, rfl, rfl, rfl, rfl, trivial⟩
                  ·exact fun _ w => ((.k (.k (.k (.k (.k (.k (.k (.k (.k (.k (.k (.k (.k .z))))))))))))) : Keep _ _).sat w
                 ·refine St.xef ?_
                  refine St.buildSlice rfl rfl rfl rfl rfl rfl rfl rfl fun g7 => ?_
                  refine St.xk (fun _ w => ((.d (.d (.d (.d (.d (.d (.d (.k (.k (.k (.k (.d (.k (.k .z)))))))))))))) : Keep _ _).sat w) ?_
                  refine St.xef ?_
                  refine St.loadB 1 rfl rfl (.tail _ (.tail _ (.tail _ (.tail _ (.tail _ (.tail _ (.tail _ (.tail _ (.tail _ (.tail _ (.tail _ (.head _)))))))))))) rfl rfl ?_
                  refine St.xk (fun _ w => ((.d (.d (.d (.d (.d (.d (.d (.k (.k (.k (.k (.d (.k (.k .z)))))))))))))) : Keep _ _).sat w) ?_
                  refine hnd1_0 _ _ (g7, A33, c33, A32, c32, A31, c31, A30, c30) ?_ ?_
                  ·exact ⟨rfl, rfl, rfl, rfl, rfl, rfl, rfl, rfl, rfl, rfl, rfl, rfl, rfl, rfl, rfl, rfl, rfl, rfl, rfl, trivial⟩
                  ·exact fun _ w => ((.k (.k (.k (.k (.k (.k (.k (.k (.k (.k (.k (.k (.k (.k .z)))))))))))))) : Keep _ _).sat w
            case tnd1_4 =>
             rintro ⟨A30, c30⟩
             refine St.asrt (F' := .ro (SlL eu8 A30 c30 r13.1.b) :: .res (Box g3 81 [.slice A30 r13.1.b.length c30, .int .i64 r13.1.at_, .bool r13.1.bad]) :: .res (OwnL e_Need 67 A26 c26 s2.2.2.2.2.2) :: .ro (SlL eu8 A25 c25 s2.2.2.1) :: .res (OwnL e_Need 67 A24 c24 s2.2.1) :: .res (OwnC (codL l_T_Image) 41 A13 c13 o1.2.2.2.2.2) :: .res (OwnC (codL l_T_Image) 41 A11 c11 o1.2.1) :: .res (Box g4 26 [.slice A13 o1.2.2.2.2.2.length c13, .slice A26 s2.2.2.2.2.2.length c26]) :: .ro (SlL eu8 A3 c3 l2) :: .res (Box g1 26 [.slice A11 o1.2.1.length c11, .slice A24 s2.2.1.length c24]) :: R) (fun _ w => w) ?_
             refine St.xef ?_
             refine St.call (c_bundle_reader_version hr14) ent50 rfl rfl rfl (fun _ w => Sat.dup (G := [.ro (SlL eu8 A30 c30 r13.1.b)]) rfl ⟨(.tail _ (.head _)), trivial⟩ (w.front (.s .z))) ?_
             rintro _ _ ⟨A31, c31, rfl, rfl⟩
             refine St.asrt (F' := .ro (SlL eu8 A31 c31 r14.1.b) :: .res (Box g3 81 [.slice A31 r14.1.b.length c31, .int .i64 r14.1.at_, .bool r14.1.bad]) :: .ro (SlL eu8 A30 c30 r13.1.b) :: .res (OwnL e_Need 67 A26 c26 s2.2.2.2.2.2) :: .ro (SlL eu8 A25 c25 s2.2.2.1) :: .res (OwnL e_Need 67 A24 c24 s2.2.1) :: .res (OwnC (codL l_T_Image) 41 A13 c13 o1.2.2.2.2.2) :: .res (OwnC (codL l_T_Image) 41 A11 c11 o1.2.1) :: .res (Box g4 26 [.slice A13 o1.2.2.2.2.2.length c13, .slice A26 s2.2.2.2.2.2.length c26]) :: .ro (SlL eu8 A3 c3 l2) :: .res (Box g1 26 [.slice A11 o1.2.1.length c11, .slice A24 s2.2.1.length c24]) :: R) (fun _ w => w) ?_
             refine St.xk (fun _ w => ((.d (.d (.d (.d (.k (.k (.k (.k (.d (.k (.k .z))))))))))) : Keep _ _).sat w) ?_
             refine hnd1_3 _ _ (A31, c31, A30, c30) ?_ ?_
             ·exact ⟨rfl, rfl, rfl, rfl, rfl, rfl, rfl, rfl, rfl, rfl, rfl, rfl, rfl, rfl, rfl, trivial⟩
             ·exact fun _ w => ((.k (.k (.k (.k (.k (.k (.k (.k (.k (.k (.k .z))))))))))) : Keep _ _).sat w
           case tnd1_3 =>
            rintro ⟨A31, c31, A30, c30⟩
            refine St.asrt (F' := .ro (SlL eu8 A31 c31 r14.1.b) :: .res (Box g3 81 [.slice A31 r14.1.b.length c31, .int .i64 r14.1.at_, .bool r14.1.bad]) :: .ro (SlL eu8 A30 c30 r13.1.b) :: .res (OwnL e_Need 67 A26 c26 s2.2.2.2.2.2) :: .ro (SlL eu8 A25 c25 s2.2.2.1) :: .res (OwnL e_Need 67 A24 c24 s2.2.1) :: .res (OwnC (codL l_T_Image) 41 A13 c13 o1.2.2.2.2.2) :: .res (OwnC (codL l_T_Image) 41 A11 c11 o1.2.1) :: .res (Box g4 26 [.slice A13 o1.2.2.2.2.2.length c13, .slice A26 s2.2.2.2.2.2.length c26]) :: .ro (SlL eu8 A3 c3 l2) :: .res (Box g1 26 [.slice A11 o1.2.1.length c11, .slice A24 s2.2.1.length c24]) :: R) (fun _ w => w) ?_
            refine St.xef ?_
            refine St.call (c_bundle_reader_text hr15) ent49 rfl rfl rfl (fun _ w => Sat.dup (G := [.ro (SlL eu8 A31 c31 r14.1.b)]) rfl ⟨(.tail _ (.head _)), trivial⟩ (w.front (.s .z))) ?_
            rintro _ _ ⟨A32, c32, rfl, rfl⟩
            refine St.asrt (F' := .ro (SlL eu8 A32 c32 r15.1.b) :: .res (Box g3 81 [.slice A32 r15.1.b.length c32, .int .i64 r15.1.at_, .bool r15.1.bad]) :: .ro (SlL eu8 A31 c31 r14.1.b) :: .ro (SlL eu8 A30 c30 r13.1.b) :: .res (OwnL e_Need 67 A26 c26 s2.2.2.2.2.2) :: .ro (SlL eu8 A25 c25 s2.2.2.1) :: .res (OwnL e_Need 67 A24 c24 s2.2.1) :: .res (OwnC (codL l_T_Image) 41 A13 c13 o1.2.2.2.2.2) :: .res (OwnC (codL l_T_Image) 41 A11 c11 o1.2.1) :: .res (Box g4 26 [.slice A13 o1.2.2.2.2.2.length c13, .slice A26 s2.2.2.2.2.2.length c26]) :: .ro (SlL eu8 A3 c3 l2) :: .res (Box g1 26 [.slice A11 o1.2.1.length c11, .slice A24 s2.2.1.length c24]) :: R) (fun _ w => w) ?_
            refine St.xk (fun _ w => ((.d (.d (.d (.d (.d (.k (.k (.k (.k (.d (.k (.k .z)))))))))))) : Keep _ _).sat w) ?_
            refine hnd1_2 _ _ (A32, c32, A31, c31, A30, c30) ?_ ?_
            ·exact ⟨rfl, rfl, rfl, rfl, rfl, rfl, rfl, rfl, rfl, rfl, rfl, rfl, rfl, rfl, rfl, rfl, trivial⟩
            ·exact fun _ w => ((.k (.k (.k (.k (.k (.k (.k (.k (.k (.k (.k (.k .z)))))))))))) : Keep _ _).sat w
          case tnd1_2 =>
           rintro ⟨A32, c32, A31, c31, A30, c30⟩
           refine St.asrt (F' := .ro (SlL eu8 A32 c32 r15.1.b) :: .res (Box g3 81 [.slice A32 r15.1.b.length c32, .int .i64 r15.1.at_, .bool r15.1.bad]) :: .ro (SlL eu8 A31 c31 r14.1.b) :: .ro (SlL eu8 A30 c30 r13.1.b) :: .res (OwnL e_Need 67 A26 c26 s2.2.2.2.2.2) :: .ro (SlL eu8 A25 c25 s2.2.2.1) :: .res (OwnL e_Need 67 A24 c24 s2.2.1) :: .res (OwnC (codL l_T_Image) 41 A13 c13 o1.2.2.2.2.2) :: .res (OwnC (codL l_T_Image) 41 A11 c11 o1.2.1) :: .res (Box g4 26 [.slice A13 o1.2.2.2.2.2.length c13, .slice A26 s2.2.2.2.2.2.length c26]) :: .ro (SlL eu8 A3 c3 l2) :: .res (Box g1 26 [.slice A11 o1.2.1.length c11, .slice A24 s2.2.1.length c24]) :: R) (fun _ w => w) ?_
           refine St.xef ?_
           refine St.call (c_bundle_reader_version hr16) ent50 rfl rfl rfl (fun _ w => Sat.dup (G := [.ro (SlL eu8 A32 c32 r15.1.b)]) rfl ⟨(.tail _ (.head _)), trivial⟩ (w.front (.s .z))) ?_
           rintro _ _ ⟨A33, c33, rfl, rfl⟩
           refine St.asrt (F' := .ro (SlL eu8 A33 c33 r16.1.b) :: .res (Box g3 81 [.slice A33 r16.1.b.length c33, .int .i64 r16.1.at_, .bool r16.1.bad]) :: .ro (SlL eu8 A32 c32 r15.1.b) :: .ro (SlL eu8 A31 c31 r14.1.b) :: .ro (SlL eu8 A30 c30 r13.1.b) :: .res (OwnL e_Need 67 A26 c26 s2.2.2.2.2.2) :: .ro (SlL eu8 A25 c25 s2.2.2.1) :: .res (OwnL e_Need 67 A24 c24 s2.2.1) :: .res (OwnC (codL l_T_Image) 41 A13 c13 o1.2.2.2.2.2) :: .res (OwnC (codL l_T_Image) 41 A11 c11 o1.2.1) :: .res (Box g4 26 [.slice A13 o1.2.2.2.2.2.length c13, .slice A26 s2.2.2.2.2.2.length c26]) :: .ro (SlL eu8 A3 c3 l2) :: .res (Box g1 26 [.slice A11 o1.2.1.length c11, .slice A24 s2.2.1.length c24]) :: R) (fun _ w => w) ?_
           refine St.xk (fun _ w => ((.d (.d (.d (.d (.d (.d (.k (.k (.k (.k (.d (.k (.k .z))))))))))))) : Keep _ _).sat w) ?_
           refine St.xfl (fun _ h => h) (Rd.p rfl) rfl ?_
           refine hnd1_1 _ _ (A33, c33, A32, c32, A31, c31, A30, c30) ?_ ?_
           ·exact ⟨rfl, rfl, rfl, rfl, rfl, rfl, rfl, rfl, rfl, rfl, rfl, rfl, rfl, rfl, rfl, rfl, rfl, rfl, trivial⟩
           ·exact fun _ w => ((.k (.k (.k (.k (.k (.k (.k (.k (.k (.k (.k (.k (.k .z))))))))))))) : Keep _ _).sat w
         case tnd1_1 =>
          rintro ⟨A33, c33, A32, c32, A31, c31, A30, c30⟩
          refine St.asrt (F' := .ro (SlL eu8 A33 c33 r16.1.b) :: .res (Box g3 81 [.slice A33 r16.1.b.length c33, .int .i64 r16.1.at_, .bool r16.1.bad]) :: .ro (SlL eu8 A32 c32 r15.1.b) :: .ro (SlL eu8 A31 c31 r14.1.b) :: .ro (SlL eu8 A30 c30 r13.1.b) :: .res (OwnL e_Need 67 A26 c26 s2.2.2.2.2.2) :: .ro (SlL eu8 A25 c25 s2.2.2.1) :: .res (OwnL e_Need 67 A24 c24 s2.2.1) :: .res (OwnC (codL l_T_Image) 41 A13 c13 o1.2.2.2.2.2) :: .res (OwnC (codL l_T_Image) 41 A11 c11 o1.2.1) :: .res (Box g4 26 [.slice A13 o1.2.2.2.2.2.length c13, .slice A26 s2.2.2.2.2.2.length c26]) :: .ro (SlL eu8 A3 c3 l2) :: .res (Box g1 26 [.slice A11 o1.2.1.length c11, .slice A24 s2.2.1.length c24]) :: R) (fun _ w => w) ?_
          refine St.xef ?_
          refine St.buildSlice rfl rfl rfl rfl rfl rfl rfl rfl fun g7 => ?_
          refine St.xk (fun _ w => ((.d (.d (.d (.d (.d (.d (.d (.k (.k (.k (.k (.d (.k (.k .z)))))))))))))) : Keep _ _).sat w) ?_
          refine hnd1_0 _ _ (g7, A33, c33, A32, c32, A31, c31, A30, c30) ?_ ?_
          ·exact ⟨rfl, rfl, rfl, rfl, rfl, rfl, rfl, rfl, rfl, rfl, rfl, rfl, rfl, rfl, rfl, rfl, rfl, rfl, rfl, trivial⟩
          ·exact fun _ w => ((.k (.k (.k (.k (.k (.k (.k (.k (.k (.k (.k (.k (.k (.k .z)))))))))))))) : Keep _ _).sat w
        case tnd1_0 =>
         rintro ⟨g7, A33, c33, A32, c32, A31, c31, A30, c30⟩
         refine St.asrt (F' := .res (Box g7 67 [.string r13.2, .int .i64 r14.2.Major, .int .i64 r14.2.Minor, .int .i64 r14.2.Patch, .string r15.2, .int .i64 r16.2.Major, .int .i64 r16.2.Minor, .int .i64 r16.2.Patch]) :: .ro (SlL eu8 A33 c33 r16.1.b) :: .res (Box g3 81 [.slice A33 r16.1.b.length c33, .int .i64 r16.1.at_, .bool r16.1.bad]) :: .ro (SlL eu8 A32 c32 r15.1.b) :: .ro (SlL eu8 A31 c31 r14.1.b) :: .ro (SlL eu8 A30 c30 r13.1.b) :: .res (OwnL e_Need 67 A26 c26 s2.2.2.2.2.2) :: .ro (SlL eu8 A25 c25 s2.2.2.1) :: .res (OwnL e_Need 67 A24 c24 s2.2.1) :: .res (OwnC (codL l_T_Image) 41 A13 c13 o1.2.2.2.2.2) :: .res (OwnC (codL l_T_Image) 41 A11 c11 o1.2.1) :: .res (Box g4 26 [.slice A13 o1.2.2.2.2.2.length c13, .slice A26 s2.2.2.2.2.2.length c26]) :: .ro (SlL eu8 A3 c3 l2) :: .res (Box g1 26 [.slice A11 o1.2.1.length c11, .slice A24 s2.2.1.length c24]) :: R) (fun _ w => w) ?_
         refine St.xef ?_
         refine St.app (E := e_Need) hl5 rfl rfl rfl (.s (.s (.s (.s (.s (.s .z)))))) rfl rfl rfl rfl rfl rfl rfl rfl (srcB (.head _) rfl rfl) rfl rfl fun A34 c34 => ?_
         refine St.xk (fun _ w => ((.d (.d (.d (.d (.d (.d (.d (.k (.k (.k (.k (.d (.k (.k .z)))))))))))))) : Keep _ _).sat w) ?_
         refine St.xfl (fun _ h => h) (Rd.p rfl) rfl ?_
         refine St.xef ?_
         refine St.store 1 rfl rfl rfl rfl rfl rfl (.s (.s (.s (.s (.s (.s (.s (.s (.s (.s (.s .z))))))))))) rfl ?_
         refine St.xk (fun _ w => ((.d (.d (.d (.d (.d (.d (.d (.d (.k (.k (.k (.k (.k (.k .z)))))))))))))) : Keep _ _).sat w) ?_
         refine St.xdone ?_
         refine St.blkN ?_
         refine St.thenN ?_
         refine St.prune (Γ' := [(2, _), (5, _), (6, _), (7, _), (8, _), (9, _), (15, _)]) ⟨rfl, rfl, rfl, rfl, rfl, rfl, rfl, trivial⟩ (.k (.k (.d (.k (.k (.d (.d (.d (.d (.k (.k (.k (.k (.k .z)))))))))))))) ?_
         refine St.region ?_
         iterate 3 refine St.p rfl rfl ?_
         refine St.done ?_
         injection h2 with h2
         subst h2
         refine St.thenN ?_
         exact St.again _ (A24, c24, A33, c33, A34, c34) hm2 trivial ⟨rfl, rfl, rfl, rfl, rfl, rfl, rfl, trivial⟩ (fun _ w => ((.k (.k (.k (.k (.k (.k (.k (.k (.k .z))))))))) : Keep _ _).sat (((((((((w.front (.s (.s (.s (.s (.s (.s (.s (.s .z))))))))).front (.s (.s (.s (.s (.s (.s (.s (.s .z))))))))).front (.s (.s .z))).front (.s (.s (.s (.s (.s (.s (.s (.s .z))))))))).front (.s (.s (.s (.s (.s (.s (.s (.s .z))))))))).front (.s (.s (.s (.s (.s (.s (.s .z)))))))).front (.s (.s (.s (.s (.s (.s (.s (.s .z))))))))).front (.s (.s (.s (.s (.s (.s (.s (.s .z))))))))).front (.s (.s (.s (.s (.s (.s (.s (.s .z))))))))))
       ·replace h2 := bif_f hb9 h2
        refine St.exit ?_
        repeat (first | refine St.thenX ?_ | refine St.blkMiss rfl ?_)
        refine St.blkHit ?_
        injection h2 with h2
        subst h2
        have ho := hd2 _ rfl
        subst ho
        refine St.thenN ?_
        exact St.hereE (A24, c24, A25, c25, A26, c26) ⟨rfl, rfl, rfl, rfl, rfl, rfl, trivial⟩ (fun _ w => ((.k (.k (.k (.k (.k (.k (.k (.k (.k .z))))))))) : Keep _ _).sat w)
     ·rintro ⟨A27, c27, A28, c28, A29, c29⟩
      refine St.seq ?_
      refine St.seq ?_
      obtain ⟨o6, hj4, h⟩ := bnd_e h
      refine St.cutE (fun (e8 : Unit) => [(2, .pointer (some ⟨g1, 0, none⟩)), (7, .pointer (some ⟨g4, 0, none⟩)), (8, .bool o1.1), (152, .bool o6)]) (fun e8 => .res (OwnL e_Need 67 A29 c29 o4.2.2.2.2) :: .res (OwnL e_Need 67 A27 c27 o4.1) :: .res (OwnC (codL l_T_Image) 41 A13 c13 o1.2.2.2.2.2) :: .res (OwnC (codL l_T_Image) 41 A11 c11 o1.2.1) :: .res (Box g4 26 [.slice A13 o1.2.2.2.2.2.length c13, .slice A29 o4.2.2.2.2.length c29]) :: .res (Box g1 26 [.slice A11 o1.2.1.length c11, .slice A27 o4.1.length c27]) :: R) ?_ ?_
      ·refine St.region ?_
       iterate 3 refine St.p rfl rfl ?_
       refine St.gSplit (dj := 138) _ rfl (fun hb10 => ?_) (fun hb10 => ?_)
       ·replace hj4 := bif_t hb10 hj4
        refine St.gOff (dj := 138) rfl rfl rfl rfl ?_
        refine St.gOff (dj := 138) rfl rfl rfl rfl ?_
        refine St.gOff (dj := 138) rfl rfl rfl rfl ?_
        refine St.gOff (dj := 138) rfl rfl rfl rfl ?_
        refine St.p rfl rfl ?_
        refine St.p rfl rfl ?_
        refine St.gOff (dj := 144) rfl rfl rfl rfl ?_
        refine St.gOff (dj := 144) rfl rfl rfl rfl ?_
        refine St.gOff (dj := 144) rfl rfl rfl rfl ?_
        refine St.gOff (dj := 144) rfl rfl rfl rfl ?_
        refine St.gOff (dj := 144) rfl rfl rfl rfl ?_
        refine St.gOff (dj := 144) rfl rfl rfl rfl ?_
        refine St.gOff (dj := 144) rfl rfl rfl rfl ?_
        refine St.p rfl rfl ?_
        refine St.done ?_
        injection hj4 with hj4
        subst hj4
        refine St.thenN ?_
        exact St.hereE () ⟨rfl, rfl, rfl, rfl, trivial⟩ (fun _ w => ((.k (.d (.k (.d (.k (.k (.k (.d (.k .z))))))))) : Keep _ _).sat w)
       ·replace hj4 := bif_f hb10 hj4
        refine St.gOn (dj := 138) rfl rfl ?_
        refine St.p rfl rfl ?_
        refine St.gOn (dj := 138) rfl rfl ?_
        refine St.p rfl rfl ?_
        refine St.gOn (dj := 138) rfl rfl ?_
        refine St.p rfl rfl ?_
        refine St.gOn (dj := 138) rfl rfl ?_
        refine St.loadB 2 rfl rfl (.tail _ (.tail _ (.tail _ (.head _)))) rfl rfl ?_
        refine St.p rfl rfl ?_
        refine St.p rfl rfl ?_
        refine St.gSplit (dj := 144) _ rfl (fun hb11 => ?_) (fun hb11 => ?_)
        ·replace hj4 := bif_t hb11 hj4
         refine St.gOff (dj := 144) rfl rfl rfl rfl ?_
         refine St.gOff (dj := 144) rfl rfl rfl rfl ?_
         refine St.gOff (dj := 144) rfl rfl rfl rfl ?_
         refine St.gOff (dj := 144) rfl rfl rfl rfl ?_
         refine St.gOff (dj := 144) rfl rfl rfl rfl ?_
         refine St.gOff (dj := 144) rfl rfl rfl rfl ?_
         refine St.gOff (dj := 144) rfl rfl rfl rfl ?_
         refine St.p rfl rfl ?_
         refine St.done ?_
         injection hj4 with hj4
         subst hj4
         refine St.thenN ?_
         exact St.hereE () ⟨rfl, rfl, rfl, rfl, trivial⟩ (fun _ w => ((.k (.d (.k (.d (.k (.k (.k (.d (.k .z))))))))) : Keep _ _).sat w)
        ·replace hj4 := bif_f hb11 hj4
         refine St.gOn (dj := 144) rfl rfl ?_
         refine St.p rfl rfl ?_
         refine St.gOn (dj := 144) rfl rfl ?_
         refine St.p rfl rfl ?_
         refine St.gOn (dj := 144) rfl rfl ?_
         refine St.p rfl rfl ?_
         refine St.gOn (dj := 144) rfl rfl ?_
         refine St.loadB 1 rfl rfl (.tail _ (.tail _ (.tail _ (.head _)))) rfl rfl ?_
         refine St.gOn (dj := 144) rfl rfl ?_
         refine St.p rfl rfl ?_
         refine St.gOn (dj := 144) rfl rfl ?_
         refine St.p rfl rfl ?_
         refine St.gOn (dj := 144) rfl rfl ?_
         refine St.p rfl rfl ?_
         refine St.p rfl rfl ?_
         refine St.done ?_
         injection hj4 with hj4
         subst hj4
         refine St.thenN ?_
         exact St.hereE () ⟨rfl, rfl, rfl, rfl, trivial⟩ (fun _ w => ((.k (.d (.k (.d (.k (.k (.k (.d (.k .z))))))))) : Keep _ _).sat w)
      ·rintro e8
       refine St.cond _ rfl (fun hb12 => ?_) (fun hb12 => ?_)
       ·replace h := bif_t hb12 h
        refine St.seq ?_
        refine St.region ?_
        refine St.p rfl rfl ?_
        refine St.store 0 rfl rfl rfl rfl rfl rfl (.s (.s (.s (.s (.s .z))))) rfl ?_
        refine St.p rfl rfl ?_
        refine St.done ?_
        refine St.thenN ?_
        refine St.prune (Γ' := [(2, _), (3, _)]) ⟨rfl, rfl, trivial⟩ (.k (.d (.d (.d (.d (.d .z)))))) ?_
        refine St.ret ?_
        repeat (first | refine St.thenR ?_ | refine St.blkR ?_)
        refine St.asrt (fun _ w => w.nilSl (codL l_T_Image)) ?_
        refine St.asrt (fun _ w => w.nilSl (cod e_Need)) ?_
        injection h with h
        subst h
        exact St.finR Try.results22 (.cell rfl (.tail _ (.tail _ (.head _))) rfl (.tmp rfl .nil)) rfl [.ro (Sl (codL l_T_Image) none 0 ([] : List T_Image)), .ro (SlL e_Need none 0 ([] : List T_Need))] ⟨none, 0, none, 0, rfl, rfl⟩ (fun _ w => ((.k (.k (.d (.d (.d .z))))) : Keep _ _).sat (Sat.dup (G := [.ro (Sl (codL l_T_Image) none 0 ([] : List T_Image)), .ro (SlL e_Need none 0 ([] : List T_Need))]) rfl ⟨(.tail _ (.head _)), (.head _), trivial⟩ w))
       ·replace h := bif_f hb12 h
        refine St.skip ?_
        refine St.thenN ?_
        refine St.prune (Γ' := [(2, _), (7, _), (8, _)]) ⟨rfl, rfl, rfl, trivial⟩ (.k (.k (.k (.k (.k (.k .z)))))) ?_
        refine St.seq ?_
        refine St.seq ?_
        refine St.region ?_
        refine St.p rfl rfl ?_
        refine St.p rfl rfl ?_
        refine St.done ?_
        refine St.thenN ?_
        refine St.prune (Γ' := [(2, _), (7, _), (155, _)]) ⟨rfl, rfl, rfl, trivial⟩ (.k (.k (.k (.k (.k (.k .z)))))) ?_
        refine St.cond _ rfl (fun hb13 => ?_) (fun hb13 => ?_)
        ·replace h := bif_t hb13 h
         refine St.seq ?_
         refine St.region ?_
         refine St.p rfl rfl ?_
         refine St.store 0 rfl rfl rfl rfl rfl rfl (.s (.s (.s (.s (.s .z))))) rfl ?_
         refine St.p rfl rfl ?_
         refine St.done ?_
         refine St.thenN ?_
         refine St.prune (Γ' := [(2, _), (3, _)]) ⟨rfl, rfl, trivial⟩ (.k (.d (.d (.d (.d (.d .z)))))) ?_
         refine St.ret ?_
         repeat (first | refine St.thenR ?_ | refine St.blkR ?_)
         refine St.asrt (fun _ w => w.nilSl (codL l_T_Image)) ?_
         refine St.asrt (fun _ w => w.nilSl (cod e_Need)) ?_
         injection h with h
         subst h
         exact St.finR Try.results22 (.cell rfl (.tail _ (.tail _ (.head _))) rfl (.tmp rfl .nil)) rfl [.ro (Sl (codL l_T_Image) none 0 ([] : List T_Image)), .ro (SlL e_Need none 0 ([] : List T_Need))] ⟨none, 0, none, 0, rfl, rfl⟩ (fun _ w => ((.k (.k (.d (.d (.d .z))))) : Keep _ _).sat (Sat.dup (G := [.ro (Sl (codL l_T_Image) none 0 ([] : List T_Image)), .ro (SlL e_Need none 0 ([] : List T_Need))]) rfl ⟨(.tail _ (.head _)), (.head _), trivial⟩ w))
        ·replace h := bif_f hb13 h
         refine St.skip ?_
         refine St.thenN ?_
         refine St.prune (Γ' := [(2, _), (7, _)]) ⟨rfl, rfl, trivial⟩ (.k (.k (.k (.k (.k (.k .z)))))) ?_
         refine St.seq ?_
         refine St.seq ?_
         refine St.region ?_
         refine St.loadB 0 rfl rfl (.tail _ (.tail _ (.tail _ (.tail _ (.head _))))) rfl rfl ?_
         refine St.asrt (fun _ w => (w.front (.s (.s .z))).meltC) ?_
         refine St.asrt (fun _ w => (w.front (.s .z)).meltL) ?_
         obtain ⟨r17, hr17, h⟩ := bnd_e h
         refine St.callV (c_bundle_Valid hr17) ent13 rfl rfl rfl rfl ⟨(.tail _ (.head _)), (.head _), trivial⟩ ?_
         refine St.p rfl rfl ?_
         refine St.done ?_
         refine St.thenN ?_
         refine St.prune (Γ' := [(2, _), (7, _), (16, _)]) ⟨rfl, rfl, rfl, trivial⟩ (.k (.k (.k (.k (.k (.k .z)))))) ?_
         refine St.seq ?_
         refine St.region ?_
         refine St.p rfl rfl ?_
         refine St.p rfl rfl ?_
         refine St.done ?_
         refine St.thenN ?_
         refine St.prune (Γ' := [(2, _), (7, _), (16, _), (160, _)]) ⟨rfl, rfl, rfl, rfl, trivial⟩ (.k (.k (.k (.k (.k (.k .z)))))) ?_
         refine St.cond _ rfl (fun hb14 => ?_) (fun hb14 => ?_)
         ·replace h := bif_t hb14 h
          refine St.seq ?_
          refine St.region ?_
          refine St.p rfl rfl ?_
          refine St.p rfl rfl ?_
          refine St.store 0 rfl rfl rfl rfl rfl rfl (.s (.s (.s (.s (.s .z))))) rfl ?_
          refine St.p rfl rfl ?_
          refine St.done ?_
          refine St.thenN ?_
          refine St.prune (Γ' := [(2, _), (3, _)]) ⟨rfl, rfl, trivial⟩ (.k (.d (.d (.d (.d (.d .z)))))) ?_
          refine St.ret ?_
          repeat (first | refine St.thenR ?_ | refine St.blkR ?_)
          refine St.asrt (fun _ w => w.nilSl (codL l_T_Image)) ?_
          refine St.asrt (fun _ w => w.nilSl (cod e_Need)) ?_
          injection h with h
          subst h
          exact St.finR Try.results22 (.cell rfl (.tail _ (.tail _ (.head _))) rfl (.tmp rfl .nil)) rfl [.ro (Sl (codL l_T_Image) none 0 ([] : List T_Image)), .ro (SlL e_Need none 0 ([] : List T_Need))] ⟨none, 0, none, 0, rfl, rfl⟩ (fun _ w => ((.k (.k (.d (.d (.d .z))))) : Keep _ _).sat (Sat.dup (G := [.ro (Sl (codL l_T_Image) none 0 ([] : List T_Image)), .ro (SlL e_Need none 0 ([] : List T_Need))]) rfl ⟨(.tail _ (.head _)), (.head _), trivial⟩ w))
         ·replace h := bif_f hb14 h
          refine St.skip ?_
          refine St.thenN ?_
          refine St.prune (Γ' := [(2, _), (7, _)]) ⟨rfl, rfl, trivial⟩ (.k (.k (.k (.k (.k (.k .z)))))) ?_
          refine St.seq ?_
          refine St.region ?_
          refine St.loadB 0 rfl rfl (.tail _ (.tail _ (.tail _ (.tail _ (.head _))))) rfl rfl ?_
          refine St.store 0 rfl rfl rfl rfl rfl rfl (.s (.s (.s (.s (.s .z))))) rfl ?_
          refine St.p rfl rfl ?_
          refine St.done ?_
          refine St.thenN ?_
          refine St.prune (Γ' := [(2, _), (3, _)]) ⟨rfl, rfl, trivial⟩ (.k (.k (.k (.d (.d (.d .z)))))) ?_
          refine St.ret ?_
          repeat (first | refine St.thenR ?_ | refine St.blkR ?_)
          injection h with h
          subst h
          exact St.finR Try.results22 (.cell rfl (.head _) rfl (.tmp rfl .nil)) rfl [.ro (Sl (codL l_T_Image) A13 c13 o1.2.2.2.2.2), .ro (SlL e_Need A29 c29 o4.2.2.2.2)] ⟨A13, c13, A29, c29, rfl, rfl⟩ (fun _ w => ((.k (.k (.d (.d (.d .z))))) : Keep _ _).sat (Sat.dup (G := [.ro (Sl (codL l_T_Image) A13 c13 o1.2.2.2.2.2), .ro (SlL e_Need A29 c29 o4.2.2.2.2)]) rfl ⟨(.tail _ (.tail _ (.head _))), (.tail _ (.head _)), trivial⟩ w))

theorem ent42 : Ent Try.prog 42 := ⟨_, Try.func42, by kernel_rfl, by kernel_rfl⟩

noncomputable def m_bundle_Find_1 (i_p0 : T_Image) (cap0 : ByteArray) : Option Bool :=
 some (i_p0.Name.toList == cap0.toList)

theorem c_bundle_Find_1 {i_p0 : T_Image} {cap0 : ByteArray} {A1 : Option Addr} {c1 : Nat} {gb1 : Nat} {r : Bool} (h : m_bundle_Find_1 i_p0 cap0 = some r) :
  Fun Try.prog 42 [.agg (bx_T_Image i_p0 A1 c1).toArray, .pointer (some ⟨gb1, 0, none⟩)] [.ro (SlL eu8 A1 c1 i_p0.Data), .res (Box gb1 9 [.string cap0])] (fun v_ F_ => v_ = .bool r ∧ F_ = [.res (Box gb1 9 [.string cap0])]) := by
 unfold m_bundle_Find_1 at h
 refine Fun.intro Try.func42 rfl rfl rfl fun w R => ?_
 refine St.seq ?_
 refine St.region ?_
 refine St.box rfl rfl fun g1 => ?_
 refine St.p rfl rfl ?_
 refine St.done ?_
 refine St.thenN ?_
 refine St.prune (Γ' := [(1, _), (2, _)]) ⟨rfl, rfl, trivial⟩ (.k (.k (.k .z))) ?_
 refine St.seq ?_
 refine St.region ?_
 refine St.p rfl rfl ?_
 refine St.loadB 0 rfl rfl (.head _) rfl rfl ?_
 refine St.loadB 0 rfl rfl (.tail _ (.tail _ (.head _))) rfl rfl ?_
 refine St.p rfl rfl ?_
 refine St.p rfl rfl ?_
 refine St.done ?_
 refine St.thenN ?_
 refine St.prune (Γ' := [(3, _)]) ⟨rfl, trivial⟩ (.d (.d (.k .z))) ?_
 refine St.ret ?_
 repeat (first | refine St.thenR ?_ | refine St.blkR ?_)
 injection h with h
 subst h
 exact St.finR Try.results42 (.tmp rfl .nil) rfl [.res (Box gb1 9 [.string cap0])] ⟨rfl, rfl⟩ (fun _ w => ((.k .z) : Keep _ _).sat w)

theorem ent41 : Ent Try.prog 41 := ⟨_, Try.func41, by kernel_rfl, by kernel_rfl⟩

noncomputable def m_slices_IndexFunc__api_Image_api_Image_f42 (s_p0 : (List T_Image)) (f_p1_c0 : ByteArray) : Option Int :=
 bnd (loopM (τ := Int ⊕ Unit) (fun (s1 : Int) => bif decide (s1 < (s_p0.length : Int)) then (bnd (elt s_p0 s1) fun x1 => bnd (m_bundle_Find_1 x1 f_p1_c0) fun r1 => bif r1 then (some (.done (.inl s1))) else (some (.next (IntKind.wrap .i64 (s1 + 1))))) else (some (.done (.inr ())))) 0) fun o1 => retOr o1 fun o2 => some (-1)

theorem c_slices_IndexFunc__api_Image_api_Image_f42 {s_p0 : (List T_Image)} {f_p1_c0 : ByteArray} {A1 : Option Addr} {c1 : Nat} {gb1 : Nat} {r : Int} (h : m_slices_IndexFunc__api_Image_api_Image_f42 s_p0 f_p1_c0 = some r) :
  Fun Try.prog 41 [.slice A1 s_p0.length c1, .func (.func 42) #[] #[.pointer (some ⟨gb1, 0, none⟩)]] [.ro (Sl (codL l_T_Image) A1 c1 s_p0), .res (Box gb1 9 [.string f_p1_c0])] (fun v_ F_ => v_ = .int .i64 r ∧ F_ = [.res (Box gb1 9 [.string f_p1_c0])]) := by
 unfold m_slices_IndexFunc__api_Image_api_Image_f42 at h
 refine Fun.intro Try.func41 rfl rfl rfl fun w R => ?_
 refine St.seq ?_
 refine St.region ?_
 refine St.p rfl rfl ?_
 refine St.done ?_
 refine St.thenN ?_
 refine St.prune (Γ' := [(0, _), (1, _)]) ⟨rfl, rfl, trivial⟩ (.k (.k .z)) ?_
 refine St.seq ?_
 refine St.seq ?_
 refine St.region ?_
 iterate 3 refine St.p rfl rfl ?_
 refine St.done ?_
 refine St.thenN ?_
 refine St.prune (Γ' := [(0, _), (1, _), (7, _), (8, _)]) ⟨rfl, rfl, rfl, rfl, trivial⟩ (.k (.k .z)) ?_
 obtain ⟨o1, hl1, h⟩ := bnd_e h
 refine St.cutI (fun (o2 : Unit) (e2 : Unit) => []) (fun o2 e2 => .res (Box gb1 9 [.string f_p1_c0]) :: R) (fun o2 => o1 = .inr o2) ?_ ?_
 ·refine St.block ?_
  refine St.loop hl1 (fun (s1 : Int) (e1 : Unit) => [(0, .slice A1 s_p0.length c1), (1, .func (.func 42) #[] #[.pointer (some ⟨gb1, 0, none⟩)]), (7, .int .i64 (s_p0.length : Int)), (8, .int .i64 s1)]) (fun s1 e1 => .ro (Sl (codL l_T_Image) A1 c1 s_p0) :: .res (Box gb1 9 [.string f_p1_c0]) :: R) (fun _ _ => True) () trivial ⟨rfl, rfl, rfl, rfl, trivial⟩ (fun _ w => ((.k (.k .z)) : Keep _ _).sat w) ?_
  rintro s1 e1 - hit1
  obtain ⟨st1, hm1, hd1⟩ := iter_e hit1
  have h1 := hm1
  refine St.seq ?_
  refine St.region ?_
  refine St.p rfl rfl ?_
  refine St.done ?_
  refine St.thenN ?_
  refine St.seq ?_
  refine St.cond _ rfl (fun hb1 => ?_) (fun hb1 => ?_)
  ·replace h1 := bif_t hb1 h1
   refine St.skip ?_
   refine St.thenN ?_
   refine St.prune (Γ' := [(0, _), (1, _), (7, _), (8, _)]) ⟨rfl, rfl, rfl, rfl, trivial⟩ (.k (.k .z)) ?_
   refine St.seq ?_
   refine St.block ?_
   refine St.seq ?_
   refine St.region ?_
   refine St.p rfl rfl ?_
   refine St.p rfl rfl ?_
   refine St.done ?_
   refine St.thenN ?_
   refine St.prune (Γ' := [(0, _), (1, _), (5, _), (7, _), (8, _)]) ⟨rfl, rfl, rfl, rfl, rfl, trivial⟩ (.k (.k .z)) ?_
   refine St.seq ?_
   refine St.region ?_
   iterate 3 refine St.p rfl rfl ?_
   obtain ⟨x1, hx1, h1⟩ := bnd_e h1
   refine St.ixN hx1 rfl rfl rfl (.head _) rfl rfl rfl rfl rfl fun b1 ob1 ex1 => ?_
   obtain ⟨⟨A2, c2⟩, _⟩ := ex1
   refine St.asrt (F' := .ro (Cells b1 ob1 (bx_T_Image x1 A2 c2)) :: .ro (SlL eu8 A2 c2 x1.Data) :: .ro (Sl (codL l_T_Image) A1 c1 s_p0) :: .res (Box gb1 9 [.string f_p1_c0]) :: R) (fun _ w => w) ?_
   refine St.load ob1 0 rfl rfl (.head _) rfl rfl ?_
   obtain ⟨r1, hr1, h1⟩ := bnd_e h1
   refine St.callC (args := [.agg (bx_T_Image x1 A2 c2).toArray]) (us := [.pointer (some ⟨gb1, 0, none⟩)]) (c_bundle_Find_1 hr1) ent42 rfl rfl rfl (fun _ w => Sat.dup (G := [.ro (SlL eu8 A2 c2 x1.Data)]) rfl ⟨(.tail _ (.tail _ (.head _))), trivial⟩ (w.front (.s (.s (.s .z))))) ?_
   rintro _ _ ⟨rfl, rfl⟩
   refine St.asrt (F' := .res (Box gb1 9 [.string f_p1_c0]) :: .ro (Cells b1 ob1 (bx_T_Image x1 A2 c2)) :: .ro (SlL eu8 A2 c2 x1.Data) :: .ro (Sl (codL l_T_Image) A1 c1 s_p0) :: R) (fun _ w => w) ?_
   refine St.done ?_
   refine St.thenN ?_
   refine St.prune (Γ' := [(0, _), (1, _), (5, _), (7, _), (8, _), (16, _)]) ⟨rfl, rfl, rfl, rfl, rfl, rfl, trivial⟩ (.k (.d (.d (.k .z)))) ?_
   refine St.cond _ rfl (fun hb2 => ?_) (fun hb2 => ?_)
   ·replace h1 := bif_t hb2 h1
    refine St.seq ?_
    refine St.region ?_
    refine St.p rfl rfl ?_
    refine St.p rfl rfl ?_
    refine St.done ?_
    refine St.thenN ?_
    refine St.prune (Γ' := [(4, _)]) ⟨rfl, trivial⟩ (.k (.d .z)) ?_
    refine St.ret ?_
    repeat (first | refine St.thenR ?_ | refine St.blkR ?_)
    injection h1 with h1
    subst h1
    have ho := hd1 _ rfl
    subst ho
    have h : some _ = some _ := h
    injection h with h
    subst h
    exact St.finR Try.results41 (.tmp rfl .nil) rfl [.res (Box gb1 9 [.string f_p1_c0])] ⟨rfl, rfl⟩ (fun _ w => ((.k .z) : Keep _ _).sat w)
   ·replace h1 := bif_f hb2 h1
    refine St.skip ?_
    refine St.blkN ?_
    refine St.thenN ?_
    refine St.prune (Γ' := [(0, _), (1, _), (7, _), (8, _)]) ⟨rfl, rfl, rfl, rfl, trivial⟩ (.k (.k .z)) ?_
    refine St.region ?_
    refine St.p rfl rfl ?_
    refine St.p rfl rfl ?_
    refine St.done ?_
    injection h1 with h1
    subst h1
    refine St.thenN ?_
    exact St.again _ () hm1 trivial ⟨rfl, rfl, rfl, rfl, trivial⟩ (fun _ w => ((.k (.k .z)) : Keep _ _).sat ((w.front .z).front (.s .z)))
  ·replace h1 := bif_f hb1 h1
   refine St.exit ?_
   repeat (first | refine St.thenX ?_ | refine St.blkMiss rfl ?_)
   refine St.blkHit ?_
   injection h1 with h1
   subst h1
   have ho := hd1 _ rfl
   subst ho
   refine St.thenN ?_
   exact St.hereI () () rfl trivial (fun _ w => ((.d (.k .z)) : Keep _ _).sat w)
 ·rintro o2 e2 ho
  subst ho
  have h : _ = some _ := h
  refine St.seq ?_
  refine St.region ?_
  refine St.p rfl rfl ?_
  refine St.done ?_
  refine St.thenN ?_
  refine St.ret ?_
  repeat (first | refine St.thenR ?_ | refine St.blkR ?_)
  injection h with h
  subst h
  exact St.finR Try.results41 (.tmp rfl .nil) rfl [.res (Box gb1 9 [.string f_p1_c0])] ⟨rfl, rfl⟩ (fun _ w => ((.k .z) : Keep _ _).sat w)

theorem ent15 : Ent Try.prog 15 := ⟨_, Try.func15, by kernel_rfl, by kernel_rfl⟩

noncomputable def m_bundle_Find (b_p0 : T_Bundle) (name : ByteArray) : Option Int :=
 bnd (m_slices_IndexFunc__api_Image_api_Image_f42 b_p0.Images name) fun r1 => some r1

theorem c_bundle_Find {b_p0 : T_Bundle} {name : ByteArray} {A1 : Option Addr} {c1 : Nat} {A2 : Option Addr} {c2 : Nat} {r : Int} (h : m_bundle_Find b_p0 name = some r) :
  Fun Try.prog 15 [.agg #[.slice A1 b_p0.Images.length c1, .slice A2 b_p0.Needs.length c2], .string name] [.ro (Sl (codL l_T_Image) A1 c1 b_p0.Images), .ro (SlL e_Need A2 c2 b_p0.Needs)] (Val (.int .i64 r)) := by
 unfold m_bundle_Find at h
 refine Fun.intro Try.func15 rfl rfl rfl fun w R => ?_
 refine St.seq ?_
 refine St.region ?_
 refine St.box rfl rfl fun g1 => ?_
 refine St.box rfl rfl fun g2 => ?_
 refine St.p rfl rfl ?_
 refine St.done ?_
 refine St.thenN ?_
 refine St.prune (Γ' := [(2, _), (3, _)]) ⟨rfl, rfl, trivial⟩ (.k (.k (.k (.k .z)))) ?_
 refine St.seq ?_
 refine St.region ?_
 refine St.p rfl rfl ?_
 refine St.loadB 0 rfl rfl (.tail _ (.head _)) rfl rfl ?_
 refine St.p rfl rfl ?_
 obtain ⟨r1, hr1, h⟩ := bnd_e h
 refine St.call (c_slices_IndexFunc__api_Image_api_Image_f42 hr1) ent41 rfl rfl rfl (fun _ w => Sat.dup (G := [.ro (Sl (codL l_T_Image) A1 c1 b_p0.Images)]) rfl ⟨(.tail _ (.tail _ (.head _))), trivial⟩ (w.front .z)) ?_
 rintro _ _ ⟨rfl, rfl⟩
 refine St.asrt (F' := .res (Box g2 9 [.string name]) :: .res (Box g1 26 [.slice A1 b_p0.Images.length c1, .slice A2 b_p0.Needs.length c2]) :: .ro (Sl (codL l_T_Image) A1 c1 b_p0.Images) :: .ro (SlL e_Need A2 c2 b_p0.Needs) :: R) (fun _ w => w) ?_
 refine St.p rfl rfl ?_
 refine St.done ?_
 refine St.thenN ?_
 refine St.prune (Γ' := [(4, _)]) ⟨rfl, trivial⟩ (.d (.d (.d (.d .z)))) ?_
 refine St.ret ?_
 repeat (first | refine St.thenR ?_ | refine St.blkR ?_)
 injection h with h
 subst h
 exact St.finR Try.results15 (.tmp rfl .nil) rfl [] ⟨rfl, rfl⟩ (fun _ w => (.z : Keep _ _).sat w)

theorem ent7 : Ent Try.prog 7 := ⟨_, Try.func7, by kernel_rfl, by kernel_rfl⟩

noncomputable def m_law28_awake  : Option Bool :=
 bnd (m_bundle_Encode (⟨[(⟨⟨#[97]⟩, (⟨1, 0, 0⟩ : T_Version), [7]⟩ : T_Image)], []⟩ : T_Bundle)) fun r1 => bnd (m_bundle_Decode r1.1) fun r2 => bnd ((bif (r1.2 == 0) then (bif (r2.2 == 0) then (bif ((r1.1.length : Int) == 25) then (bif ((r2.1.Images.length : Int) == 1) then (bnd (m_bundle_Find r2.1 (⟨#[97]⟩)) fun r3 => bif (r3 == 0) then (bnd (m_bundle_Find r2.1 (⟨#[98]⟩)) fun r4 => some (r4 == (-1))) else (some false)) else (some false)) else (some false)) else (some false)) else (some false) : Option Bool)) fun o1 => some o1

theorem c_law28_awake  {r : Bool} (h : m_law28_awake = some r) :
  Fun Try.prog 7 [] [] (Val (.bool r)) := by
 unfold m_law28_awake at h
 refine Fun.intro Try.func7 rfl rfl rfl fun w R => ?_
 refine St.seq ?_
 refine St.region ?_
 refine St.p rfl rfl ?_
 refine St.done ?_
 refine St.thenN ?_
 refine St.prune (Γ' := []) trivial .z ?_
 refine St.seq ?_
 refine St.region ?_
 refine St.p rfl rfl ?_
 refine St.buildSlice rfl rfl rfl rfl rfl rfl rfl rfl fun g1 => ?_
 refine St.p rfl rfl ?_
 refine St.buildSlice rfl rfl rfl rfl rfl rfl rfl rfl fun g2 => ?_
 refine St.p rfl rfl ?_
 refine St.asrt (fun _ w => (w.front (.s .z)).litL (E := eu8) (e := 5) [7] rfl rfl) ?_
 refine St.asrt (fun _ w => (w.front .z).meltL) ?_
 refine St.asrt (fun _ w => Sat.litC (ls := l_T_Image) (e := 41) [((⟨⟨#[97]⟩, (⟨1, 0, 0⟩ : T_Version), [7]⟩ : T_Image), (((some ⟨g1, 0, none⟩), ([7] : List Int).length), ()))] rfl rfl rfl ⟨(.head _), trivial⟩ (w.front (.s .z))) ?_
 refine St.asrt (fun _ w => (w.front .z).meltC) ?_
 refine St.asrt (fun _ w => w.nilSl (cod e_Need)) ?_
 obtain ⟨r1, hr1, h⟩ := bnd_e h
 refine St.call (c_bundle_Encode hr1) ent11 rfl rfl rfl (fun _ w => Sat.dup (G := [.ro (Sl (codL l_T_Image) (some ⟨g2, 0, none⟩) ([(⟨⟨#[97]⟩, (⟨1, 0, 0⟩ : T_Version), [7]⟩ : T_Image)] : List T_Image).length ([(⟨⟨#[97]⟩, (⟨1, 0, 0⟩ : T_Version), [7]⟩ : T_Image)])), .ro (SlL e_Need none 0 ([] : List T_Need))]) rfl ⟨(.tail _ (.head _)), (.head _), trivial⟩ w) ?_
 rintro _ _ ⟨A1, c1, rfl, rfl⟩
 refine St.asrt (F' := .res (OwnL eu8 5 A1 c1 r1.1) :: .ro (SlL e_Need none 0 ([] : List T_Need)) :: .ro (Sl (codL l_T_Image) (some ⟨g2, 0, none⟩) ([(⟨⟨#[97]⟩, (⟨1, 0, 0⟩ : T_Version), [7]⟩ : T_Image)] : List T_Image).length ([(⟨⟨#[97]⟩, (⟨1, 0, 0⟩ : T_Version), [7]⟩ : T_Image)])) :: .ro (SlL eu8 (some ⟨g1, 0, none⟩) ([7] : List Int).length ([7])) :: R) (fun _ w => w) ?_
 iterate 5 refine St.p rfl rfl ?_
 refine St.done ?_
 refine St.thenN ?_
 refine St.prune (Γ' := [(1, _), (2, _)]) ⟨rfl, rfl, trivial⟩ (.k (.d (.d (.d .z)))) ?_
 refine St.seq ?_
 refine St.region ?_
 refine St.p rfl rfl ?_
 refine St.asrt (fun _ w => (w.front .z).meltL) ?_
 obtain ⟨r2, hr2, h⟩ := bnd_e h
 refine St.call (c_bundle_Decode hr2) ent22 rfl rfl rfl (fun _ w => Sat.dup (G := [.ro (SlL eu8 A1 c1 r1.1)]) rfl ⟨(.head _), trivial⟩ w) ?_
 rintro _ _ ⟨A2, c2, A3, c3, rfl, rfl⟩
 refine St.asrt (F' := .ro (Sl (codL l_T_Image) A2 c2 r2.1.Images) :: .ro (SlL e_Need A3 c3 r2.1.Needs) :: .ro (SlL eu8 A1 c1 r1.1) :: R) (fun _ w => w) ?_
 iterate 3 refine St.p rfl rfl ?_
 refine St.alloc rfl rfl fun g3 => ?_
 refine St.store 0 rfl rfl rfl rfl rfl rfl .z rfl ?_
 refine St.p rfl rfl ?_
 refine St.done ?_
 refine St.thenN ?_
 refine St.prune (Γ' := [(1, _), (2, _), (3, _), (4, _)]) ⟨rfl, rfl, rfl, rfl, trivial⟩ (.k (.k (.k (.k .z)))) ?_
 refine St.seq ?_
 obtain ⟨o1, hj1, h⟩ := bnd_e h
 refine St.cutE (fun (e1 : Unit) => [(0, .bool o1)]) (fun e1 => R) ?_ ?_
 ·refine St.region ?_
  iterate 3 refine St.p rfl rfl ?_
  refine St.gSplit (dj := 21) _ rfl (fun hb1 => ?_) (fun hb1 => ?_)
  ·replace hj1 := bif_t hb1 hj1
   refine St.gOn (dj := 21) rfl rfl ?_
   refine St.p rfl rfl ?_
   refine St.gOn (dj := 21) rfl rfl ?_
   iterate 3 refine St.p rfl rfl ?_
   refine St.gSplit (dj := 25) _ rfl (fun hb2 => ?_) (fun hb2 => ?_)
   ·replace hj1 := bif_t hb2 hj1
    refine St.gOn (dj := 25) rfl rfl ?_
    refine St.p rfl rfl ?_
    refine St.gOn (dj := 25) rfl rfl ?_
    refine St.p rfl rfl ?_
    refine St.gOn (dj := 25) rfl rfl ?_
    iterate 3 refine St.p rfl rfl ?_
    refine St.gSplit (dj := 30) _ rfl (fun hb3 => ?_) (fun hb3 => ?_)
    ·replace hj1 := bif_t hb3 hj1
     refine St.gOn (dj := 30) rfl rfl ?_
     refine St.p rfl rfl ?_
     refine St.gOn (dj := 30) rfl rfl ?_
     refine St.loadB 0 rfl rfl (.head _) rfl rfl ?_
     refine St.gOn (dj := 30) rfl rfl ?_
     refine St.p rfl rfl ?_
     refine St.gOn (dj := 30) rfl rfl ?_
     iterate 3 refine St.p rfl rfl ?_
     refine St.gSplit (dj := 36) _ rfl (fun hb4 => ?_) (fun hb4 => ?_)
     ·replace hj1 := bif_t hb4 hj1
      refine St.gOn (dj := 36) rfl rfl ?_
      refine St.loadB 0 rfl rfl (.head _) rfl rfl ?_
      refine St.gOn (dj := 36) rfl rfl ?_
      obtain ⟨r3, hr3, hj1⟩ := bnd_e hj1
      refine St.callV (c_bundle_Find hr3) ent15 rfl rfl rfl rfl ⟨(.tail _ (.head _)), (.tail _ (.tail _ (.head _))), trivial⟩ ?_
      refine St.gOn (dj := 36) rfl rfl ?_
      iterate 3 refine St.p rfl rfl ?_
      refine St.gSplit (dj := 41) _ rfl (fun hb5 => ?_) (fun hb5 => ?_)
      ·replace hj1 := bif_t hb5 hj1
       refine St.gOn (dj := 41) rfl rfl ?_
       refine St.loadB 0 rfl rfl (.head _) rfl rfl ?_
       refine St.gOn (dj := 41) rfl rfl ?_
       obtain ⟨r4, hr4, hj1⟩ := bnd_e hj1
       refine St.callV (c_bundle_Find hr4) ent15 rfl rfl rfl rfl ⟨(.tail _ (.head _)), (.tail _ (.tail _ (.head _))), trivial⟩ ?_
       refine St.gOn (dj := 41) rfl rfl ?_
       iterate 3 refine St.p rfl rfl ?_
       refine St.done ?_
       injection hj1 with hj1
       subst hj1
       refine St.thenN ?_
       exact St.hereE () ⟨rfl, trivial⟩ (fun _ w => ((.d (.d (.d (.d .z)))) : Keep _ _).sat w)
      ·replace hj1 := bif_f hb5 hj1
       refine St.gOff (dj := 41) rfl rfl rfl rfl ?_
       refine St.gOff (dj := 41) rfl rfl rfl rfl ?_
       refine St.gOff (dj := 41) rfl rfl rfl rfl ?_
       refine St.p rfl rfl ?_
       refine St.p rfl rfl ?_
       refine St.done ?_
       injection hj1 with hj1
       subst hj1
       refine St.thenN ?_
       exact St.hereE () ⟨rfl, trivial⟩ (fun _ w => ((.d (.d (.d (.d .z)))) : Keep _ _).sat w)
     ·replace hj1 := bif_f hb4 hj1
      refine St.gOff (dj := 36) rfl rfl rfl rfl ?_
      refine St.gOff (dj := 36) rfl rfl rfl rfl ?_
      refine St.gOff (dj := 36) rfl rfl rfl rfl ?_
      refine St.p rfl rfl ?_
      refine St.p rfl rfl ?_
      refine St.gOff (dj := 41) rfl rfl rfl rfl ?_
      refine St.gOff (dj := 41) rfl rfl rfl rfl ?_
      refine St.gOff (dj := 41) rfl rfl rfl rfl ?_
      refine St.p rfl rfl ?_
      refine St.p rfl rfl ?_
      refine St.done ?_
      injection hj1 with hj1
      subst hj1
      refine St.thenN ?_
      exact St.hereE () ⟨rfl, trivial⟩ (fun _ w => ((.d (.d (.d (.d .z)))) : Keep _ _).sat w)
    ·replace hj1 := bif_f hb3 hj1
     refine St.gOff (dj := 30) rfl rfl rfl rfl ?_
     refine St.gOff (dj := 30) rfl rfl rfl rfl ?_
     refine St.gOff (dj := 30) rfl rfl rfl rfl ?_
     refine St.gOff (dj := 30) rfl rfl rfl rfl ?_
     refine St.p rfl rfl ?_
     refine St.p rfl rfl ?_
     refine St.gOff (dj := 36) rfl rfl rfl rfl ?_
     refine St.gOff (dj := 36) rfl rfl rfl rfl ?_
     refine St.gOff (dj := 36) rfl rfl rfl rfl ?_
     refine St.p rfl rfl ?_
     refine St.p rfl rfl ?_
     refine St.gOff (dj := 41) rfl rfl rfl rfl ?_
     refine St.gOff (dj := 41) rfl rfl rfl rfl ?_
     refine St.gOff (dj := 41) rfl rfl rfl rfl ?_
     refine St.p rfl rfl ?_
     refine St.p rfl rfl ?_
     refine St.done ?_
     injection hj1 with hj1
     subst hj1
     refine St.thenN ?_
     exact St.hereE () ⟨rfl, trivial⟩ (fun _ w => ((.d (.d (.d (.d .z)))) : Keep _ _).sat w)
   ·replace hj1 := bif_f hb2 hj1
    refine St.gOff (dj := 25) rfl rfl rfl rfl ?_
    refine St.gOff (dj := 25) rfl rfl rfl rfl ?_
    refine St.gOff (dj := 25) rfl rfl rfl rfl ?_
    refine St.p rfl rfl ?_
    refine St.p rfl rfl ?_
    refine St.gOff (dj := 30) rfl rfl rfl rfl ?_
    refine St.gOff (dj := 30) rfl rfl rfl rfl ?_
    refine St.gOff (dj := 30) rfl rfl rfl rfl ?_
    refine St.gOff (dj := 30) rfl rfl rfl rfl ?_
    refine St.p rfl rfl ?_
    refine St.p rfl rfl ?_
    refine St.gOff (dj := 36) rfl rfl rfl rfl ?_
    refine St.gOff (dj := 36) rfl rfl rfl rfl ?_
    refine St.gOff (dj := 36) rfl rfl rfl rfl ?_
    refine St.p rfl rfl ?_
    refine St.p rfl rfl ?_
    refine St.gOff (dj := 41) rfl rfl rfl rfl ?_
    refine St.gOff (dj := 41) rfl rfl rfl rfl ?_
    refine St.gOff (dj := 41) rfl rfl rfl rfl ?_
    refine St.p rfl rfl ?_
    refine St.p rfl rfl ?_
    refine St.done ?_
    injection hj1 with hj1
    subst hj1
    refine St.thenN ?_
    exact St.hereE () ⟨rfl, trivial⟩ (fun _ w => ((.d (.d (.d (.d .z)))) : Keep _ _).sat w)
  ·replace hj1 := bif_f hb1 hj1
   refine St.gOff (dj := 21) rfl rfl rfl rfl ?_
   refine St.gOff (dj := 21) rfl rfl rfl rfl ?_
   refine St.p rfl rfl ?_
   refine St.p rfl rfl ?_
   refine St.gOff (dj := 25) rfl rfl rfl rfl ?_
   refine St.gOff (dj := 25) rfl rfl rfl rfl ?_
   refine St.gOff (dj := 25) rfl rfl rfl rfl ?_
   refine St.p rfl rfl ?_
   refine St.p rfl rfl ?_
   refine St.gOff (dj := 30) rfl rfl rfl rfl ?_
   refine St.gOff (dj := 30) rfl rfl rfl rfl ?_
   refine St.gOff (dj := 30) rfl rfl rfl rfl ?_
   refine St.gOff (dj := 30) rfl rfl rfl rfl ?_
   refine St.p rfl rfl ?_
   refine St.p rfl rfl ?_
   refine St.gOff (dj := 36) rfl rfl rfl rfl ?_
   refine St.gOff (dj := 36) rfl rfl rfl rfl ?_
   refine St.gOff (dj := 36) rfl rfl rfl rfl ?_
   refine St.p rfl rfl ?_
   refine St.p rfl rfl ?_
   refine St.gOff (dj := 41) rfl rfl rfl rfl ?_
   refine St.gOff (dj := 41) rfl rfl rfl rfl ?_
   refine St.gOff (dj := 41) rfl rfl rfl rfl ?_
   refine St.p rfl rfl ?_
   refine St.p rfl rfl ?_
   refine St.done ?_
   injection hj1 with hj1
   subst hj1
   refine St.thenN ?_
   exact St.hereE () ⟨rfl, trivial⟩ (fun _ w => ((.d (.d (.d (.d .z)))) : Keep _ _).sat w)
 ·rintro e1
  refine St.ret ?_
  repeat (first | refine St.thenR ?_ | refine St.blkR ?_)
  injection h with h
  subst h
  exact St.finR Try.results7 (.tmp rfl .nil) rfl [] ⟨rfl, rfl⟩ (fun _ w => (.z : Keep _ _).sat w)

theorem ent9 : Ent Try.prog 9 := ⟨_, Try.func9, by kernel_rfl, by kernel_rfl⟩

noncomputable def m_field_New (l_p0 : (List Int)) (most : Int) : Option T_Codes :=
 bnd (sub l_p0 0 (min (l_p0.length : Int) most)) fun l1 => some (⟨l1, 0⟩ : T_Codes)

theorem c_field_New {l_p0 : (List Int)} {most : Int} {A1 : Option Addr} {c1 : Nat} {r : T_Codes} (h : m_field_New l_p0 most = some r) :
  Fun Try.prog 9 [.slice A1 l_p0.length c1, .int .i64 most] [.ro (SlL eu8 A1 c1 l_p0)] (fun v_ F_ => ∃ (g1 : Nat) (A1 : Option Addr) (c1 : Nat), v_ = .pointer (some ⟨g1, 0, none⟩) ∧ F_ = [.ro (SlL eu8 A1 c1 r.L), .res (Box g1 59 [.slice A1 r.L.length c1, .int .i64 r.At])]) := by
 unfold m_field_New at h
 refine Fun.intro Try.func9 rfl rfl rfl fun w R => ?_
 refine St.seq ?_
 refine St.region ?_
 refine St.p rfl rfl ?_
 refine St.done ?_
 refine St.thenN ?_
 refine St.prune (Γ' := [(0, _), (1, _)]) ⟨rfl, rfl, trivial⟩ (.k .z) ?_
 refine St.seq ?_
 refine St.region ?_
 iterate 5 refine St.p rfl rfl ?_
 obtain ⟨l1, hl1, h⟩ := bnd_e h
 refine St.sub (E := (cod eu8)) rfl rfl (.head _) rfl rfl rfl rfl rfl rfl rfl hl1 fun A2 c2 => ?_
 refine St.p rfl rfl ?_
 refine St.box rfl rfl fun g1 => ?_
 refine St.p rfl rfl ?_
 refine St.done ?_
 refine St.thenN ?_
 refine St.prune (Γ' := [(4, _)]) ⟨rfl, trivial⟩ (.k (.k (.d .z))) ?_
 refine St.ret ?_
 repeat (first | refine St.thenR ?_ | refine St.blkR ?_)
 injection h with h
 subst h
 exact St.finR Try.results9 (.tmp rfl .nil) rfl [.ro (SlL eu8 A2 c2 l1), .res (Box g1 59 [.slice A2 l1.length c2, .int .i64 0])] ⟨g1, A2, c2, rfl, rfl⟩ (fun _ w => ((.k (.k (.d .z))) : Keep _ _).sat (Sat.dup (G := [.ro (SlL eu8 A2 c2 l1)]) rfl ⟨(.tail _ (.head _)), trivial⟩ w))

theorem ent26 : Ent Try.prog 26 := ⟨_, Try.func26, by kernel_rfl, by kernel_rfl⟩

noncomputable def m_field_names  : Option (List ByteArray) :=
 some ([⟨#[98, 105, 111, 115]⟩, ⟨#[99, 112, 108, 100]⟩, ⟨#[109, 101]⟩, ⟨#[112, 115, 117]⟩, ⟨#[120, 45, 49]⟩, ⟨#[122, 122]⟩])

theorem c_field_names  {r : (List ByteArray)} (h : m_field_names = some r) :
  Fun Try.prog 26 [] [] (fun v_ F_ => ∃ (A1 : Option Addr) (c1 : Nat), v_ = .slice A1 r.length c1 ∧ F_ = [.res (OwnL estr 9 A1 c1 r)]) := by
 unfold m_field_names at h
 refine Fun.intro Try.func26 rfl rfl rfl fun w R => ?_
 refine St.seq ?_
 refine St.region ?_
 refine St.p rfl rfl ?_
 refine St.done ?_
 refine St.thenN ?_
 refine St.prune (Γ' := []) trivial .z ?_
 refine St.seq ?_
 refine St.region ?_
 refine St.buildSlice rfl rfl rfl rfl rfl rfl rfl rfl fun g1 => ?_
 refine St.p rfl rfl ?_
 refine St.done ?_
 refine St.thenN ?_
 refine St.prune (Γ' := [(0, _)]) ⟨rfl, trivial⟩ (.k .z) ?_
 refine St.ret ?_
 repeat (first | refine St.thenR ?_ | refine St.blkR ?_)
 refine St.asrt (fun _ w => (w.front .z).litL (E := estr) (e := 9) [⟨#[98, 105, 111, 115]⟩, ⟨#[99, 112, 108, 100]⟩, ⟨#[109, 101]⟩, ⟨#[112, 115, 117]⟩, ⟨#[120, 45, 49]⟩, ⟨#[122, 122]⟩] rfl rfl) ?_
 injection h with h
 subst h
 exact St.finR Try.results26 (.tmp rfl .nil) rfl [.res (OwnL estr 9 (some ⟨g1, 0, none⟩) ([⟨#[98, 105, 111, 115]⟩, ⟨#[99, 112, 108, 100]⟩, ⟨#[109, 101]⟩, ⟨#[112, 115, 117]⟩, ⟨#[120, 45, 49]⟩, ⟨#[122, 122]⟩] : List ByteArray).length ([⟨#[98, 105, 111, 115]⟩, ⟨#[99, 112, 108, 100]⟩, ⟨#[109, 101]⟩, ⟨#[112, 115, 117]⟩, ⟨#[120, 45, 49]⟩, ⟨#[122, 122]⟩]))] ⟨(some ⟨g1, 0, none⟩), ([⟨#[98, 105, 111, 115]⟩, ⟨#[99, 112, 108, 100]⟩, ⟨#[109, 101]⟩, ⟨#[112, 115, 117]⟩, ⟨#[120, 45, 49]⟩, ⟨#[122, 122]⟩] : List ByteArray).length, rfl, rfl⟩ (fun _ w => ((.k .z) : Keep _ _).sat w)

theorem ent58 : Ent Try.prog 58 := ⟨_, Try.func58, by kernel_rfl, by kernel_rfl⟩

noncomputable def m_field_Codes_Left (c_p0 : T_Codes) : Option Bool :=
 some (decide (c_p0.At < (c_p0.L.length : Int)))

theorem c_field_Codes_Left {c_p0 : T_Codes} {A1 : Option Addr} {c1 : Nat} {gb1 : Nat} {r : Bool} (h : m_field_Codes_Left c_p0 = some r) :
  Fun Try.prog 58 [.pointer (some ⟨gb1, 0, none⟩)] [.ro (SlL eu8 A1 c1 c_p0.L), .res (Box gb1 59 [.slice A1 c_p0.L.length c1, .int .i64 c_p0.At])] (fun v_ F_ => v_ = .bool r ∧ F_ = [.res (Box gb1 59 [.slice A1 c_p0.L.length c1, .int .i64 c_p0.At])]) := by
 unfold m_field_Codes_Left at h
 refine Fun.intro Try.func58 rfl rfl rfl fun w R => ?_
 refine St.seq ?_
 refine St.region ?_
 refine St.p rfl rfl ?_
 refine St.done ?_
 refine St.thenN ?_
 refine St.prune (Γ' := [(0, _)]) ⟨rfl, trivial⟩ (.k (.k .z)) ?_
 refine St.seq ?_
 refine St.regionF mixed (by kernel_rfl) ?_
 iterate 3 refine St.p rfl rfl ?_
 refine St.loadB 1 rfl rfl (.tail _ (.head _)) rfl rfl ?_
 iterate 3 refine St.p rfl rfl ?_
 refine St.loadB 0 rfl rfl (.tail _ (.head _)) rfl rfl ?_
 iterate 3 refine St.p rfl rfl ?_
 refine St.doneQ ?_
 refine St.thenN ?_
 refine St.prune (Γ' := [(2, _)]) ⟨rfl, trivial⟩ (.k (.k .z)) ?_
 refine St.ret ?_
 repeat (first | refine St.thenR ?_ | refine St.blkR ?_)
 injection h with h
 subst h
 exact St.finR Try.results58 (.tmp rfl .nil) rfl [.res (Box gb1 59 [.slice A1 c_p0.L.length c1, .int .i64 c_p0.At])] ⟨rfl, rfl⟩ (fun _ w => ((.k (.d .z)) : Keep _ _).sat (w.front (.s .z)))

theorem ent27 : Ent Try.prog 27 := ⟨_, Try.func27, by kernel_rfl, by kernel_rfl⟩

noncomputable def m_field_Codes_Next (c_p0 : T_Codes) (n_p1 : Int) : Option (T_Codes × Int) :=
 bnd ((bnd (m_field_Codes_Left c_p0) fun r1 => bif !r1 then (some true) else (some (decide (n_p1 < 1))) : Option Bool)) fun o1 => bif o1 then (some (c_p0, 0)) else (bnd (elt c_p0.L c_p0.At) fun x1 => bnd ((bif decide (n_p1 > 256) then (bnd (m_field_Codes_Left (⟨c_p0.L, IntKind.wrap .i64 (c_p0.At + 1)⟩ : T_Codes)) fun r2 => some r2) else (some false) : Option Bool)) fun o2 => bif o2 then (bnd (elt c_p0.L (IntKind.wrap .i64 (c_p0.At + 1))) fun x2 => bnd (remM (iOr .i64 (IntKind.wrap .i64 x1) (iShl .i64 (IntKind.wrap .i64 x2) 8)) n_p1) fun q1 => some ((⟨c_p0.L, IntKind.wrap .i64 ((IntKind.wrap .i64 (c_p0.At + 1)) + 1)⟩ : T_Codes), q1)) else (bnd (remM (IntKind.wrap .i64 x1) n_p1) fun q2 => some ((⟨c_p0.L, IntKind.wrap .i64 (c_p0.At + 1)⟩ : T_Codes), q2)))

theorem c_field_Codes_Next {c_p0 : T_Codes} {n_p1 : Int} {A1 : Option Addr} {c1 : Nat} {gb1 : Nat} {r : (T_Codes × Int)} (h : m_field_Codes_Next c_p0 n_p1 = some r) :
  Fun Try.prog 27 [.pointer (some ⟨gb1, 0, none⟩), .int .i64 n_p1] [.ro (SlL eu8 A1 c1 c_p0.L), .res (Box gb1 59 [.slice A1 c_p0.L.length c1, .int .i64 c_p0.At])] (fun v_ F_ => ∃ (A1 : Option Addr) (c1 : Nat), v_ = .int .i64 r.2 ∧ F_ = [.ro (SlL eu8 A1 c1 r.1.L), .res (Box gb1 59 [.slice A1 r.1.L.length c1, .int .i64 r.1.At])]) := by
 unfold m_field_Codes_Next at h
 refine Fun.intro Try.func27 rfl rfl rfl fun w R => ?_
 refine St.seq ?_
 refine St.region ?_
 refine St.p rfl rfl ?_
 refine St.done ?_
 refine St.thenN ?_
 refine St.prune (Γ' := [(0, _), (1, _)]) ⟨rfl, rfl, trivial⟩ (.k (.k .z)) ?_
 refine St.seq ?_
 refine St.seq ?_
 obtain ⟨o1, hj1, h⟩ := bnd_e h
 refine St.cutE (fun (e1 : Unit) => [(0, .pointer (some ⟨gb1, 0, none⟩)), (1, .int .i64 n_p1), (12, .bool o1)]) (fun e1 => .ro (SlL eu8 A1 c1 c_p0.L) :: .res (Box gb1 59 [.slice A1 c_p0.L.length c1, .int .i64 c_p0.At]) :: R) ?_ ?_
 ·refine St.region ?_
  refine St.p rfl rfl ?_
  obtain ⟨r1, hr1, hj1⟩ := bnd_e hj1
  refine St.call (c_field_Codes_Left hr1) ent58 rfl rfl rfl (fun _ w => Sat.dup (G := [.ro (SlL eu8 A1 c1 c_p0.L)]) rfl ⟨(.tail _ (.head _)), trivial⟩ (w.front (.s .z))) ?_
  rintro _ _ ⟨rfl, rfl⟩
  refine St.asrt (F' := .res (Box gb1 59 [.slice A1 c_p0.L.length c1, .int .i64 c_p0.At]) :: .ro (SlL eu8 A1 c1 c_p0.L) :: R) (fun _ w => w) ?_
  refine St.p rfl rfl ?_
  refine St.p rfl rfl ?_
  refine St.gSplit (dj := 9) _ rfl (fun hb1 => ?_) (fun hb1 => ?_)
  ·replace hj1 := bif_t hb1 hj1
   refine St.gOff (dj := 9) rfl rfl rfl rfl ?_
   refine St.gOff (dj := 9) rfl rfl rfl rfl ?_
   refine St.p rfl rfl ?_
   refine St.done ?_
   injection hj1 with hj1
   subst hj1
   refine St.thenN ?_
   exact St.hereE () ⟨rfl, rfl, rfl, trivial⟩ (fun _ w => ((.k (.k .z)) : Keep _ _).sat ((w.front .z).front (.s .z)))
  ·replace hj1 := bif_f hb1 hj1
   refine St.gOn (dj := 9) rfl rfl ?_
   refine St.p rfl rfl ?_
   refine St.gOn (dj := 9) rfl rfl ?_
   refine St.p rfl rfl ?_
   refine St.p rfl rfl ?_
   refine St.done ?_
   injection hj1 with hj1
   subst hj1
   refine St.thenN ?_
   exact St.hereE () ⟨rfl, rfl, rfl, trivial⟩ (fun _ w => ((.k (.k .z)) : Keep _ _).sat ((w.front .z).front (.s .z)))
 ·rintro e1
  refine St.cond _ rfl (fun hb2 => ?_) (fun hb2 => ?_)
  ·replace h := bif_t hb2 h
   refine St.seq ?_
   refine St.region ?_
   refine St.p rfl rfl ?_
   refine St.done ?_
   refine St.thenN ?_
   refine St.prune (Γ' := [(4, _)]) ⟨rfl, trivial⟩ (.k (.k .z)) ?_
   refine St.ret ?_
   repeat (first | refine St.thenR ?_ | refine St.blkR ?_)
   injection h with h
   subst h
   exact St.finR Try.results27 (.tmp rfl .nil) rfl [.ro (SlL eu8 A1 c1 c_p0.L), .res (Box gb1 59 [.slice A1 c_p0.L.length c1, .int .i64 c_p0.At])] ⟨A1, c1, rfl, rfl⟩ (fun _ w => ((.k (.k (.d .z))) : Keep _ _).sat (Sat.dup (G := [.ro (SlL eu8 A1 c1 c_p0.L)]) rfl ⟨(.tail _ (.head _)), trivial⟩ (w.front (.s .z))))
  ·replace h := bif_f hb2 h
   refine St.skip ?_
   refine St.thenN ?_
   refine St.prune (Γ' := [(0, _), (1, _)]) ⟨rfl, rfl, trivial⟩ (.k (.k .z)) ?_
   refine St.seq ?_
   refine St.regionF mixed (by kernel_rfl) ?_
   iterate 3 refine St.p rfl rfl ?_
   refine St.loadB 0 rfl rfl (.tail _ (.head _)) rfl rfl ?_
   iterate 3 refine St.p rfl rfl ?_
   refine St.loadB 1 rfl rfl (.tail _ (.head _)) rfl rfl ?_
   obtain ⟨x1, hx1, h⟩ := bnd_e h
   refine St.ixL hx1 rfl rfl rfl (.head _) rfl rfl rfl rfl rfl fun b1 ob1 => ?_
   refine St.load ob1 0 rfl rfl (.head _) rfl rfl ?_
   refine St.p rfl rfl ?_
   refine St.p rfl rfl ?_
   refine St.doneQ ?_
   refine St.thenN ?_
   refine St.prune (Γ' := [(0, _), (1, _), (5, _)]) ⟨rfl, rfl, rfl, trivial⟩ (.d (.k (.k .z))) ?_
   refine St.seq ?_
   refine St.region ?_
   iterate 3 refine St.p rfl rfl ?_
   refine St.loadB 1 rfl rfl (.tail _ (.head _)) rfl rfl ?_
   iterate 3 refine St.p rfl rfl ?_
   refine St.store 1 rfl rfl rfl rfl rfl rfl (.s .z) rfl ?_
   refine St.done ?_
   refine St.thenN ?_
   refine St.prune (Γ' := [(0, _), (1, _), (5, _)]) ⟨rfl, rfl, rfl, trivial⟩ (.k (.k .z)) ?_
   refine St.seq ?_
   refine St.seq ?_
   obtain ⟨o2, hj2, h⟩ := bnd_e h
   refine St.cutE (fun (e2 : Unit) => [(0, .pointer (some ⟨gb1, 0, none⟩)), (1, .int .i64 n_p1), (5, .int .i64 (IntKind.wrap .i64 x1)), (36, .bool o2)]) (fun e2 => .res (Box gb1 59 [.slice A1 c_p0.L.length c1, .int .i64 (IntKind.wrap .i64 (c_p0.At + 1))]) :: .ro (SlL eu8 A1 c1 c_p0.L) :: R) ?_ ?_
   ·refine St.region ?_
    iterate 3 refine St.p rfl rfl ?_
    refine St.gSplit (dj := 33) _ rfl (fun hb3 => ?_) (fun hb3 => ?_)
    ·replace hj2 := bif_t hb3 hj2
     refine St.gOn (dj := 33) rfl rfl ?_
     refine St.p rfl rfl ?_
     refine St.gOn (dj := 33) rfl rfl ?_
     obtain ⟨r2, hr2, hj2⟩ := bnd_e hj2
     refine St.call (c_field_Codes_Left hr2) ent58 rfl rfl rfl (fun _ w => Sat.dup (G := [.ro (SlL eu8 A1 c1 c_p0.L)]) rfl ⟨(.tail _ (.head _)), trivial⟩ (w.front .z)) ?_
     rintro _ _ ⟨rfl, rfl⟩
     refine St.asrt (F' := .res (Box gb1 59 [.slice A1 c_p0.L.length c1, .int .i64 (IntKind.wrap .i64 (c_p0.At + 1))]) :: .ro (SlL eu8 A1 c1 c_p0.L) :: R) (fun _ w => w) ?_
     refine St.p rfl rfl ?_
     refine St.done ?_
     injection hj2 with hj2
     subst hj2
     refine St.thenN ?_
     exact St.hereE () ⟨rfl, rfl, rfl, rfl, trivial⟩ (fun _ w => ((.k (.k .z)) : Keep _ _).sat w)
    ·replace hj2 := bif_f hb3 hj2
     refine St.gOff (dj := 33) rfl rfl rfl rfl ?_
     refine St.gOff (dj := 33) rfl rfl rfl rfl ?_
     refine St.p rfl rfl ?_
     refine St.done ?_
     injection hj2 with hj2
     subst hj2
     refine St.thenN ?_
     exact St.hereE () ⟨rfl, rfl, rfl, rfl, trivial⟩ (fun _ w => ((.k (.k .z)) : Keep _ _).sat w)
   ·rintro e2
    refine St.cond _ rfl (fun hb4 => ?_) (fun hb4 => ?_)
    ·replace h := bif_t hb4 h
     refine St.seq ?_
     refine St.regionF mixed (by kernel_rfl) ?_
     iterate 4 refine St.p rfl rfl ?_
     refine St.loadB 0 rfl rfl (.head _) rfl rfl ?_
     iterate 3 refine St.p rfl rfl ?_
     refine St.loadB 1 rfl rfl (.head _) rfl rfl ?_
     obtain ⟨x2, hx2, h⟩ := bnd_e h
     refine St.ixL hx2 rfl rfl rfl (.tail _ (.head _)) rfl rfl rfl rfl rfl fun b2 ob2 => ?_
     refine St.load ob2 0 rfl rfl (.head _) rfl rfl ?_
     iterate 4 refine St.p rfl rfl ?_
     refine St.doneQ ?_
     refine St.thenN ?_
     refine St.prune (Γ' := [(0, _), (1, _), (5, _)]) ⟨rfl, rfl, rfl, trivial⟩ (.d (.k (.k .z))) ?_
     refine St.region ?_
     iterate 3 refine St.p rfl rfl ?_
     refine St.loadB 1 rfl rfl (.head _) rfl rfl ?_
     iterate 3 refine St.p rfl rfl ?_
     refine St.store 1 rfl rfl rfl rfl rfl rfl .z rfl ?_
     refine St.done ?_
     refine St.thenN ?_
     refine St.prune (Γ' := [(1, _), (5, _)]) ⟨rfl, rfl, trivial⟩ (.k (.k .z)) ?_
     refine St.seq ?_
     refine St.region ?_
     refine St.p rfl rfl ?_
     refine St.p rfl rfl ?_
     obtain ⟨q1, hq1, h⟩ := bnd_e h
     refine St.rem rfl rfl rfl hq1 ?_
     refine St.p rfl rfl ?_
     refine St.done ?_
     refine St.thenN ?_
     refine St.prune (Γ' := [(4, _)]) ⟨rfl, trivial⟩ (.k (.k .z)) ?_
     refine St.ret ?_
     repeat (first | refine St.thenR ?_ | refine St.blkR ?_)
     injection h with h
     subst h
     exact St.finR Try.results27 (.tmp rfl .nil) rfl [.ro (SlL eu8 A1 c1 c_p0.L), .res (Box gb1 59 [.slice A1 c_p0.L.length c1, .int .i64 (IntKind.wrap .i64 ((IntKind.wrap .i64 (c_p0.At + 1)) + 1))])] ⟨A1, c1, rfl, rfl⟩ (fun _ w => ((.k (.k (.d .z))) : Keep _ _).sat (Sat.dup (G := [.ro (SlL eu8 A1 c1 c_p0.L)]) rfl ⟨(.tail _ (.head _)), trivial⟩ w))
    ·replace h := bif_f hb4 h
     refine St.skip ?_
     refine St.thenN ?_
     refine St.prune (Γ' := [(1, _), (5, _)]) ⟨rfl, rfl, trivial⟩ (.k (.k .z)) ?_
     refine St.seq ?_
     refine St.region ?_
     refine St.p rfl rfl ?_
     refine St.p rfl rfl ?_
     obtain ⟨q2, hq2, h⟩ := bnd_e h
     refine St.rem rfl rfl rfl hq2 ?_
     refine St.p rfl rfl ?_
     refine St.done ?_
     refine St.thenN ?_
     refine St.prune (Γ' := [(4, _)]) ⟨rfl, trivial⟩ (.k (.k .z)) ?_
     refine St.ret ?_
     repeat (first | refine St.thenR ?_ | refine St.blkR ?_)
     injection h with h
     subst h
     exact St.finR Try.results27 (.tmp rfl .nil) rfl [.ro (SlL eu8 A1 c1 c_p0.L), .res (Box gb1 59 [.slice A1 c_p0.L.length c1, .int .i64 (IntKind.wrap .i64 (c_p0.At + 1))])] ⟨A1, c1, rfl, rfl⟩ (fun _ w => ((.k (.k (.d .z))) : Keep _ _).sat (Sat.dup (G := [.ro (SlL eu8 A1 c1 c_p0.L)]) rfl ⟨(.tail _ (.head _)), trivial⟩ w))

theorem ent59 : Ent Try.prog 59 := ⟨_, Try.func59, by kernel_rfl, by kernel_rfl⟩

noncomputable def m_field_Codes_plain (c_p0 : T_Codes) : Option (T_Codes × T_Version) :=
 bnd (m_field_Codes_Next c_p0 3) fun r1 => bnd (m_field_Codes_Next r1.1 5) fun r2 => some (r2.1, (⟨IntKind.wrap .i64 (1 + r1.2), IntKind.wrap .i64 (r2.2.tdiv 4), 0⟩ : T_Version))

theorem c_field_Codes_plain {c_p0 : T_Codes} {A1 : Option Addr} {c1 : Nat} {gb1 : Nat} {r : (T_Codes × T_Version)} (h : m_field_Codes_plain c_p0 = some r) :
  Fun Try.prog 59 [.pointer (some ⟨gb1, 0, none⟩)] [.ro (SlL eu8 A1 c1 c_p0.L), .res (Box gb1 59 [.slice A1 c_p0.L.length c1, .int .i64 c_p0.At])] (fun v_ F_ => ∃ (A1 : Option Addr) (c1 : Nat), v_ = .agg #[.int .i64 r.2.Major, .int .i64 r.2.Minor, .int .i64 r.2.Patch] ∧ F_ = [.ro (SlL eu8 A1 c1 r.1.L), .res (Box gb1 59 [.slice A1 r.1.L.length c1, .int .i64 r.1.At])]) := by
 unfold m_field_Codes_plain at h
 refine Fun.intro Try.func59 rfl rfl rfl fun w R => ?_
 refine St.seq ?_
 refine St.region ?_
 refine St.alloc rfl rfl fun g1 => ?_
 refine St.done ?_
 refine St.thenN ?_
 refine St.seq ?_
 refine St.region ?_
 refine St.p rfl rfl ?_
 obtain ⟨r1, hr1, h⟩ := bnd_e h
 refine St.call (c_field_Codes_Next hr1) ent27 rfl rfl rfl (fun _ w => Sat.dup (G := [.ro (SlL eu8 A1 c1 c_p0.L)]) rfl ⟨(.tail _ (.tail _ (.head _))), trivial⟩ (w.front (.s (.s .z)))) ?_
 rintro _ _ ⟨A2, c2, rfl, rfl⟩
 refine St.asrt (F' := .ro (SlL eu8 A2 c2 r1.1.L) :: .res (Box gb1 59 [.slice A2 r1.1.L.length c2, .int .i64 r1.1.At]) :: .res (Box g1 39 [.int .i64 0, .int .i64 0, .int .i64 0]) :: .ro (SlL eu8 A1 c1 c_p0.L) :: R) (fun _ w => w) ?_
 refine St.p rfl rfl ?_
 refine St.p rfl rfl ?_
 obtain ⟨r2, hr2, h⟩ := bnd_e h
 refine St.call (c_field_Codes_Next hr2) ent27 rfl rfl rfl (fun _ w => Sat.dup (G := [.ro (SlL eu8 A2 c2 r1.1.L)]) rfl ⟨(.tail _ (.head _)), trivial⟩ (w.front (.s .z))) ?_
 rintro _ _ ⟨A3, c3, rfl, rfl⟩
 refine St.asrt (F' := .ro (SlL eu8 A3 c3 r2.1.L) :: .res (Box gb1 59 [.slice A3 r2.1.L.length c3, .int .i64 r2.1.At]) :: .ro (SlL eu8 A2 c2 r1.1.L) :: .res (Box g1 39 [.int .i64 0, .int .i64 0, .int .i64 0]) :: .ro (SlL eu8 A1 c1 c_p0.L) :: R) (fun _ w => w) ?_
 refine St.p rfl rfl ?_
 refine St.p rfl rfl ?_
 refine St.store 0 rfl rfl rfl rfl rfl rfl (.s (.s (.s .z))) rfl ?_
 refine St.done ?_
 refine St.thenN ?_
 refine St.prune (Γ' := [(2, _)]) ⟨rfl, trivial⟩ (.k (.k (.k (.d (.d .z))))) ?_
 refine St.ret ?_
 repeat (first | refine St.thenR ?_ | refine St.blkR ?_)
 injection h with h
 subst h
 exact St.finR Try.results59 (.cell rfl (.head _) rfl .nil) rfl [.ro (SlL eu8 A3 c3 r2.1.L), .res (Box gb1 59 [.slice A3 r2.1.L.length c3, .int .i64 r2.1.At])] ⟨A3, c3, rfl, rfl⟩ (fun _ w => ((.k (.k (.d (.d .z)))) : Keep _ _).sat (Sat.dup (G := [.ro (SlL eu8 A3 c3 r2.1.L)]) rfl ⟨(.tail _ (.tail _ (.head _))), trivial⟩ (w.front (.s (.s .z)))))

theorem ent60 : Ent Try.prog 60 := ⟨_, Try.func60, by kernel_rfl, by kernel_rfl⟩

noncomputable def m_field_Codes_Bytes (c_p0 : T_Codes) (n_p1 : Int) : Option (T_Codes × (List Int)) :=
 bnd (m_field_Codes_Next c_p0 (IntKind.wrap .i64 (n_p1 + 1))) fun r1 => bnd (loopM (τ := List Int × List Int × Int) (fun (s1 : List Int × Int × List Int × Int) => bif decide (s1.2.1 > 0) then (bnd (m_field_Codes_Next (⟨s1.2.2.1, s1.2.2.2⟩ : T_Codes) 256) fun r2 => bnd (app 1 s1.1 [IntKind.wrap .u8 r2.2]) fun l1 => some (.next (l1, IntKind.wrap .i64 (s1.2.1 - 1), r2.1.L, r2.1.At))) else (some (.done (s1.1, s1.2.2.1, s1.2.2.2)))) ([], r1.2, r1.1.L, r1.1.At)) fun o1 => some ((⟨o1.2.1, o1.2.2⟩ : T_Codes), o1.1)

theorem c_field_Codes_Bytes {c_p0 : T_Codes} {n_p1 : Int} {A1 : Option Addr} {c1 : Nat} {gb1 : Nat} {r : (T_Codes × (List Int))} (h : m_field_Codes_Bytes c_p0 n_p1 = some r) :
  Fun Try.prog 60 [.pointer (some ⟨gb1, 0, none⟩), .int .i64 n_p1] [.ro (SlL eu8 A1 c1 c_p0.L), .res (Box gb1 59 [.slice A1 c_p0.L.length c1, .int .i64 c_p0.At])] (fun v_ F_ => ∃ (A1 : Option Addr) (c1 : Nat) (A2 : Option Addr) (c2 : Nat), v_ = .slice A2 r.2.length c2 ∧ F_ = [.ro (SlL eu8 A1 c1 r.1.L), .res (Box gb1 59 [.slice A1 r.1.L.length c1, .int .i64 r.1.At]), .res (OwnL eu8 5 A2 c2 r.2)]) := by
 unfold m_field_Codes_Bytes at h
 refine Fun.intro Try.func60 rfl rfl rfl fun w R => ?_
 refine St.seq ?_
 refine St.region ?_
 refine St.p rfl rfl ?_
 refine St.done ?_
 refine St.thenN ?_
 refine St.prune (Γ' := [(0, _), (1, _)]) ⟨rfl, rfl, trivial⟩ (.k (.k .z)) ?_
 refine St.seq ?_
 refine St.region ?_
 refine St.p rfl rfl ?_
 refine St.done ?_
 refine St.thenN ?_
 refine St.seq ?_
 refine St.seq ?_
 refine St.region ?_
 iterate 3 refine St.p rfl rfl ?_
 obtain ⟨r1, hr1, h⟩ := bnd_e h
 refine St.call (c_field_Codes_Next hr1) ent27 rfl rfl rfl (fun _ w => Sat.dup (G := [.ro (SlL eu8 A1 c1 c_p0.L)]) rfl ⟨(.tail _ (.head _)), trivial⟩ (w.front (.s .z))) ?_
 rintro _ _ ⟨A2, c2, rfl, rfl⟩
 refine St.asrt (F' := .ro (SlL eu8 A2 c2 r1.1.L) :: .res (Box gb1 59 [.slice A2 r1.1.L.length c2, .int .i64 r1.1.At]) :: .ro (SlL eu8 A1 c1 c_p0.L) :: R) (fun _ w => w) ?_
 refine St.p rfl rfl ?_
 refine St.done ?_
 refine St.thenN ?_
 refine St.prune (Γ' := [(0, _), (5, _), (6, _)]) ⟨rfl, rfl, rfl, trivial⟩ (.k (.k (.d .z))) ?_
 refine St.asrt (fun _ w => w.nilL eu8 5) ?_
 obtain ⟨o1, hl1, h⟩ := bnd_e h
 refine St.cutE (fun (e2 : Option Addr × Nat × Option Addr × Nat) => [(5, .slice e2.1 o1.1.length e2.2.1)]) (fun e2 => .ro (SlL eu8 e2.2.2.1 e2.2.2.2 o1.2.1) :: .res (OwnL eu8 5 e2.1 e2.2.1 o1.1) :: .res (Box gb1 59 [.slice e2.2.2.1 o1.2.1.length e2.2.2.2, .int .i64 o1.2.2]) :: R) ?_ ?_
 ·refine St.block ?_
  refine St.loop hl1 (fun (s1 : List Int × Int × List Int × Int) (e1 : Option Addr × Nat × Option Addr × Nat) => [(0, .pointer (some ⟨gb1, 0, none⟩)), (5, .slice e1.1 s1.1.length e1.2.1), (6, .int .i64 s1.2.1)]) (fun s1 e1 => .ro (SlL eu8 e1.2.2.1 e1.2.2.2 s1.2.2.1) :: .res (OwnL eu8 5 e1.1 e1.2.1 s1.1) :: .res (Box gb1 59 [.slice e1.2.2.1 s1.2.2.1.length e1.2.2.2, .int .i64 s1.2.2.2]) :: R) (fun _ _ => True) (none, 0, A2, c2) trivial ⟨rfl, rfl, rfl, trivial⟩ (fun _ w => ((.k (.k (.k .z))) : Keep _ _).sat (((w.front (.s (.s .z))).front (.s .z)).front (.s (.s .z)))) ?_
  rintro s1 ⟨A3, c3, A4, c4⟩ - hit1
  obtain ⟨st1, hm1, hd1⟩ := iter_e hit1
  have h1 := hm1
  refine St.seq ?_
  refine St.seq ?_
  refine St.region ?_
  refine St.p rfl rfl ?_
  refine St.p rfl rfl ?_
  refine St.done ?_
  refine St.thenN ?_
  refine St.prune (Γ' := [(0, _), (5, _), (6, _), (12, _)]) ⟨rfl, rfl, rfl, rfl, trivial⟩ (.k (.k (.k .z))) ?_
  refine St.cond _ rfl (fun hb1 => ?_) (fun hb1 => ?_)
  ·replace h1 := bif_t hb1 h1
   refine St.skip ?_
   refine St.thenN ?_
   refine St.prune (Γ' := [(0, _), (5, _), (6, _)]) ⟨rfl, rfl, rfl, trivial⟩ (.k (.k (.k .z))) ?_
   refine St.seq ?_
   refine St.block ?_
   refine St.region ?_
   refine St.p rfl rfl ?_
   refine St.p rfl rfl ?_
   obtain ⟨r2, hr2, h1⟩ := bnd_e h1
   refine St.call (c_field_Codes_Next hr2) ent27 rfl rfl rfl (fun _ w => Sat.dup (G := [.ro (SlL eu8 A4 c4 s1.2.2.1)]) rfl ⟨(.tail _ (.head _)), trivial⟩ (w.front (.s (.s .z)))) ?_
   rintro _ _ ⟨A7, c7, rfl, rfl⟩
   refine St.asrt (F' := .ro (SlL eu8 A7 c7 r2.1.L) :: .res (Box gb1 59 [.slice A7 r2.1.L.length c7, .int .i64 r2.1.At]) :: .ro (SlL eu8 A4 c4 s1.2.2.1) :: .res (OwnL eu8 5 A3 c3 s1.1) :: R) (fun _ w => w) ?_
   refine St.p rfl rfl ?_
   refine St.buildSlice rfl rfl rfl rfl rfl rfl rfl rfl fun g1 => ?_
   obtain ⟨l1, hl1, h1⟩ := bnd_e h1
   refine St.app (E := eu8) hl1 rfl rfl rfl (.s (.s (.s (.s .z)))) rfl rfl rfl rfl rfl rfl rfl rfl (srcB (.head _) rfl rfl) rfl rfl fun A8 c8 => ?_
   refine St.p rfl rfl ?_
   refine St.done ?_
   refine St.blkN ?_
   refine St.thenN ?_
   refine St.prune (Γ' := [(0, _), (5, _), (6, _)]) ⟨rfl, rfl, rfl, trivial⟩ (.k (.d (.k (.k (.d .z))))) ?_
   refine St.region ?_
   iterate 3 refine St.p rfl rfl ?_
   refine St.done ?_
   injection h1 with h1
   subst h1
   refine St.thenN ?_
   exact St.again _ (A8, c8, A7, c7) hm1 trivial ⟨rfl, rfl, rfl, trivial⟩ (fun _ w => ((.k (.k (.k .z))) : Keep _ _).sat (((w.front (.s (.s .z))).front (.s .z)).front (.s (.s .z))))
  ·replace h1 := bif_f hb1 h1
   refine St.exit ?_
   repeat (first | refine St.thenX ?_ | refine St.blkMiss rfl ?_)
   refine St.blkHit ?_
   injection h1 with h1
   subst h1
   have ho := hd1 _ rfl
   subst ho
   refine St.thenN ?_
   exact St.hereE (A3, c3, A4, c4) ⟨rfl, trivial⟩ (fun _ w => ((.k (.k (.k .z))) : Keep _ _).sat w)
 ·rintro ⟨A5, c5, A6, c6⟩
  refine St.seq ?_
  refine St.region ?_
  refine St.p rfl rfl ?_
  refine St.p rfl rfl ?_
  refine St.done ?_
  refine St.thenN ?_
  refine St.prune (Γ' := [(4, _)]) ⟨rfl, trivial⟩ (.k (.k (.k .z))) ?_
  refine St.ret ?_
  repeat (first | refine St.thenR ?_ | refine St.blkR ?_)
  injection h with h
  subst h
  exact St.finR Try.results60 (.tmp rfl .nil) rfl [.ro (SlL eu8 A6 c6 o1.2.1), .res (Box gb1 59 [.slice A6 o1.2.1.length c6, .int .i64 o1.2.2]), .res (OwnL eu8 5 A5 c5 o1.1)] ⟨A6, c6, A5, c5, rfl, rfl⟩ (fun _ w => ((.k (.k (.k (.d .z)))) : Keep _ _).sat (Sat.dup (G := [.ro (SlL eu8 A6 c6 o1.2.1)]) rfl ⟨(.tail _ (.tail _ (.head _))), trivial⟩ ((w.front (.s .z)).front (.s (.s .z)))))

theorem ent28 : Ent Try.prog 28 := ⟨_, Try.func28, by kernel_rfl, by kernel_rfl⟩

noncomputable def m_field_Codes_Image (c_p0 : T_Codes) (name : ByteArray) : Option (T_Codes × T_Image) :=
 bnd (m_field_Codes_plain c_p0) fun r1 => bnd (m_field_Codes_Next r1.1 256) fun r2 => bnd (m_field_Codes_Bytes r2.1 5) fun r3 => bnd (app 1 ([IntKind.wrap .u8 r2.2]) r3.2) fun l1 => bnd (m_field_Codes_Next r3.1 30) fun r4 => bif (r4.2 == 29) then (some (r4.1, (⟨name, r1.2, []⟩ : T_Image))) else (bif (r4.2 == 28) then (some (r4.1, (⟨name, (⟨r1.2.Major, r1.2.Minor, (-1)⟩ : T_Version), l1⟩ : T_Image))) else (bif (r4.2 == 27) then (bnd (m_field_Codes_Next r4.1 2) fun r5 => bnd (mkS 1 0 (IntKind.wrap .i64 (512 + r5.2)) (IntKind.wrap .i64 (512 + r5.2))) fun l2 => some (r5.1, (⟨name, r1.2, l2⟩ : T_Image))) else (some (r4.1, (⟨name, r1.2, l1⟩ : T_Image)))))

theorem c_field_Codes_Image {c_p0 : T_Codes} {name : ByteArray} {A1 : Option Addr} {c1 : Nat} {gb1 : Nat} {r : (T_Codes × T_Image)} (h : m_field_Codes_Image c_p0 name = some r) :
  Fun Try.prog 28 [.pointer (some ⟨gb1, 0, none⟩), .string name] [.ro (SlL eu8 A1 c1 c_p0.L), .res (Box gb1 59 [.slice A1 c_p0.L.length c1, .int .i64 c_p0.At])] (fun v_ F_ => ∃ (A1 : Option Addr) (c1 : Nat) (A2 : Option Addr) (c2 : Nat), v_ = .agg (bx_T_Image r.2 A2 c2).toArray ∧ F_ = [.ro (SlL eu8 A1 c1 r.1.L), .ro (SlL eu8 A2 c2 r.2.Data), .res (Box gb1 59 [.slice A1 r.1.L.length c1, .int .i64 r.1.At])]) := by
 unfold m_field_Codes_Image at h
 refine Fun.intro Try.func28 rfl rfl rfl fun w R => ?_
 refine St.seq ?_
 refine St.region ?_
 refine St.alloc rfl rfl fun g1 => ?_
 refine St.done ?_
 refine St.thenN ?_
 refine St.seq ?_
 refine St.region ?_
 refine St.p rfl rfl ?_
 refine St.p rfl rfl ?_
 obtain ⟨r1, hr1, h⟩ := bnd_e h
 refine St.call (c_field_Codes_plain hr1) ent59 rfl rfl rfl (fun _ w => Sat.dup (G := [.ro (SlL eu8 A1 c1 c_p0.L)]) rfl ⟨(.tail _ (.tail _ (.head _))), trivial⟩ (w.front (.s (.s .z)))) ?_
 rintro _ _ ⟨A2, c2, rfl, rfl⟩
 refine St.asrt (F' := .ro (SlL eu8 A2 c2 r1.1.L) :: .res (Box gb1 59 [.slice A2 r1.1.L.length c2, .int .i64 r1.1.At]) :: .res (Box g1 41 [.string (⟨#[]⟩), .int .i64 0, .int .i64 0, .int .i64 0, .slice none 0 0]) :: .ro (SlL eu8 A1 c1 c_p0.L) :: R) (fun _ w => w) ?_
 refine St.p rfl rfl ?_
 obtain ⟨r2, hr2, h⟩ := bnd_e h
 refine St.call (c_field_Codes_Next hr2) ent27 rfl rfl rfl (fun _ w => Sat.dup (G := [.ro (SlL eu8 A2 c2 r1.1.L)]) rfl ⟨(.tail _ (.head _)), trivial⟩ (w.front (.s .z))) ?_
 rintro _ _ ⟨A3, c3, rfl, rfl⟩
 refine St.asrt (F' := .ro (SlL eu8 A3 c3 r2.1.L) :: .res (Box gb1 59 [.slice A3 r2.1.L.length c3, .int .i64 r2.1.At]) :: .ro (SlL eu8 A2 c2 r1.1.L) :: .res (Box g1 41 [.string (⟨#[]⟩), .int .i64 0, .int .i64 0, .int .i64 0, .slice none 0 0]) :: .ro (SlL eu8 A1 c1 c_p0.L) :: R) (fun _ w => w) ?_
 refine St.p rfl rfl ?_
 refine St.buildSlice rfl rfl rfl rfl rfl rfl rfl rfl fun g2 => ?_
 refine St.p rfl rfl ?_
 obtain ⟨r3, hr3, h⟩ := bnd_e h
 refine St.call (c_field_Codes_Bytes hr3) ent60 rfl rfl rfl (fun _ w => Sat.dup (G := [.ro (SlL eu8 A3 c3 r2.1.L)]) rfl ⟨(.tail _ (.tail _ (.head _))), trivial⟩ (w.front (.s (.s .z)))) ?_
 rintro _ _ ⟨A4, c4, A5, c5, rfl, rfl⟩
 refine St.asrt (F' := .ro (SlL eu8 A4 c4 r3.1.L) :: .res (Box gb1 59 [.slice A4 r3.1.L.length c4, .int .i64 r3.1.At]) :: .res (OwnL eu8 5 A5 c5 r3.2) :: .res (Box g2 5 [.int .u8 (IntKind.wrap .u8 r2.2)]) :: .ro (SlL eu8 A3 c3 r2.1.L) :: .ro (SlL eu8 A2 c2 r1.1.L) :: .res (Box g1 41 [.string (⟨#[]⟩), .int .i64 0, .int .i64 0, .int .i64 0, .slice none 0 0]) :: .ro (SlL eu8 A1 c1 c_p0.L) :: R) (fun _ w => w) ?_
 refine St.asrt (fun _ w => (w.front (.s (.s .z))).meltL) ?_
 refine St.asrt (fun _ w => (w.front (.s (.s (.s .z)))).litL (E := eu8) (e := 5) [IntKind.wrap .u8 r2.2] rfl rfl) ?_
 obtain ⟨l1, hl1, h⟩ := bnd_e h
 refine St.app (E := eu8) hl1 rfl rfl rfl .z rfl rfl rfl rfl rfl rfl rfl rfl (srcL (.tail _ (.head _))) rfl rfl fun A6 c6 => ?_
 refine St.p rfl rfl ?_
 refine St.alloc rfl rfl fun g3 => ?_
 refine St.store 0 rfl rfl rfl rfl rfl rfl .z rfl ?_
 refine St.done ?_
 refine St.thenN ?_
 refine St.prune (Γ' := [(0, _), (4, _), (5, _)]) ⟨rfl, rfl, rfl, trivial⟩ (.k (.k (.d (.k (.k (.d (.d (.k (.d .z))))))))) ?_
 refine St.seq ?_
 refine St.seq ?_
 refine St.region ?_
 refine St.p rfl rfl ?_
 obtain ⟨r4, hr4, h⟩ := bnd_e h
 refine St.call (c_field_Codes_Next hr4) ent27 rfl rfl rfl (fun _ w => Sat.dup (G := [.ro (SlL eu8 A4 c4 r3.1.L)]) rfl ⟨(.tail _ (.tail _ (.tail _ (.head _)))), trivial⟩ (w.front (.s (.s (.s .z))))) ?_
 rintro _ _ ⟨A7, c7, rfl, rfl⟩
 refine St.asrt (F' := .ro (SlL eu8 A7 c7 r4.1.L) :: .res (Box gb1 59 [.slice A7 r4.1.L.length c7, .int .i64 r4.1.At]) :: .res (Box g3 41 [.string name, .int .i64 r1.2.Major, .int .i64 r1.2.Minor, .int .i64 r1.2.Patch, .slice A6 l1.length c6]) :: .res (OwnL eu8 5 A6 c6 l1) :: .ro (SlL eu8 A4 c4 r3.1.L) :: .res (Box g1 41 [.string (⟨#[]⟩), .int .i64 0, .int .i64 0, .int .i64 0, .slice none 0 0]) :: R) (fun _ w => w) ?_
 refine St.done ?_
 refine St.thenN ?_
 refine St.prune (Γ' := [(0, _), (4, _), (5, _), (18, _)]) ⟨rfl, rfl, rfl, rfl, trivial⟩ (.k (.k (.k (.k (.d (.k .z)))))) ?_
 refine St.block ?_
 refine St.seq ?_
 refine St.region ?_
 refine St.p rfl rfl ?_
 refine St.p rfl rfl ?_
 refine St.done ?_
 refine St.thenN ?_
 refine St.prune (Γ' := [(0, _), (4, _), (5, _), (18, _), (19, _)]) ⟨rfl, rfl, rfl, rfl, rfl, trivial⟩ (.k (.k (.k (.k (.k .z))))) ?_
 refine St.cond _ rfl (fun hb1 => ?_) (fun hb1 => ?_)
 ·replace h := bif_t hb1 h
  refine St.region ?_
  refine St.p rfl rfl ?_
  refine St.store 4 rfl rfl rfl rfl rfl rfl (.s (.s .z)) rfl ?_
  refine St.done ?_
  refine St.blkN ?_
  refine St.thenN ?_
  refine St.prune (Γ' := [(4, _), (5, _)]) ⟨rfl, rfl, trivial⟩ (.k (.k (.k (.d (.k .z))))) ?_
  refine St.seq ?_
  refine St.region ?_
  refine St.loadB 0 rfl rfl (.head _) rfl rfl ?_
  refine St.store 0 rfl rfl rfl rfl rfl rfl (.s (.s (.s .z))) rfl ?_
  refine St.done ?_
  refine St.thenN ?_
  refine St.prune (Γ' := [(4, _)]) ⟨rfl, trivial⟩ (.k (.d (.k (.k .z)))) ?_
  refine St.ret ?_
  repeat (first | refine St.thenR ?_ | refine St.blkR ?_)
  refine St.asrt (fun _ w => w.nilSl (cod eu8)) ?_
  injection h with h
  subst h
  exact St.finR Try.results28 (.cell rfl (.tail _ (.head _)) rfl .nil) rfl [.ro (SlL eu8 A7 c7 r4.1.L), .ro (SlL eu8 none 0 ([] : List Int)), .res (Box gb1 59 [.slice A7 r4.1.L.length c7, .int .i64 r4.1.At])] ⟨A7, c7, none, 0, rfl, rfl⟩ (fun _ w => ((.k (.k (.k (.d (.d (.d .z)))))) : Keep _ _).sat (Sat.dup (G := [.ro (SlL eu8 A7 c7 r4.1.L), .ro (SlL eu8 none 0 ([] : List Int))]) rfl ⟨(.tail _ (.tail _ (.tail _ (.head _)))), (.tail _ (.head _)), trivial⟩ (w.front (.s (.s (.s .z))))))
 ·replace h := bif_f hb1 h
  refine St.seq ?_
  refine St.region ?_
  refine St.p rfl rfl ?_
  refine St.p rfl rfl ?_
  refine St.done ?_
  refine St.thenN ?_
  refine St.prune (Γ' := [(0, _), (4, _), (5, _), (18, _), (22, _)]) ⟨rfl, rfl, rfl, rfl, rfl, trivial⟩ (.k (.k (.k (.k (.k .z))))) ?_
  refine St.cond _ rfl (fun hb2 => ?_) (fun hb2 => ?_)
  ·replace h := bif_t hb2 h
   refine St.region ?_
   refine St.p rfl rfl ?_
   refine St.p rfl rfl ?_
   refine St.store 3 rfl rfl rfl rfl rfl rfl (.s (.s .z)) rfl ?_
   refine St.done ?_
   refine St.blkN ?_
   refine St.thenN ?_
   refine St.prune (Γ' := [(4, _), (5, _)]) ⟨rfl, rfl, trivial⟩ (.k (.k (.k (.k (.k .z))))) ?_
   refine St.seq ?_
   refine St.region ?_
   refine St.loadB 0 rfl rfl (.head _) rfl rfl ?_
   refine St.store 0 rfl rfl rfl rfl rfl rfl (.s (.s (.s (.s .z)))) rfl ?_
   refine St.done ?_
   refine St.thenN ?_
   refine St.prune (Γ' := [(4, _)]) ⟨rfl, trivial⟩ (.k (.d (.k (.k (.k .z))))) ?_
   refine St.ret ?_
   repeat (first | refine St.thenR ?_ | refine St.blkR ?_)
   refine St.asrt (fun _ w => (w.front (.s (.s (.s .z)))).meltL) ?_
   injection h with h
   subst h
   exact St.finR Try.results28 (.cell rfl (.tail _ (.head _)) rfl .nil) rfl [.ro (SlL eu8 A7 c7 r4.1.L), .ro (SlL eu8 A6 c6 l1), .res (Box gb1 59 [.slice A7 r4.1.L.length c7, .int .i64 r4.1.At])] ⟨A7, c7, A6, c6, rfl, rfl⟩ (fun _ w => ((.k (.k (.k (.d (.d (.d .z)))))) : Keep _ _).sat (Sat.dup (G := [.ro (SlL eu8 A7 c7 r4.1.L), .ro (SlL eu8 A6 c6 l1)]) rfl ⟨(.tail _ (.tail _ (.tail _ (.head _)))), (.tail _ (.head _)), trivial⟩ (w.front (.s (.s (.s .z))))))
  ·replace h := bif_f hb2 h
   refine St.seq ?_
   refine St.region ?_
   refine St.p rfl rfl ?_
   refine St.p rfl rfl ?_
   refine St.done ?_
   refine St.thenN ?_
   refine St.prune (Γ' := [(0, _), (4, _), (5, _), (26, _)]) ⟨rfl, rfl, rfl, rfl, trivial⟩ (.k (.k (.k (.k (.k .z))))) ?_
   refine St.cond _ rfl (fun hb3 => ?_) (fun hb3 => ?_)
   ·replace h := bif_t hb3 h
    refine St.region ?_
    refine St.p rfl rfl ?_
    obtain ⟨r5, hr5, h⟩ := bnd_e h
    refine St.call (c_field_Codes_Next hr5) ent27 rfl rfl rfl (fun _ w => Sat.dup (G := [.ro (SlL eu8 A7 c7 r4.1.L)]) rfl ⟨(.tail _ (.head _)), trivial⟩ (w.front (.s .z))) ?_
    rintro _ _ ⟨A8, c8, rfl, rfl⟩
    refine St.asrt (F' := .ro (SlL eu8 A8 c8 r5.1.L) :: .res (Box gb1 59 [.slice A8 r5.1.L.length c8, .int .i64 r5.1.At]) :: .ro (SlL eu8 A7 c7 r4.1.L) :: .res (Box g3 41 [.string name, .int .i64 r1.2.Major, .int .i64 r1.2.Minor, .int .i64 r1.2.Patch, .slice A6 l1.length c6]) :: .res (OwnL eu8 5 A6 c6 l1) :: .res (Box g1 41 [.string (⟨#[]⟩), .int .i64 0, .int .i64 0, .int .i64 0, .slice none 0 0]) :: R) (fun _ w => w) ?_
    refine St.p rfl rfl ?_
    obtain ⟨l2, hl2, h⟩ := bnd_e h
    refine St.mkL (E := eu8) 0 hl2 rfl rfl rfl rfl rfl rfl rfl rfl rfl rfl fun g4 => ?_
    refine St.p rfl rfl ?_
    refine St.store 4 rfl rfl rfl rfl rfl rfl (.s (.s (.s (.s .z)))) rfl ?_
    refine St.done ?_
    refine St.blkN ?_
    refine St.thenN ?_
    refine St.prune (Γ' := [(4, _), (5, _)]) ⟨rfl, rfl, trivial⟩ (.k (.k (.k (.k (.d (.d (.k .z))))))) ?_
    refine St.seq ?_
    refine St.region ?_
    refine St.loadB 0 rfl rfl (.head _) rfl rfl ?_
    refine St.store 0 rfl rfl rfl rfl rfl rfl (.s (.s (.s (.s .z)))) rfl ?_
    refine St.done ?_
    refine St.thenN ?_
    refine St.prune (Γ' := [(4, _)]) ⟨rfl, trivial⟩ (.k (.d (.k (.k (.k .z))))) ?_
    refine St.ret ?_
    repeat (first | refine St.thenR ?_ | refine St.blkR ?_)
    refine St.asrt (fun _ w => (w.front (.s .z)).meltL) ?_
    injection h with h
    subst h
    exact St.finR Try.results28 (.cell rfl (.tail _ (.head _)) rfl .nil) rfl [.ro (SlL eu8 A8 c8 r5.1.L), .ro (SlL eu8 (some ⟨g4, 0, none⟩) (Int.toNat (IntKind.wrap .i64 (512 + r5.2))) l2), .res (Box gb1 59 [.slice A8 r5.1.L.length c8, .int .i64 r5.1.At])] ⟨A8, c8, (some ⟨g4, 0, none⟩), (Int.toNat (IntKind.wrap .i64 (512 + r5.2))), rfl, rfl⟩ (fun _ w => ((.k (.k (.k (.d (.d (.d .z)))))) : Keep _ _).sat (Sat.dup (G := [.ro (SlL eu8 A8 c8 r5.1.L), .ro (SlL eu8 (some ⟨g4, 0, none⟩) (Int.toNat (IntKind.wrap .i64 (512 + r5.2))) l2)]) rfl ⟨(.tail _ (.tail _ (.tail _ (.head _)))), (.tail _ (.head _)), trivial⟩ (w.front (.s (.s (.s .z))))))
   ·replace h := bif_f hb3 h
    refine St.skip ?_
    refine St.blkN ?_
    refine St.thenN ?_
    refine St.prune (Γ' := [(4, _), (5, _)]) ⟨rfl, rfl, trivial⟩ (.k (.k (.k (.k (.k .z))))) ?_
    refine St.seq ?_
    refine St.region ?_
    refine St.loadB 0 rfl rfl (.tail _ (.tail _ (.head _))) rfl rfl ?_
    refine St.store 0 rfl rfl rfl rfl rfl rfl (.s (.s (.s (.s .z)))) rfl ?_
    refine St.done ?_
    refine St.thenN ?_
    refine St.prune (Γ' := [(4, _)]) ⟨rfl, trivial⟩ (.k (.k (.k (.d (.k .z))))) ?_
    refine St.ret ?_
    repeat (first | refine St.thenR ?_ | refine St.blkR ?_)
    refine St.asrt (fun _ w => (w.front (.s (.s (.s .z)))).meltL) ?_
    injection h with h
    subst h
    exact St.finR Try.results28 (.cell rfl (.tail _ (.head _)) rfl .nil) rfl [.ro (SlL eu8 A7 c7 r4.1.L), .ro (SlL eu8 A6 c6 l1), .res (Box gb1 59 [.slice A7 r4.1.L.length c7, .int .i64 r4.1.At])] ⟨A7, c7, A6, c6, rfl, rfl⟩ (fun _ w => ((.k (.k (.k (.d (.d (.d .z)))))) : Keep _ _).sat (Sat.dup (G := [.ro (SlL eu8 A7 c7 r4.1.L), .ro (SlL eu8 A6 c6 l1)]) rfl ⟨(.tail _ (.tail _ (.tail _ (.head _)))), (.tail _ (.head _)), trivial⟩ (w.front (.s (.s (.s .z))))))

theorem ent61 : Ent Try.prog 61 := ⟨_, Try.func61, by kernel_rfl, by kernel_rfl⟩

noncomputable def m_field_Codes_Need (c_p0 : T_Codes) : Option (T_Codes × T_Need) :=
 bnd (m_field_names) fun r1 => bnd (m_field_Codes_Next c_p0 4) fun r2 => bnd (elt r1 r2.2) fun x1 => bnd (m_field_Codes_Next r2.1 3) fun r3 => bnd (m_field_Codes_Next r3.1 4) fun r4 => bnd (elt r1 r4.2) fun x2 => bnd (m_field_Codes_Next r4.1 3) fun r5 => bnd ((bif (x1.toList == x2.toList) then (bnd (m_field_Codes_Next r5.1 6) fun r6 => some (decide (r6.2 < 5), r6.1.L, r6.1.At)) else (some (false, r5.1.L, r5.1.At)) : Option (Bool × List Int × Int))) fun o1 => bif o1.1 then (bnd (elt r1 4) fun x3 => some ((⟨o1.2.1, o1.2.2⟩ : T_Codes), (⟨x1, (⟨IntKind.wrap .i64 (1 + r3.2), 0, 0⟩ : T_Version), x3, (⟨IntKind.wrap .i64 (1 + r5.2), 0, 0⟩ : T_Version)⟩ : T_Need))) else (some ((⟨o1.2.1, o1.2.2⟩ : T_Codes), (⟨x1, (⟨IntKind.wrap .i64 (1 + r3.2), 0, 0⟩ : T_Version), x2, (⟨IntKind.wrap .i64 (1 + r5.2), 0, 0⟩ : T_Version)⟩ : T_Need)))

end Go.Proofs.Ytgnmhmnglbbamaa
