/-
 Models of functions of the program, and that the functions compute them.
 Conditions: none.
-/
import Derived.Test.YtgnmhmnglbbamaaGen3
namespace Go.Proofs.Ytgnmhmnglbbamaa
open Go
set_option linter.unusedVariables false
set_option maxRecDepth 4000

set_option maxHeartbeats 4000000 in
theorem c_field_Codes_Bundle {c_p0 : T_Codes} {A1 : Option Addr} {c1 : Nat} {gb1 : Nat} {r : (T_Codes × T_Bundle)} (h : m_field_Codes_Bundle c_p0 = some r) :
  Fun Try.prog 10 [.pointer (some ⟨gb1, 0, none⟩)] [.ro (SlL eu8 A1 c1 c_p0.L), .res (Box gb1 59 [.slice A1 c_p0.L.length c1, .int .i64 c_p0.At])] (fun v_ F_ => ∃ (A1 : Option Addr) (c1 : Nat) (A2 : Option Addr) (c2 : Nat) (A3 : Option Addr) (c3 : Nat), v_ = .agg #[.slice A2 r.2.Images.length c2, .slice A3 r.2.Needs.length c3] ∧ F_ = [.ro (SlL eu8 A1 c1 r.1.L), .ro (Sl (codL l_T_Image) A2 c2 r.2.Images), .ro (SlL e_Need A3 c3 r.2.Needs), .res (Box gb1 59 [.slice A1 r.1.L.length c1, .int .i64 r.1.At])]) := by
 unfold m_field_Codes_Bundle at h
 refine Fun.intro Try.func10 rfl rfl rfl fun w R => ?_
 refine St.seq ?_
 refine St.region ?_
 refine St.alloc rfl rfl fun g1 => ?_
 refine St.done ?_
 refine St.thenN ?_
 refine St.seq ?_
 refine St.region ?_
 refine St.alloc rfl rfl fun g2 => ?_
 refine St.done ?_
 refine St.thenN ?_
 refine St.seq ?_
 refine St.seq ?_
 refine St.region ?_
 obtain ⟨r1, hr1, h⟩ := bnd_e h
 refine St.call (c_field_names hr1) ent26 rfl rfl rfl (fun _ w => w) ?_
 rintro _ _ ⟨A2, c2, rfl, rfl⟩
 refine St.asrt (F' := .res (OwnL estr 9 A2 c2 r1) :: .res (Box g2 26 [.slice none 0 0, .slice none 0 0]) :: .res (Box g1 26 [.slice none 0 0, .slice none 0 0]) :: .ro (SlL eu8 A1 c1 c_p0.L) :: .res (Box gb1 59 [.slice A1 c_p0.L.length c1, .int .i64 c_p0.At]) :: R) (fun _ w => w) ?_
 refine St.p rfl rfl ?_
 refine St.p rfl rfl ?_
 refine St.done ?_
 refine St.thenN ?_
 refine St.asrt (fun _ w => w.nilC (codL l_T_Image) 41) ?_
 refine St.asrt (fun _ w => w.nilC (codL l_T_Image) 41) ?_
 obtain ⟨o1, hl1, h⟩ := bnd_e h
 refine St.cutE (fun (e2 : Option Addr × Nat × Option Addr × Nat × Option Addr × Nat) => [(0, .pointer (some ⟨gb1, 0, none⟩)), (2, .pointer (some ⟨g1, 0, none⟩)), (3, .pointer (some ⟨g2, 0, none⟩))]) (fun e2 => .ro (SlL eu8 e2.2.2.2.2.1 e2.2.2.2.2.2 o1.2.2.1) :: .res (OwnC (codL l_T_Image) 41 e2.2.2.1 e2.2.2.2.1 o1.2.1) :: .res (OwnC (codL l_T_Image) 41 e2.1 e2.2.1 o1.1) :: .res (Box g2 26 [.slice e2.2.2.1 o1.2.1.length e2.2.2.2.1, .slice none 0 0]) :: .res (Box g1 26 [.slice e2.1 o1.1.length e2.2.1, .slice none 0 0]) :: .res (Box gb1 59 [.slice e2.2.2.2.2.1 o1.2.2.1.length e2.2.2.2.2.2, .int .i64 o1.2.2.2]) :: R) ?_ ?_
 ·refine St.block ?_
  refine St.loop hl1 (fun (s1 : Int × List T_Image × List T_Image × List Int × Int) (e1 : Option Addr × Nat × Option Addr × Nat × Option Addr × Nat) => [(0, .pointer (some ⟨gb1, 0, none⟩)), (2, .pointer (some ⟨g1, 0, none⟩)), (3, .pointer (some ⟨g2, 0, none⟩)), (6, .slice A2 r1.length c2), (7, .int .i64 (r1.length : Int)), (8, .int .i64 s1.1)]) (fun s1 e1 => .ro (SlL eu8 e1.2.2.2.2.1 e1.2.2.2.2.2 s1.2.2.2.1) :: .res (OwnC (codL l_T_Image) 41 e1.2.2.1 e1.2.2.2.1 s1.2.2.1) :: .res (OwnC (codL l_T_Image) 41 e1.1 e1.2.1 s1.2.1) :: .res (OwnL estr 9 A2 c2 r1) :: .res (Box g2 26 [.slice e1.2.2.1 s1.2.2.1.length e1.2.2.2.1, .slice none 0 0]) :: .res (Box g1 26 [.slice e1.1 s1.2.1.length e1.2.1, .slice none 0 0]) :: .res (Box gb1 59 [.slice e1.2.2.2.2.1 s1.2.2.2.1.length e1.2.2.2.2.2, .int .i64 s1.2.2.2.2]) :: R) (fun _ _ => True) (none, 0, none, 0, A1, c1) trivial ⟨rfl, rfl, rfl, rfl, rfl, rfl, trivial⟩ (fun _ w => ((.k (.k (.k (.k (.k (.k (.k .z))))))) : Keep _ _).sat (((((((w.front (.s (.s (.s (.s (.s (.s .z))))))).front (.s (.s (.s (.s (.s .z)))))).front (.s (.s (.s (.s (.s .z)))))).front (.s (.s (.s (.s (.s .z)))))).front (.s (.s (.s (.s .z))))).front (.s (.s (.s (.s (.s .z)))))).front (.s (.s (.s (.s (.s (.s .z)))))))) ?_
  rintro s1 ⟨A3, c3, A4, c4, A5, c5⟩ - hit1
  obtain ⟨st1, hm1, hd1⟩ := iter_e hit1
  have h1 := hm1
  refine St.seq ?_
  refine St.region ?_
  refine St.p rfl rfl ?_
  refine St.done ?_
  refine St.thenN ?_
  refine St.seq ?_
  refine St.cond _ rfl (fun hb1 => ?_) (fun hb1 => ?_)
  ·replace h1 := bif_t hb1 h1
   refine St.skip ?_
   refine St.thenN ?_
   refine St.prune (Γ' := [(0, _), (2, _), (3, _), (6, _), (7, _), (8, _)]) ⟨rfl, rfl, rfl, rfl, rfl, rfl, trivial⟩ (.k (.k (.k (.k (.k (.k (.k .z))))))) ?_
   refine St.seq ?_
   refine St.block ?_
   refine St.seq ?_
   refine St.region ?_
   obtain ⟨x1, hx1, h1⟩ := bnd_e h1
   refine St.ixO hx1 rfl rfl rfl (.tail _ (.tail _ (.tail _ (.head _)))) rfl rfl rfl rfl rfl fun g3 hA => ?_
   subst hA
   refine St.ldO 0 hx1 rfl rfl (.tail _ (.tail _ (.tail _ (.head _)))) rfl rfl ?_
   refine St.p rfl rfl ?_
   refine St.done ?_
   refine St.thenN ?_
   refine St.prune (Γ' := [(0, _), (2, _), (3, _), (5, _), (6, _), (7, _), (8, _)]) ⟨rfl, rfl, rfl, rfl, rfl, rfl, rfl, trivial⟩ (.k (.k (.k (.k (.k (.k (.k .z))))))) ?_
   refine St.seq ?_
   refine St.region ?_
   refine St.p rfl rfl ?_
   obtain ⟨r2, hr2, h1⟩ := bnd_e h1
   refine St.call (c_field_Codes_Next hr2) ent27 rfl rfl rfl (fun _ w => Sat.dup (G := [.ro (SlL eu8 A5 c5 s1.2.2.2.1)]) rfl ⟨(.tail _ (.head _)), trivial⟩ (w.front (.s (.s (.s (.s (.s (.s .z)))))))) ?_
   rintro _ _ ⟨A9, c9, rfl, rfl⟩
   refine St.asrt (F' := .ro (SlL eu8 A9 c9 r2.1.L) :: .res (Box gb1 59 [.slice A9 r2.1.L.length c9, .int .i64 r2.1.At]) :: .ro (SlL eu8 A5 c5 s1.2.2.2.1) :: .res (OwnC (codL l_T_Image) 41 A4 c4 s1.2.2.1) :: .res (OwnC (codL l_T_Image) 41 A3 c3 s1.2.1) :: .res (OwnL estr 9 (some ⟨g3, 0, none⟩) c2 r1) :: .res (Box g2 26 [.slice A4 s1.2.2.1.length c4, .slice none 0 0]) :: .res (Box g1 26 [.slice A3 s1.2.1.length c3, .slice none 0 0]) :: R) (fun _ w => w) ?_
   refine St.p rfl rfl ?_
   refine St.done ?_
   refine St.thenN ?_
   refine St.prune (Γ' := [(0, _), (2, _), (3, _), (5, _), (6, _), (7, _), (8, _), (14, _)]) ⟨rfl, rfl, rfl, rfl, rfl, rfl, rfl, rfl, trivial⟩ (.k (.k (.d (.k (.k (.k (.k (.k .z)))))))) ?_
   refine St.cond _ rfl (fun hb2 => ?_) (fun hb2 => ?_)
   ·replace h1 := bif_t hb2 h1
    obtain ⟨r3, hr3, h1⟩ := bnd_e h1
    obtain ⟨l1, hl1, h1⟩ := bnd_e h1
    refine St.regionX (iL [(.fl, 0), (.fl, 2), (.fl, 3)] (.alt (iL [(.ef, 1)] (iL [(.ef, 4)] (iL [(.ef, 5)] (iL [(.ef, 6), (.fl, 7)] (iL [(.ef, 8)] .nil))))) (iL [(.ef, 4)] (.alt (iL [(.ef, 1)] (iL [(.ef, 5)] (iL [(.ef, 6), (.fl, 7)] (iL [(.ef, 8)] .nil)))) (iL [(.ef, 5)] (iL [(.ef, 1)] (iL [(.ef, 6), (.fl, 7)] (iL [(.ef, 8)] .nil)))))))) (.ro (SlL eu8 A9 c9 r2.1.L) :: .res (OwnC (codL l_T_Image) 41 A3 c3 s1.2.1) :: .res (OwnL estr 9 (some ⟨g3, 0, none⟩) c2 r1) :: .res (Box g1 26 [.slice A3 s1.2.1.length c3, .slice none 0 0]) :: R) mixed (by kernel_rfl) (fun _ w => ((.k (.d (.d (.k (.k (.d (.k .z))))))) : Keep _ _).sat w) ?_
    refine St.share (Y := ?Ynd1_0) (fun (e : Option Addr × Nat × Nat × Option Addr × Nat) => [(0, .pointer (some ⟨gb1, 0, none⟩)), (2, .pointer (some ⟨g1, 0, none⟩)), (3, .pointer (some ⟨g2, 0, none⟩)), (5, .string x1), (6, .slice (some ⟨g3, 0, none⟩) r1.length c2), (7, .int .i64 (r1.length : Int)), (8, .int .i64 s1.1), (14, .bool (r2.2 == 0)), (15, .pointer (some ⟨g2, 0, none⟩)), (16, .slice A4 s1.2.2.1.length c4), (17, .pointer (some ⟨gb1, 0, none⟩)), (18, .string x1), (19, .agg (bx_T_Image r3.2 e.1 e.2.1).toArray), (20, .slice (some ⟨e.2.2.1, 0, none⟩) 1 1)]) (fun e => .res (Box e.2.2.1 41 (bx_T_Image r3.2 e.1 e.2.1)) :: .ro (SlL eu8 e.2.2.2.1 e.2.2.2.2 r3.1.L) :: .ro (SlL eu8 e.1 e.2.1 r3.2.Data) :: .res (Box gb1 59 [.slice e.2.2.2.1 r3.1.L.length e.2.2.2.2, .int .i64 r3.1.At]) :: .ro (SlL eu8 A9 c9 r2.1.L) :: .res (OwnC (codL l_T_Image) 41 A4 c4 s1.2.2.1) :: .res (OwnC (codL l_T_Image) 41 A3 c3 s1.2.1) :: .res (OwnL estr 9 (some ⟨g3, 0, none⟩) c2 r1) :: .res (Box g2 26 [.slice A4 s1.2.2.1.length c4, .slice none 0 0]) :: .res (Box g1 26 [.slice A3 s1.2.1.length c3, .slice none 0 0]) :: R) (fun hnd1_0 => ?mnd1_0) ?tnd1_0
    case mnd1_0 =>
     refine St.share (Y := ?Ynd1_1) (fun (e : Option Addr × Nat × Option Addr × Nat) => [(0, .pointer (some ⟨gb1, 0, none⟩)), (2, .pointer (some ⟨g1, 0, none⟩)), (3, .pointer (some ⟨g2, 0, none⟩)), (5, .string x1), (6, .slice (some ⟨g3, 0, none⟩) r1.length c2), (7, .int .i64 (r1.length : Int)), (8, .int .i64 s1.1), (14, .bool (r2.2 == 0)), (15, .pointer (some ⟨g2, 0, none⟩)), (16, .slice A4 s1.2.2.1.length c4), (17, .pointer (some ⟨gb1, 0, none⟩)), (18, .string x1), (19, .agg (bx_T_Image r3.2 e.1 e.2.1).toArray)]) (fun e => .ro (SlL eu8 e.2.2.1 e.2.2.2 r3.1.L) :: .ro (SlL eu8 e.1 e.2.1 r3.2.Data) :: .res (Box gb1 59 [.slice e.2.2.1 r3.1.L.length e.2.2.2, .int .i64 r3.1.At]) :: .ro (SlL eu8 A9 c9 r2.1.L) :: .res (OwnC (codL l_T_Image) 41 A4 c4 s1.2.2.1) :: .res (OwnC (codL l_T_Image) 41 A3 c3 s1.2.1) :: .res (OwnL estr 9 (some ⟨g3, 0, none⟩) c2 r1) :: .res (Box g2 26 [.slice A4 s1.2.2.1.length c4, .slice none 0 0]) :: .res (Box g1 26 [.slice A3 s1.2.1.length c3, .slice none 0 0]) :: R) (fun hnd1_1 => ?mnd1_1) ?tnd1_1
     case mnd1_1 =>
      refine St.xfl (fun _ h => h) (Rd.p rfl) rfl ?_
      refine St.xfl (fun _ h => h) (Rd.p rfl) rfl ?_
      refine St.xfl (fun _ h => h) (Rd.p rfl) rfl ?_
      refine St.xalt ?_ ?_
      ·refine St.xef ?_
       refine St.loadB 0 rfl rfl (.tail _ (.tail _ (.tail _ (.tail _ (.tail _ (.head _)))))) rfl rfl ?_
       refine St.xk (fun _ w => ((.k (.d (.d (.k (.k (.d (.k .z))))))) : Keep _ _).sat w) ?_
       refine St.xef ?_
       refine St.call (c_field_Codes_Image hr3) ent28 rfl rfl rfl (fun _ w => Sat.dup (G := [.ro (SlL eu8 A9 c9 r2.1.L)]) rfl ⟨(.tail _ (.head _)), trivial⟩ (w.front (.s .z))) ?_
       rintro _ _ ⟨A10, c10, A11, c11, rfl, rfl⟩
       refine St.asrt (F' := .ro (SlL eu8 A10 c10 r3.1.L) :: .ro (SlL eu8 A11 c11 r3.2.Data) :: .res (Box gb1 59 [.slice A10 r3.1.L.length c10, .int .i64 r3.1.At]) :: .ro (SlL eu8 A9 c9 r2.1.L) :: .res (OwnC (codL l_T_Image) 41 A4 c4 s1.2.2.1) :: .res (OwnC (codL l_T_Image) 41 A3 c3 s1.2.1) :: .res (OwnL estr 9 (some ⟨g3, 0, none⟩) c2 r1) :: .res (Box g2 26 [.slice A4 s1.2.2.1.length c4, .slice none 0 0]) :: .res (Box g1 26 [.slice A3 s1.2.1.length c3, .slice none 0 0]) :: R) (fun _ w => w) ?_
       refine St.xk (fun _ w => ((.d (.d (.d (.k (.d (.k (.k (.d (.k .z))))))))) : Keep _ _).sat w) ?_
       refine hnd1_1 _ _ (A11, c11, A10, c10) ?_ ?_
       ·exact ⟨rfl, rfl, rfl, rfl, rfl, rfl, rfl, rfl, rfl, rfl, rfl, rfl, rfl, trivial⟩
       ·exact fun _ w => ((.k (.k (.k (.k (.k (.k (.k (.k (.k .z))))))))) : Keep _ _).sat w
      ·refine St.xef ?_
       refine St.call (c_field_Codes_Image hr3) ent28 rfl rfl rfl (fun _ w => Sat.dup (G := [.ro (SlL eu8 A9 c9 r2.1.L)]) rfl ⟨(.tail _ (.head _)), trivial⟩ (w.front (.s .z))) ?_
       rintro _ _ ⟨A10, c10, A11, c11, rfl, rfl⟩
       refine St.asrt (F' := .ro (SlL eu8 A10 c10 r3.1.L) :: .ro (SlL eu8 A11 c11 r3.2.Data) :: .res (Box gb1 59 [.slice A10 r3.1.L.length c10, .int .i64 r3.1.At]) :: .ro (SlL eu8 A9 c9 r2.1.L) :: .res (OwnC (codL l_T_Image) 41 A4 c4 s1.2.2.1) :: .res (OwnC (codL l_T_Image) 41 A3 c3 s1.2.1) :: .res (OwnL estr 9 (some ⟨g3, 0, none⟩) c2 r1) :: .res (Box g2 26 [.slice A4 s1.2.2.1.length c4, .slice none 0 0]) :: .res (Box g1 26 [.slice A3 s1.2.1.length c3, .slice none 0 0]) :: R) (fun _ w => w) ?_
       refine St.xk (fun _ w => ((.d (.d (.d (.k (.d (.k (.k (.d (.k .z))))))))) : Keep _ _).sat w) ?_
       refine St.xalt ?_ ?_
       ·refine St.xef ?_
        refine St.loadB 0 rfl rfl (.tail _ (.tail _ (.tail _ (.tail _ (.tail _ (.tail _ (.tail _ (.head _)))))))) rfl rfl ?_
        refine St.xk (fun _ w => ((.d (.d (.d (.k (.d (.k (.k (.d (.k .z))))))))) : Keep _ _).sat w) ?_
        refine hnd1_1 _ _ (A11, c11, A10, c10) ?_ ?_
        ·exact ⟨rfl, rfl, rfl, rfl, rfl, rfl, rfl, rfl, rfl, rfl, rfl, rfl, rfl, trivial⟩
        ·exact fun _ w => ((.k (.k (.k (.k (.k (.k (.k (.k (.k .z))))))))) : Keep _ _).sat w
       ·refine St.xef ?_
        refine St.buildSlice rfl rfl rfl rfl rfl rfl rfl rfl fun g4 => ?_
        refine St.xk (fun _ w => ((.d (.d (.d (.d (.k (.d (.k (.k (.d (.k .z)))))))))) : Keep _ _).sat w) ?_
        refine St.xef ?_
        refine St.loadB 0 rfl rfl (.tail _ (.tail _ (.tail _ (.tail _ (.tail _ (.tail _ (.tail _ (.tail _ (.head _))))))))) rfl rfl ?_
        refine St.xk (fun _ w => ((.d (.d (.d (.d (.k (.d (.k (.k (.d (.k .z)))))))))) : Keep _ _).sat w) ?_
        refine hnd1_0 _ _ (A11, c11, g4, A10, c10) ?_ ?_
        ·exact ⟨rfl, rfl, rfl, rfl, rfl, rfl, rfl, rfl, rfl, rfl, rfl, rfl, rfl, rfl, trivial⟩
        ·exact fun _ w => ((.k (.k (.k (.k (.k (.k (.k (.k (.k (.k .z)))))))))) : Keep _ _).sat w
     case tnd1_1 =>
      rintro ⟨A11, c11, A10, c10⟩
      refine St.asrt (F' := .ro (SlL eu8 A10 c10 r3.1.L) :: .ro (SlL eu8 A11 c11 r3.2.Data) :: .res (Box gb1 59 [.slice A10 r3.1.L.length c10, .int .i64 r3.1.At]) :: .ro (SlL eu8 A9 c9 r2.1.L) :: .res (OwnC (codL l_T_Image) 41 A4 c4 s1.2.2.1) :: .res (OwnC (codL l_T_Image) 41 A3 c3 s1.2.1) :: .res (OwnL estr 9 (some ⟨g3, 0, none⟩) c2 r1) :: .res (Box g2 26 [.slice A4 s1.2.2.1.length c4, .slice none 0 0]) :: .res (Box g1 26 [.slice A3 s1.2.1.length c3, .slice none 0 0]) :: R) (fun _ w => w) ?_
      refine St.xef ?_
      refine St.buildSlice rfl rfl rfl rfl rfl rfl rfl rfl fun g4 => ?_
      refine St.xk (fun _ w => ((.d (.d (.d (.d (.k (.d (.k (.k (.d (.k .z)))))))))) : Keep _ _).sat w) ?_
      refine hnd1_0 _ _ (A11, c11, g4, A10, c10) ?_ ?_
      ·exact ⟨rfl, rfl, rfl, rfl, rfl, rfl, rfl, rfl, rfl, rfl, rfl, rfl, rfl, rfl, trivial⟩
      ·exact fun _ w => ((.k (.k (.k (.k (.k (.k (.k (.k (.k (.k .z)))))))))) : Keep _ _).sat w
    case tnd1_0 =>
     rintro ⟨A11, c11, g4, A10, c10⟩
     refine St.asrt (F' := .res (Box g4 41 (bx_T_Image r3.2 A11 c11)) :: .ro (SlL eu8 A10 c10 r3.1.L) :: .ro (SlL eu8 A11 c11 r3.2.Data) :: .res (Box gb1 59 [.slice A10 r3.1.L.length c10, .int .i64 r3.1.At]) :: .ro (SlL eu8 A9 c9 r2.1.L) :: .res (OwnC (codL l_T_Image) 41 A4 c4 s1.2.2.1) :: .res (OwnC (codL l_T_Image) 41 A3 c3 s1.2.1) :: .res (OwnL estr 9 (some ⟨g3, 0, none⟩) c2 r1) :: .res (Box g2 26 [.slice A4 s1.2.2.1.length c4, .slice none 0 0]) :: .res (Box g1 26 [.slice A3 s1.2.1.length c3, .slice none 0 0]) :: R) (fun _ w => w) ?_
     refine St.xef ?_
     refine St.appC (E := (codL l_T_Image)) hl1 rfl rfl rfl (.s (.s (.s (.s (.s .z))))) rfl rfl rfl rfl rfl rfl rfl rfl (srcBC (ls := l_T_Image) [(r3.2, ((A11, c11), ()))] (.head _) rfl rfl rfl ⟨(.tail _ (.tail _ (.head _))), trivial⟩) rfl rfl fun A12 c12 => ?_
     refine St.xk (fun _ w => ((.d (.d (.d (.d (.d (.k (.k (.k (.d (.k .z)))))))))) : Keep _ _).sat w) ?_
     refine St.xfl (fun _ h => h) (Rd.p rfl) rfl ?_
     refine St.xef ?_
     refine St.store 0 rfl rfl rfl rfl rfl rfl (.s (.s (.s (.s (.s (.s (.s (.s .z)))))))) rfl ?_
     refine St.xk (fun _ w => ((.d (.d (.d (.d (.d (.d (.k (.k (.k (.k .z)))))))))) : Keep _ _).sat w) ?_
     refine St.xdone ?_
     refine St.blkN ?_
     refine St.thenN ?_
     refine St.prune (Γ' := [(0, _), (2, _), (3, _), (6, _), (7, _), (8, _)]) ⟨rfl, rfl, rfl, rfl, rfl, rfl, trivial⟩ (.k (.k (.d (.k (.d (.k (.d (.k (.k (.k .z)))))))))) ?_
     refine St.region ?_
     refine St.p rfl rfl ?_
     refine St.p rfl rfl ?_
     refine St.done ?_
     injection h1 with h1
     subst h1
     refine St.thenN ?_
     exact St.again _ (A3, c3, A12, c12, A10, c10) hm1 trivial ⟨rfl, rfl, rfl, rfl, rfl, rfl, trivial⟩ (fun _ w => ((.k (.k (.k (.k (.k (.k (.k .z))))))) : Keep _ _).sat (((((((w.front (.s (.s (.s .z)))).front (.s (.s (.s (.s (.s (.s .z))))))).front (.s (.s .z))).front (.s (.s (.s (.s (.s (.s .z))))))).front (.s (.s (.s (.s (.s (.s .z))))))).front (.s (.s (.s (.s (.s .z)))))).front (.s (.s (.s (.s (.s (.s .z))))))))
   ·replace h1 := bif_f hb2 h1
    refine St.skip ?_
    refine St.blkN ?_
    refine St.thenN ?_
    refine St.prune (Γ' := [(0, _), (2, _), (3, _), (6, _), (7, _), (8, _)]) ⟨rfl, rfl, rfl, rfl, rfl, rfl, trivial⟩ (.k (.k (.k (.k (.k (.k (.k .z))))))) ?_
    refine St.region ?_
    refine St.p rfl rfl ?_
    refine St.p rfl rfl ?_
    refine St.done ?_
    injection h1 with h1
    subst h1
    refine St.thenN ?_
    exact St.again _ (A3, c3, A4, c4, A9, c9) hm1 trivial ⟨rfl, rfl, rfl, rfl, rfl, rfl, trivial⟩ (fun _ w => ((.k (.k (.k (.k (.k (.k (.k .z))))))) : Keep _ _).sat (((((((w.front (.s .z)).front (.s (.s (.s (.s (.s (.s .z))))))).front (.s (.s (.s (.s (.s (.s .z))))))).front (.s (.s (.s (.s (.s (.s .z))))))).front (.s (.s (.s (.s (.s (.s .z))))))).front (.s (.s (.s (.s (.s (.s .z))))))).front (.s (.s (.s (.s (.s (.s .z))))))))
  ·replace h1 := bif_f hb1 h1
   refine St.exit ?_
   repeat (first | refine St.thenX ?_ | refine St.blkMiss rfl ?_)
   refine St.blkHit ?_
   injection h1 with h1
   subst h1
   have ho := hd1 _ rfl
   subst ho
   refine St.thenN ?_
   exact St.hereE (A3, c3, A4, c4, A5, c5) ⟨rfl, rfl, rfl, trivial⟩ (fun _ w => ((.k (.k (.k (.d (.k (.k (.k .z))))))) : Keep _ _).sat w)
 ·rintro ⟨A6, c6, A7, c7, A8, c8⟩
  refine St.seq ?_
  refine St.region ?_
  refine St.p rfl rfl ?_
  obtain ⟨r4, hr4, h⟩ := bnd_e h
  refine St.call (c_field_Codes_Needs hr4) ent29 rfl rfl rfl (fun _ w => Sat.dup (G := [.ro (SlL eu8 A8 c8 o1.2.2.1)]) rfl ⟨(.tail _ (.head _)), trivial⟩ (w.front (.s (.s (.s (.s (.s .z))))))) ?_
  rintro _ _ ⟨A13, c13, A14, c14, rfl, rfl⟩
  refine St.asrt (F' := .ro (SlL eu8 A13 c13 r4.1.L) :: .res (Box gb1 59 [.slice A13 r4.1.L.length c13, .int .i64 r4.1.At]) :: .res (OwnL e_Need 67 A14 c14 r4.2) :: .ro (SlL eu8 A8 c8 o1.2.2.1) :: .res (OwnC (codL l_T_Image) 41 A7 c7 o1.2.1) :: .res (OwnC (codL l_T_Image) 41 A6 c6 o1.1) :: .res (Box g2 26 [.slice A7 o1.2.1.length c7, .slice none 0 0]) :: .res (Box g1 26 [.slice A6 o1.1.length c6, .slice none 0 0]) :: R) (fun _ w => w) ?_
  refine St.p rfl rfl ?_
  refine St.store 1 rfl rfl rfl rfl rfl rfl (.s (.s (.s (.s (.s (.s .z)))))) rfl ?_
  refine St.done ?_
  refine St.thenN ?_
  refine St.prune (Γ' := [(0, _), (2, _), (3, _)]) ⟨rfl, rfl, rfl, trivial⟩ (.k (.k (.k (.k (.d (.k (.k (.k .z)))))))) ?_
  refine St.seq ?_
  refine St.seq ?_
  obtain ⟨o2, hj1, h⟩ := bnd_e h
  refine St.cutE (fun (e3 : Option Addr × Nat) => [(2, .pointer (some ⟨g1, 0, none⟩)), (3, .pointer (some ⟨g2, 0, none⟩)), (35, .bool o2.1)]) (fun e3 => .ro (SlL eu8 e3.1 e3.2 o2.2.1) :: .res (Box g2 26 [.slice A7 o1.2.1.length c7, .slice A14 r4.2.length c14]) :: .res (Box gb1 59 [.slice e3.1 o2.2.1.length e3.2, .int .i64 o2.2.2]) :: .res (OwnL e_Need 67 A14 c14 r4.2) :: .res (OwnC (codL l_T_Image) 41 A7 c7 o1.2.1) :: .res (OwnC (codL l_T_Image) 41 A6 c6 o1.1) :: .res (Box g1 26 [.slice A6 o1.1.length c6, .slice none 0 0]) :: R) ?_ ?_
  ·refine St.region ?_
   refine St.p rfl rfl ?_
   obtain ⟨r5, hr5, hj1⟩ := bnd_e hj1
   refine St.call (c_field_Codes_Next hr5) ent27 rfl rfl rfl (fun _ w => Sat.dup (G := [.ro (SlL eu8 A13 c13 r4.1.L)]) rfl ⟨(.tail _ (.tail _ (.head _))), trivial⟩ (w.front (.s (.s .z)))) ?_
   rintro _ _ ⟨A16, c16, rfl, rfl⟩
   refine St.asrt (F' := .ro (SlL eu8 A16 c16 r5.1.L) :: .res (Box gb1 59 [.slice A16 r5.1.L.length c16, .int .i64 r5.1.At]) :: .res (Box g2 26 [.slice A7 o1.2.1.length c7, .slice A14 r4.2.length c14]) :: .ro (SlL eu8 A13 c13 r4.1.L) :: .res (OwnL e_Need 67 A14 c14 r4.2) :: .res (OwnC (codL l_T_Image) 41 A7 c7 o1.2.1) :: .res (OwnC (codL l_T_Image) 41 A6 c6 o1.1) :: .res (Box g1 26 [.slice A6 o1.1.length c6, .slice none 0 0]) :: R) (fun _ w => w) ?_
   refine St.p rfl rfl ?_
   refine St.p rfl rfl ?_
   refine St.gSplit (dj := 30) _ rfl (fun hb3 => ?_) (fun hb3 => ?_)
   ·replace hj1 := bif_t hb3 hj1
    refine St.gOn (dj := 30) rfl rfl ?_
    refine St.p rfl rfl ?_
    refine St.gOn (dj := 30) rfl rfl ?_
    refine St.loadB 0 rfl rfl (.tail _ (.tail _ (.head _))) rfl rfl ?_
    refine St.gOn (dj := 30) rfl rfl ?_
    refine St.p rfl rfl ?_
    refine St.gOn (dj := 30) rfl rfl ?_
    refine St.p rfl rfl ?_
    refine St.p rfl rfl ?_
    refine St.done ?_
    injection hj1 with hj1
    subst hj1
    refine St.thenN ?_
    exact St.hereE (A16, c16) ⟨rfl, rfl, rfl, trivial⟩ (fun _ w => ((.k (.k (.k (.k (.k (.k (.k (.d .z)))))))) : Keep _ _).sat (((((((w.front (.s (.s (.s (.s (.s (.s (.s .z)))))))).front (.s (.s (.s (.s (.s (.s (.s .z)))))))).front (.s (.s (.s (.s (.s (.s (.s .z)))))))).front (.s (.s (.s (.s (.s (.s (.s .z)))))))).front (.s (.s (.s (.s (.s .z)))))).front (.s (.s (.s (.s (.s (.s .z))))))).front (.s (.s (.s (.s (.s (.s .z))))))))
   ·replace hj1 := bif_f hb3 hj1
    refine St.gOff (dj := 30) rfl rfl rfl rfl ?_
    refine St.gOff (dj := 30) rfl rfl rfl rfl ?_
    refine St.gOff (dj := 30) rfl rfl rfl rfl ?_
    refine St.gOff (dj := 30) rfl rfl rfl rfl ?_
    refine St.p rfl rfl ?_
    refine St.done ?_
    injection hj1 with hj1
    subst hj1
    refine St.thenN ?_
    exact St.hereE (A16, c16) ⟨rfl, rfl, rfl, trivial⟩ (fun _ w => ((.k (.k (.k (.k (.k (.k (.k (.d .z)))))))) : Keep _ _).sat (((((((w.front (.s (.s (.s (.s (.s (.s (.s .z)))))))).front (.s (.s (.s (.s (.s (.s (.s .z)))))))).front (.s (.s (.s (.s (.s (.s (.s .z)))))))).front (.s (.s (.s (.s (.s (.s (.s .z)))))))).front (.s (.s (.s (.s (.s .z)))))).front (.s (.s (.s (.s (.s (.s .z))))))).front (.s (.s (.s (.s (.s (.s .z))))))))
  ·rintro ⟨A15, c15⟩
   refine St.cond _ rfl (fun hb4 => ?_) (fun hb4 => ?_)
   ·replace h := bif_t hb4 h
    obtain ⟨x2, hx2, h⟩ := bnd_e h
    refine St.openOC (.tail _ (.tail _ (.tail _ (.tail _ (.head _))))) hx2 fun g5 hA => ?_
    subst hA
    obtain ⟨x3, hx3, h⟩ := bnd_e h
    obtain ⟨x4, hx4, h⟩ := bnd_e h
    obtain ⟨x5, hx5, h⟩ := bnd_e h
    obtain ⟨l2, hl2, h⟩ := bnd_e h
    obtain ⟨x6, hx6, h⟩ := bnd_e h
    obtain ⟨l3, hl3, h⟩ := bnd_e h
    refine St.regionX (iL [(.fl, 0), (.fl, 2), (.fl, 4), (.fl, 8)] (.alt (iL [(.ef, 1)] (.alt (iL [(.ef, 3)] (.alt (iL [(.ef, 5), (.fl, 6)] (.alt (iL [(.ef, 7)] (iL [(.ef, 9), (.fl, 10)] (iL [(.ef, 11), (.fl, 12)] (iL [(.ef, 13), (.fx, 14)] (iL [(.ef, 15)] .nil))))) (iL [(.ef, 9), (.fl, 10)] (.alt (iL [(.ef, 7)] (iL [(.ef, 11), (.fl, 12)] (iL [(.ef, 13), (.fx, 14)] (iL [(.ef, 15)] .nil)))) (iL [(.ef, 11)] (iL [(.ef, 7), (.fl, 12)] (iL [(.ef, 13), (.fx, 14)] (iL [(.ef, 15)] .nil)))))))) (iL [(.ef, 9), (.fl, 10)] (.alt (iL [(.ef, 5), (.fl, 6)] (.alt (iL [(.ef, 7)] (iL [(.ef, 11), (.fl, 12)] (iL [(.ef, 13), (.fx, 14)] (iL [(.ef, 15)] .nil)))) (iL [(.ef, 11)] (iL [(.ef, 7), (.fl, 12)] (iL [(.ef, 13), (.fx, 14)] (iL [(.ef, 15)] .nil)))))) (iL [(.ef, 11)] (iL [(.ef, 5), (.fl, 6)] (iL [(.ef, 7), (.fl, 12)] (iL [(.ef, 13), (.fx, 14)] (iL [(.ef, 15)] .nil))))))))) (.alt (iL [(.ef, 5), (.fl, 6)] (.alt (iL [(.ef, 3)] (.alt (iL [(.ef, 7)] (iL [(.ef, 9), (.fl, 10)] (iL [(.ef, 11), (.fl, 12)] (iL [(.ef, 13), (.fx, 14)] (iL [(.ef, 15)] .nil))))) (iL [(.ef, 9), (.fl, 10)] (.alt (iL [(.ef, 7)] (iL [(.ef, 11), (.fl, 12)] (iL [(.ef, 13), (.fx, 14)] (iL [(.ef, 15)] .nil)))) (iL [(.ef, 11)] (iL [(.ef, 7), (.fl, 12)] (iL [(.ef, 13), (.fx, 14)] (iL [(.ef, 15)] .nil)))))))) (.alt (iL [(.ef, 7)] (.alt (iL [(.ef, 3)] (iL [(.ef, 9), (.fl, 10)] (iL [(.ef, 11), (.fl, 12)] (iL [(.ef, 13), (.fx, 14)] (iL [(.ef, 15)] .nil))))) (iL [(.ef, 9), (.fl, 10)] (.alt (iL [(.ef, 3)] (iL [(.ef, 11), (.fl, 12)] (iL [(.ef, 13), (.fx, 14)] (iL [(.ef, 15)] .nil)))) (iL [(.ef, 11), (.fl, 12)] (.alt (iL [(.ef, 3)] (iL [(.ef, 13), (.fx, 14)] (iL [(.ef, 15)] .nil))) (iL [(.ef, 13)] (iL [(.ef, 3), (.fx, 14)] (iL [(.ef, 15)] .nil))))))))) (iL [(.ef, 9), (.fl, 10)] (.alt (iL [(.ef, 3)] (.alt (iL [(.ef, 7)] (iL [(.ef, 11), (.fl, 12)] (iL [(.ef, 13), (.fx, 14)] (iL [(.ef, 15)] .nil)))) (iL [(.ef, 11)] (iL [(.ef, 7), (.fl, 12)] (iL [(.ef, 13), (.fx, 14)] (iL [(.ef, 15)] .nil)))))) (.alt (iL [(.ef, 7)] (.alt (iL [(.ef, 3)] (iL [(.ef, 11), (.fl, 12)] (iL [(.ef, 13), (.fx, 14)] (iL [(.ef, 15)] .nil)))) (iL [(.ef, 11), (.fl, 12)] (.alt (iL [(.ef, 3)] (iL [(.ef, 13), (.fx, 14)] (iL [(.ef, 15)] .nil))) (iL [(.ef, 13)] (iL [(.ef, 3), (.fx, 14)] (iL [(.ef, 15)] .nil))))))) (iL [(.ef, 11)] (.alt (iL [(.ef, 3)] (iL [(.ef, 7), (.fl, 12)] (iL [(.ef, 13), (.fx, 14)] (iL [(.ef, 15)] .nil)))) (iL [(.ef, 7), (.fl, 12)] (.alt (iL [(.ef, 3)] (iL [(.ef, 13), (.fx, 14)] (iL [(.ef, 15)] .nil))) (iL [(.ef, 13)] (iL [(.ef, 3), (.fx, 14)] (iL [(.ef, 15)] .nil))))))))))))) (iL [(.ef, 9), (.fl, 10)] (.alt (iL [(.ef, 3)] (.alt (iL [(.ef, 5), (.fl, 6)] (.alt (iL [(.ef, 7)] (iL [(.ef, 11), (.fl, 12)] (iL [(.ef, 13), (.fx, 14)] (iL [(.ef, 15)] .nil)))) (iL [(.ef, 11)] (iL [(.ef, 7), (.fl, 12)] (iL [(.ef, 13), (.fx, 14)] (iL [(.ef, 15)] .nil)))))) (iL [(.ef, 11)] (iL [(.ef, 5), (.fl, 6)] (iL [(.ef, 7), (.fl, 12)] (iL [(.ef, 13), (.fx, 14)] (iL [(.ef, 15)] .nil))))))) (.alt (iL [(.ef, 5), (.fl, 6)] (.alt (iL [(.ef, 3)] (.alt (iL [(.ef, 7)] (iL [(.ef, 11), (.fl, 12)] (iL [(.ef, 13), (.fx, 14)] (iL [(.ef, 15)] .nil)))) (iL [(.ef, 11)] (iL [(.ef, 7), (.fl, 12)] (iL [(.ef, 13), (.fx, 14)] (iL [(.ef, 15)] .nil)))))) (.alt (iL [(.ef, 7)] (.alt (iL [(.ef, 3)] (iL [(.ef, 11), (.fl, 12)] (iL [(.ef, 13), (.fx, 14)] (iL [(.ef, 15)] .nil)))) (iL [(.ef, 11), (.fl, 12)] (.alt (iL [(.ef, 3)] (iL [(.ef, 13), (.fx, 14)] (iL [(.ef, 15)] .nil))) (iL [(.ef, 13)] (iL [(.ef, 3), (.fx, 14)] (iL [(.ef, 15)] .nil))))))) (iL [(.ef, 11)] (.alt (iL [(.ef, 3)] (iL [(.ef, 7), (.fl, 12)] (iL [(.ef, 13), (.fx, 14)] (iL [(.ef, 15)] .nil)))) (iL [(.ef, 7), (.fl, 12)] (.alt (iL [(.ef, 3)] (iL [(.ef, 13), (.fx, 14)] (iL [(.ef, 15)] .nil))) (iL [(.ef, 13)] (iL [(.ef, 3), (.fx, 14)] (iL [(.ef, 15)] .nil)))))))))) (iL [(.ef, 11)] (.alt (iL [(.ef, 3)] (iL [(.ef, 5), (.fl, 6)] (iL [(.ef, 7), (.fl, 12)] (iL [(.ef, 13), (.fx, 14)] (iL [(.ef, 15)] .nil))))) (iL [(.ef, 5), (.fl, 6)] (.alt (iL [(.ef, 3)] (iL [(.ef, 7), (.fl, 12)] (iL [(.ef, 13), (.fx, 14)] (iL [(.ef, 15)] .nil)))) (iL [(.ef, 7), (.fl, 12)] (.alt (iL [(.ef, 3)] (iL [(.ef, 13), (.fx, 14)] (iL [(.ef, 15)] .nil))) (iL [(.ef, 13)] (iL [(.ef, 3), (.fx, 14)] (iL [(.ef, 15)] .nil))))))))))))))) (.alt (iL [(.ef, 3)] (.alt (iL [(.ef, 1)] (.alt (iL [(.ef, 5), (.fl, 6)] (.alt (iL [(.ef, 7)] (iL [(.ef, 9), (.fl, 10)] (iL [(.ef, 11), (.fl, 12)] (iL [(.ef, 13), (.fx, 14)] (iL [(.ef, 15)] .nil))))) (iL [(.ef, 9), (.fl, 10)] (.alt (iL [(.ef, 7)] (iL [(.ef, 11), (.fl, 12)] (iL [(.ef, 13), (.fx, 14)] (iL [(.ef, 15)] .nil)))) (iL [(.ef, 11)] (iL [(.ef, 7), (.fl, 12)] (iL [(.ef, 13), (.fx, 14)] (iL [(.ef, 15)] .nil)))))))) (iL [(.ef, 9), (.fl, 10)] (.alt (iL [(.ef, 5), (.fl, 6)] (.alt (iL [(.ef, 7)] (iL [(.ef, 11), (.fl, 12)] (iL [(.ef, 13), (.fx, 14)] (iL [(.ef, 15)] .nil)))) (iL [(.ef, 11)] (iL [(.ef, 7), (.fl, 12)] (iL [(.ef, 13), (.fx, 14)] (iL [(.ef, 15)] .nil)))))) (iL [(.ef, 11)] (iL [(.ef, 5), (.fl, 6)] (iL [(.ef, 7), (.fl, 12)] (iL [(.ef, 13), (.fx, 14)] (iL [(.ef, 15)] .nil))))))))) (.alt (iL [(.ef, 5), (.fl, 6)] (.alt (iL [(.ef, 1)] (.alt (iL [(.ef, 7)] (iL [(.ef, 9), (.fl, 10)] (iL [(.ef, 11), (.fl, 12)] (iL [(.ef, 13), (.fx, 14)] (iL [(.ef, 15)] .nil))))) (iL [(.ef, 9), (.fl, 10)] (.alt (iL [(.ef, 7)] (iL [(.ef, 11), (.fl, 12)] (iL [(.ef, 13), (.fx, 14)] (iL [(.ef, 15)] .nil)))) (iL [(.ef, 11)] (iL [(.ef, 7), (.fl, 12)] (iL [(.ef, 13), (.fx, 14)] (iL [(.ef, 15)] .nil)))))))) (.alt (iL [(.ef, 7)] (.alt (iL [(.ef, 1)] (iL [(.ef, 9), (.fl, 10)] (iL [(.ef, 11), (.fl, 12)] (iL [(.ef, 13), (.fx, 14)] (iL [(.ef, 15)] .nil))))) (iL [(.ef, 9), (.fl, 10)] (.alt (iL [(.ef, 1)] (iL [(.ef, 11), (.fl, 12)] (iL [(.ef, 13), (.fx, 14)] (iL [(.ef, 15)] .nil)))) (iL [(.ef, 11)] (iL [(.ef, 1), (.fl, 12)] (iL [(.ef, 13), (.fx, 14)] (iL [(.ef, 15)] .nil)))))))) (iL [(.ef, 9), (.fl, 10)] (.alt (iL [(.ef, 1)] (.alt (iL [(.ef, 7)] (iL [(.ef, 11), (.fl, 12)] (iL [(.ef, 13), (.fx, 14)] (iL [(.ef, 15)] .nil)))) (iL [(.ef, 11)] (iL [(.ef, 7), (.fl, 12)] (iL [(.ef, 13), (.fx, 14)] (iL [(.ef, 15)] .nil)))))) (.alt (iL [(.ef, 7)] (.alt (iL [(.ef, 1)] (iL [(.ef, 11), (.fl, 12)] (iL [(.ef, 13), (.fx, 14)] (iL [(.ef, 15)] .nil)))) (iL [(.ef, 11)] (iL [(.ef, 1), (.fl, 12)] (iL [(.ef, 13), (.fx, 14)] (iL [(.ef, 15)] .nil)))))) (iL [(.ef, 11)] (.alt (iL [(.ef, 1)] (iL [(.ef, 7), (.fl, 12)] (iL [(.ef, 13), (.fx, 14)] (iL [(.ef, 15)] .nil)))) (iL [(.ef, 7)] (iL [(.ef, 1), (.fl, 12)] (iL [(.ef, 13), (.fx, 14)] (iL [(.ef, 15)] .nil)))))))))))) (iL [(.ef, 9), (.fl, 10)] (.alt (iL [(.ef, 1)] (.alt (iL [(.ef, 5), (.fl, 6)] (.alt (iL [(.ef, 7)] (iL [(.ef, 11), (.fl, 12)] (iL [(.ef, 13), (.fx, 14)] (iL [(.ef, 15)] .nil)))) (iL [(.ef, 11)] (iL [(.ef, 7), (.fl, 12)] (iL [(.ef, 13), (.fx, 14)] (iL [(.ef, 15)] .nil)))))) (iL [(.ef, 11)] (iL [(.ef, 5), (.fl, 6)] (iL [(.ef, 7), (.fl, 12)] (iL [(.ef, 13), (.fx, 14)] (iL [(.ef, 15)] .nil))))))) (.alt (iL [(.ef, 5), (.fl, 6)] (.alt (iL [(.ef, 1)] (.alt (iL [(.ef, 7)] (iL [(.ef, 11), (.fl, 12)] (iL [(.ef, 13), (.fx, 14)] (iL [(.ef, 15)] .nil)))) (iL [(.ef, 11)] (iL [(.ef, 7), (.fl, 12)] (iL [(.ef, 13), (.fx, 14)] (iL [(.ef, 15)] .nil)))))) (.alt (iL [(.ef, 7)] (.alt (iL [(.ef, 1)] (iL [(.ef, 11), (.fl, 12)] (iL [(.ef, 13), (.fx, 14)] (iL [(.ef, 15)] .nil)))) (iL [(.ef, 11)] (iL [(.ef, 1), (.fl, 12)] (iL [(.ef, 13), (.fx, 14)] (iL [(.ef, 15)] .nil)))))) (iL [(.ef, 11)] (.alt (iL [(.ef, 1)] (iL [(.ef, 7), (.fl, 12)] (iL [(.ef, 13), (.fx, 14)] (iL [(.ef, 15)] .nil)))) (iL [(.ef, 7)] (iL [(.ef, 1), (.fl, 12)] (iL [(.ef, 13), (.fx, 14)] (iL [(.ef, 15)] .nil))))))))) (iL [(.ef, 11)] (.alt (iL [(.ef, 1)] (iL [(.ef, 5), (.fl, 6)] (iL [(.ef, 7), (.fl, 12)] (iL [(.ef, 13), (.fx, 14)] (iL [(.ef, 15)] .nil))))) (iL [(.ef, 5), (.fl, 6)] (.alt (iL [(.ef, 1)] (iL [(.ef, 7), (.fl, 12)] (iL [(.ef, 13), (.fx, 14)] (iL [(.ef, 15)] .nil)))) (iL [(.ef, 7)] (iL [(.ef, 1), (.fl, 12)] (iL [(.ef, 13), (.fx, 14)] (iL [(.ef, 15)] .nil)))))))))))))) (.alt (iL [(.ef, 5), (.fl, 6)] (.alt (iL [(.ef, 1)] (.alt (iL [(.ef, 3)] (.alt (iL [(.ef, 7)] (iL [(.ef, 9), (.fl, 10)] (iL [(.ef, 11), (.fl, 12)] (iL [(.ef, 13), (.fx, 14)] (iL [(.ef, 15)] .nil))))) (iL [(.ef, 9), (.fl, 10)] (.alt (iL [(.ef, 7)] (iL [(.ef, 11), (.fl, 12)] (iL [(.ef, 13), (.fx, 14)] (iL [(.ef, 15)] .nil)))) (iL [(.ef, 11)] (iL [(.ef, 7), (.fl, 12)] (iL [(.ef, 13), (.fx, 14)] (iL [(.ef, 15)] .nil)))))))) (.alt (iL [(.ef, 7)] (.alt (iL [(.ef, 3)] (iL [(.ef, 9), (.fl, 10)] (iL [(.ef, 11), (.fl, 12)] (iL [(.ef, 13), (.fx, 14)] (iL [(.ef, 15)] .nil))))) (iL [(.ef, 9), (.fl, 10)] (.alt (iL [(.ef, 3)] (iL [(.ef, 11), (.fl, 12)] (iL [(.ef, 13), (.fx, 14)] (iL [(.ef, 15)] .nil)))) (iL [(.ef, 11), (.fl, 12)] (.alt (iL [(.ef, 3)] (iL [(.ef, 13), (.fx, 14)] (iL [(.ef, 15)] .nil))) (iL [(.ef, 13)] (iL [(.ef, 3), (.fx, 14)] (iL [(.ef, 15)] .nil))))))))) (iL [(.ef, 9), (.fl, 10)] (.alt (iL [(.ef, 3)] (.alt (iL [(.ef, 7)] (iL [(.ef, 11), (.fl, 12)] (iL [(.ef, 13), (.fx, 14)] (iL [(.ef, 15)] .nil)))) (iL [(.ef, 11)] (iL [(.ef, 7), (.fl, 12)] (iL [(.ef, 13), (.fx, 14)] (iL [(.ef, 15)] .nil)))))) (.alt (iL [(.ef, 7)] (.alt (iL [(.ef, 3)] (iL [(.ef, 11), (.fl, 12)] (iL [(.ef, 13), (.fx, 14)] (iL [(.ef, 15)] .nil)))) (iL [(.ef, 11), (.fl, 12)] (.alt (iL [(.ef, 3)] (iL [(.ef, 13), (.fx, 14)] (iL [(.ef, 15)] .nil))) (iL [(.ef, 13)] (iL [(.ef, 3), (.fx, 14)] (iL [(.ef, 15)] .nil))))))) (iL [(.ef, 11)] (.alt (iL [(.ef, 3)] (iL [(.ef, 7), (.fl, 12)] (iL [(.ef, 13), (.fx, 14)] (iL [(.ef, 15)] .nil)))) (iL [(.ef, 7), (.fl, 12)] (.alt (iL [(.ef, 3)] (iL [(.ef, 13), (.fx, 14)] (iL [(.ef, 15)] .nil))) (iL [(.ef, 13)] (iL [(.ef, 3), (.fx, 14)] (iL [(.ef, 15)] .nil))))))))))))) (.alt (iL [(.ef, 3)] (.alt (iL [(.ef, 1)] (.alt (iL [(.ef, 7)] (iL [(.ef, 9), (.fl, 10)] (iL [(.ef, 11), (.fl, 12)] (iL [(.ef, 13), (.fx, 14)] (iL [(.ef, 15)] .nil))))) (iL [(.ef, 9), (.fl, 10)] (.alt (iL [(.ef, 7)] (iL [(.ef, 11), (.fl, 12)] (iL [(.ef, 13), (.fx, 14)] (iL [(.ef, 15)] .nil)))) (iL [(.ef, 11)] (iL [(.ef, 7), (.fl, 12)] (iL [(.ef, 13), (.fx, 14)] (iL [(.ef, 15)] .nil)))))))) (.alt (iL [(.ef, 7)] (.alt (iL [(.ef, 1)] (iL [(.ef, 9), (.fl, 10)] (iL [(.ef, 11), (.fl, 12)] (iL [(.ef, 13), (.fx, 14)] (iL [(.ef, 15)] .nil))))) (iL [(.ef, 9), (.fl, 10)] (.alt (iL [(.ef, 1)] (iL [(.ef, 11), (.fl, 12)] (iL [(.ef, 13), (.fx, 14)] (iL [(.ef, 15)] .nil)))) (iL [(.ef, 11)] (iL [(.ef, 1), (.fl, 12)] (iL [(.ef, 13), (.fx, 14)] (iL [(.ef, 15)] .nil)))))))) (iL [(.ef, 9), (.fl, 10)] (.alt (iL [(.ef, 1)] (.alt (iL [(.ef, 7)] (iL [(.ef, 11), (.fl, 12)] (iL [(.ef, 13), (.fx, 14)] (iL [(.ef, 15)] .nil)))) (iL [(.ef, 11)] (iL [(.ef, 7), (.fl, 12)] (iL [(.ef, 13), (.fx, 14)] (iL [(.ef, 15)] .nil)))))) (.alt (iL [(.ef, 7)] (.alt (iL [(.ef, 1)] (iL [(.ef, 11), (.fl, 12)] (iL [(.ef, 13), (.fx, 14)] (iL [(.ef, 15)] .nil)))) (iL [(.ef, 11)] (iL [(.ef, 1), (.fl, 12)] (iL [(.ef, 13), (.fx, 14)] (iL [(.ef, 15)] .nil)))))) (iL [(.ef, 11)] (.alt (iL [(.ef, 1)] (iL [(.ef, 7), (.fl, 12)] (iL [(.ef, 13), (.fx, 14)] (iL [(.ef, 15)] .nil)))) (iL [(.ef, 7)] (iL [(.ef, 1), (.fl, 12)] (iL [(.ef, 13), (.fx, 14)] (iL [(.ef, 15)] .nil)))))))))))) (.alt (iL [(.ef, 7)] (.alt (iL [(.ef, 1)] (.alt (iL [(.ef, 3)] (iL [(.ef, 9), (.fl, 10)] (iL [(.ef, 11), (.fl, 12)] (iL [(.ef, 13), (.fx, 14)] (iL [(.ef, 15)] .nil))))) (iL [(.ef, 9), (.fl, 10)] (.alt (iL [(.ef, 3)] (iL [(.ef, 11), (.fl, 12)] (iL [(.ef, 13), (.fx, 14)] (iL [(.ef, 15)] .nil)))) (iL [(.ef, 11), (.fl, 12)] (.alt (iL [(.ef, 3)] (iL [(.ef, 13), (.fx, 14)] (iL [(.ef, 15)] .nil))) (iL [(.ef, 13)] (iL [(.ef, 3), (.fx, 14)] (iL [(.ef, 15)] .nil))))))))) (.alt (iL [(.ef, 3)] (.alt (iL [(.ef, 1)] (iL [(.ef, 9), (.fl, 10)] (iL [(.ef, 11), (.fl, 12)] (iL [(.ef, 13), (.fx, 14)] (iL [(.ef, 15)] .nil))))) (iL [(.ef, 9), (.fl, 10)] (.alt (iL [(.ef, 1)] (iL [(.ef, 11), (.fl, 12)] (iL [(.ef, 13), (.fx, 14)] (iL [(.ef, 15)] .nil)))) (iL [(.ef, 11)] (iL [(.ef, 1), (.fl, 12)] (iL [(.ef, 13), (.fx, 14)] (iL [(.ef, 15)] .nil)))))))) (iL [(.ef, 9), (.fl, 10)] (.alt (iL [(.ef, 1)] (.alt (iL [(.ef, 3)] (iL [(.ef, 11), (.fl, 12)] (iL [(.ef, 13), (.fx, 14)] (iL [(.ef, 15)] .nil)))) (iL [(.ef, 11), (.fl, 12)] (.alt (iL [(.ef, 3)] (iL [(.ef, 13), (.fx, 14)] (iL [(.ef, 15)] .nil))) (iL [(.ef, 13)] (iL [(.ef, 3), (.fx, 14)] (iL [(.ef, 15)] .nil))))))) (.alt (iL [(.ef, 3)] (.alt (iL [(.ef, 1)] (iL [(.ef, 11), (.fl, 12)] (iL [(.ef, 13), (.fx, 14)] (iL [(.ef, 15)] .nil)))) (iL [(.ef, 11)] (iL [(.ef, 1), (.fl, 12)] (iL [(.ef, 13), (.fx, 14)] (iL [(.ef, 15)] .nil)))))) (iL [(.ef, 11)] (.alt (iL [(.ef, 1), (.fl, 12)] (.alt (iL [(.ef, 3)] (iL [(.ef, 13), (.fx, 14)] (iL [(.ef, 15)] .nil))) (iL [(.ef, 13)] (iL [(.ef, 3), (.fx, 14)] (iL [(.ef, 15)] .nil))))) (iL [(.ef, 3)] (iL [(.ef, 1), (.fl, 12)] (iL [(.ef, 13), (.fx, 14)] (iL [(.ef, 15)] .nil)))))))))))) (iL [(.ef, 9), (.fl, 10)] (.alt (iL [(.ef, 1)] (.alt (iL [(.ef, 3)] (.alt (iL [(.ef, 7)] (iL [(.ef, 11), (.fl, 12)] (iL [(.ef, 13), (.fx, 14)] (iL [(.ef, 15)] .nil)))) (iL [(.ef, 11)] (iL [(.ef, 7), (.fl, 12)] (iL [(.ef, 13), (.fx, 14)] (iL [(.ef, 15)] .nil)))))) (.alt (iL [(.ef, 7)] (.alt (iL [(.ef, 3)] (iL [(.ef, 11), (.fl, 12)] (iL [(.ef, 13), (.fx, 14)] (iL [(.ef, 15)] .nil)))) (iL [(.ef, 11), (.fl, 12)] (.alt (iL [(.ef, 3)] (iL [(.ef, 13), (.fx, 14)] (iL [(.ef, 15)] .nil))) (iL [(.ef, 13)] (iL [(.ef, 3), (.fx, 14)] (iL [(.ef, 15)] .nil))))))) (iL [(.ef, 11)] (.alt (iL [(.ef, 3)] (iL [(.ef, 7), (.fl, 12)] (iL [(.ef, 13), (.fx, 14)] (iL [(.ef, 15)] .nil)))) (iL [(.ef, 7), (.fl, 12)] (.alt (iL [(.ef, 3)] (iL [(.ef, 13), (.fx, 14)] (iL [(.ef, 15)] .nil))) (iL [(.ef, 13)] (iL [(.ef, 3), (.fx, 14)] (iL [(.ef, 15)] .nil)))))))))) (.alt (iL [(.ef, 3)] (.alt (iL [(.ef, 1)] (.alt (iL [(.ef, 7)] (iL [(.ef, 11), (.fl, 12)] (iL [(.ef, 13), (.fx, 14)] (iL [(.ef, 15)] .nil)))) (iL [(.ef, 11)] (iL [(.ef, 7), (.fl, 12)] (iL [(.ef, 13), (.fx, 14)] (iL [(.ef, 15)] .nil)))))) (.alt (iL [(.ef, 7)] (.alt (iL [(.ef, 1)] (iL [(.ef, 11), (.fl, 12)] (iL [(.ef, 13), (.fx, 14)] (iL [(.ef, 15)] .nil)))) (iL [(.ef, 11)] (iL [(.ef, 1), (.fl, 12)] (iL [(.ef, 13), (.fx, 14)] (iL [(.ef, 15)] .nil)))))) (iL [(.ef, 11)] (.alt (iL [(.ef, 1)] (iL [(.ef, 7), (.fl, 12)] (iL [(.ef, 13), (.fx, 14)] (iL [(.ef, 15)] .nil)))) (iL [(.ef, 7)] (iL [(.ef, 1), (.fl, 12)] (iL [(.ef, 13), (.fx, 14)] (iL [(.ef, 15)] .nil))))))))) (.alt (iL [(.ef, 7)] (.alt (iL [(.ef, 1)] (.alt (iL [(.ef, 3)] (iL [(.ef, 11), (.fl, 12)] (iL [(.ef, 13), (.fx, 14)] (iL [(.ef, 15)] .nil)))) (iL [(.ef, 11), (.fl, 12)] (.alt (iL [(.ef, 3)] (iL [(.ef, 13), (.fx, 14)] (iL [(.ef, 15)] .nil))) (iL [(.ef, 13)] (iL [(.ef, 3), (.fx, 14)] (iL [(.ef, 15)] .nil))))))) (.alt (iL [(.ef, 3)] (.alt (iL [(.ef, 1)] (iL [(.ef, 11), (.fl, 12)] (iL [(.ef, 13), (.fx, 14)] (iL [(.ef, 15)] .nil)))) (iL [(.ef, 11)] (iL [(.ef, 1), (.fl, 12)] (iL [(.ef, 13), (.fx, 14)] (iL [(.ef, 15)] .nil)))))) (iL [(.ef, 11)] (.alt (iL [(.ef, 1), (.fl, 12)] (.alt (iL [(.ef, 3)] (iL [(.ef, 13), (.fx, 14)] (iL [(.ef, 15)] .nil))) (iL [(.ef, 13)] (iL [(.ef, 3), (.fx, 14)] (iL [(.ef, 15)] .nil))))) (iL [(.ef, 3)] (iL [(.ef, 1), (.fl, 12)] (iL [(.ef, 13), (.fx, 14)] (iL [(.ef, 15)] .nil))))))))) (iL [(.ef, 11)] (.alt (iL [(.ef, 1)] (.alt (iL [(.ef, 3)] (iL [(.ef, 7), (.fl, 12)] (iL [(.ef, 13), (.fx, 14)] (iL [(.ef, 15)] .nil)))) (iL [(.ef, 7), (.fl, 12)] (.alt (iL [(.ef, 3)] (iL [(.ef, 13), (.fx, 14)] (iL [(.ef, 15)] .nil))) (iL [(.ef, 13)] (iL [(.ef, 3), (.fx, 14)] (iL [(.ef, 15)] .nil))))))) (.alt (iL [(.ef, 3)] (.alt (iL [(.ef, 1)] (iL [(.ef, 7), (.fl, 12)] (iL [(.ef, 13), (.fx, 14)] (iL [(.ef, 15)] .nil)))) (iL [(.ef, 7)] (iL [(.ef, 1), (.fl, 12)] (iL [(.ef, 13), (.fx, 14)] (iL [(.ef, 15)] .nil)))))) (iL [(.ef, 7)] (.alt (iL [(.ef, 1), (.fl, 12)] (.alt (iL [(.ef, 3)] (iL [(.ef, 13), (.fx, 14)] (iL [(.ef, 15)] .nil))) (iL [(.ef, 13)] (iL [(.ef, 3), (.fx, 14)] (iL [(.ef, 15)] .nil))))) (iL [(.ef, 3)] (iL [(.ef, 1), (.fl, 12)] (iL [(.ef, 13), (.fx, 14)] (iL [(.ef, 15)] .nil))))))))))))))))) (iL [(.ef, 9), (.fl, 10)] (.alt (iL [(.ef, 1)] (.alt (iL [(.ef, 3)] (.alt (iL [(.ef, 5), (.fl, 6)] (.alt (iL [(.ef, 7)] (iL [(.ef, 11), (.fl, 12)] (iL [(.ef, 13), (.fx, 14)] (iL [(.ef, 15)] .nil)))) (iL [(.ef, 11)] (iL [(.ef, 7), (.fl, 12)] (iL [(.ef, 13), (.fx, 14)] (iL [(.ef, 15)] .nil)))))) (iL [(.ef, 11)] (iL [(.ef, 5), (.fl, 6)] (iL [(.ef, 7), (.fl, 12)] (iL [(.ef, 13), (.fx, 14)] (iL [(.ef, 15)] .nil))))))) (.alt (iL [(.ef, 5), (.fl, 6)] (.alt (iL [(.ef, 3)] (.alt (iL [(.ef, 7)] (iL [(.ef, 11), (.fl, 12)] (iL [(.ef, 13), (.fx, 14)] (iL [(.ef, 15)] .nil)))) (iL [(.ef, 11)] (iL [(.ef, 7), (.fl, 12)] (iL [(.ef, 13), (.fx, 14)] (iL [(.ef, 15)] .nil)))))) (.alt (iL [(.ef, 7)] (.alt (iL [(.ef, 3)] (iL [(.ef, 11), (.fl, 12)] (iL [(.ef, 13), (.fx, 14)] (iL [(.ef, 15)] .nil)))) (iL [(.ef, 11), (.fl, 12)] (.alt (iL [(.ef, 3)] (iL [(.ef, 13), (.fx, 14)] (iL [(.ef, 15)] .nil))) (iL [(.ef, 13)] (iL [(.ef, 3), (.fx, 14)] (iL [(.ef, 15)] .nil))))))) (iL [(.ef, 11)] (.alt (iL [(.ef, 3)] (iL [(.ef, 7), (.fl, 12)] (iL [(.ef, 13), (.fx, 14)] (iL [(.ef, 15)] .nil)))) (iL [(.ef, 7), (.fl, 12)] (.alt (iL [(.ef, 3)] (iL [(.ef, 13), (.fx, 14)] (iL [(.ef, 15)] .nil))) (iL [(.ef, 13)] (iL [(.ef, 3), (.fx, 14)] (iL [(.ef, 15)] .nil)))))))))) (iL [(.ef, 11)] (.alt (iL [(.ef, 3)] (iL [(.ef, 5), (.fl, 6)] (iL [(.ef, 7), (.fl, 12)] (iL [(.ef, 13), (.fx, 14)] (iL [(.ef, 15)] .nil))))) (iL [(.ef, 5), (.fl, 6)] (.alt (iL [(.ef, 3)] (iL [(.ef, 7), (.fl, 12)] (iL [(.ef, 13), (.fx, 14)] (iL [(.ef, 15)] .nil)))) (iL [(.ef, 7), (.fl, 12)] (.alt (iL [(.ef, 3)] (iL [(.ef, 13), (.fx, 14)] (iL [(.ef, 15)] .nil))) (iL [(.ef, 13)] (iL [(.ef, 3), (.fx, 14)] (iL [(.ef, 15)] .nil)))))))))))) (.alt (iL [(.ef, 3)] (.alt (iL [(.ef, 1)] (.alt (iL [(.ef, 5), (.fl, 6)] (.alt (iL [(.ef, 7)] (iL [(.ef, 11), (.fl, 12)] (iL [(.ef, 13), (.fx, 14)] (iL [(.ef, 15)] .nil)))) (iL [(.ef, 11)] (iL [(.ef, 7), (.fl, 12)] (iL [(.ef, 13), (.fx, 14)] (iL [(.ef, 15)] .nil)))))) (iL [(.ef, 11)] (iL [(.ef, 5), (.fl, 6)] (iL [(.ef, 7), (.fl, 12)] (iL [(.ef, 13), (.fx, 14)] (iL [(.ef, 15)] .nil))))))) (.alt (iL [(.ef, 5), (.fl, 6)] (.alt (iL [(.ef, 1)] (.alt (iL [(.ef, 7)] (iL [(.ef, 11), (.fl, 12)] (iL [(.ef, 13), (.fx, 14)] (iL [(.ef, 15)] .nil)))) (iL [(.ef, 11)] (iL [(.ef, 7), (.fl, 12)] (iL [(.ef, 13), (.fx, 14)] (iL [(.ef, 15)] .nil)))))) (.alt (iL [(.ef, 7)] (.alt (iL [(.ef, 1)] (iL [(.ef, 11), (.fl, 12)] (iL [(.ef, 13), (.fx, 14)] (iL [(.ef, 15)] .nil)))) (iL [(.ef, 11)] (iL [(.ef, 1), (.fl, 12)] (iL [(.ef, 13), (.fx, 14)] (iL [(.ef, 15)] .nil)))))) (iL [(.ef, 11)] (.alt (iL [(.ef, 1)] (iL [(.ef, 7), (.fl, 12)] (iL [(.ef, 13), (.fx, 14)] (iL [(.ef, 15)] .nil)))) (iL [(.ef, 7)] (iL [(.ef, 1), (.fl, 12)] (iL [(.ef, 13), (.fx, 14)] (iL [(.ef, 15)] .nil))))))))) (iL [(.ef, 11)] (.alt (iL [(.ef, 1)] (iL [(.ef, 5), (.fl, 6)] (iL [(.ef, 7), (.fl, 12)] (iL [(.ef, 13), (.fx, 14)] (iL [(.ef, 15)] .nil))))) (iL [(.ef, 5), (.fl, 6)] (.alt (iL [(.ef, 1)] (iL [(.ef, 7), (.fl, 12)] (iL [(.ef, 13), (.fx, 14)] (iL [(.ef, 15)] .nil)))) (iL [(.ef, 7)] (iL [(.ef, 1), (.fl, 12)] (iL [(.ef, 13), (.fx, 14)] (iL [(.ef, 15)] .nil))))))))))) (.alt (iL [(.ef, 5), (.fl, 6)] (.alt (iL [(.ef, 1)] (.alt (iL [(.ef, 3)] (.alt (iL [(.ef, 7)] (iL [(.ef, 11), (.fl, 12)] (iL [(.ef, 13), (.fx, 14)] (iL [(.ef, 15)] .nil)))) (iL [(.ef, 11)] (iL [(.ef, 7), (.fl, 12)] (iL [(.ef, 13), (.fx, 14)] (iL [(.ef, 15)] .nil)))))) (.alt (iL [(.ef, 7)] (.alt (iL [(.ef, 3)] (iL [(.ef, 11), (.fl, 12)] (iL [(.ef, 13), (.fx, 14)] (iL [(.ef, 15)] .nil)))) (iL [(.ef, 11), (.fl, 12)] (.alt (iL [(.ef, 3)] (iL [(.ef, 13), (.fx, 14)] (iL [(.ef, 15)] .nil))) (iL [(.ef, 13)] (iL [(.ef, 3), (.fx, 14)] (iL [(.ef, 15)] .nil))))))) (iL [(.ef, 11)] (.alt (iL [(.ef, 3)] (iL [(.ef, 7), (.fl, 12)] (iL [(.ef, 13), (.fx, 14)] (iL [(.ef, 15)] .nil)))) (iL [(.ef, 7), (.fl, 12)] (.alt (iL [(.ef, 3)] (iL [(.ef, 13), (.fx, 14)] (iL [(.ef, 15)] .nil))) (iL [(.ef, 13)] (iL [(.ef, 3), (.fx, 14)] (iL [(.ef, 15)] .nil)))))))))) (.alt (iL [(.ef, 3)] (.alt (iL [(.ef, 1)] (.alt (iL [(.ef, 7)] (iL [(.ef, 11), (.fl, 12)] (iL [(.ef, 13), (.fx, 14)] (iL [(.ef, 15)] .nil)))) (iL [(.ef, 11)] (iL [(.ef, 7), (.fl, 12)] (iL [(.ef, 13), (.fx, 14)] (iL [(.ef, 15)] .nil)))))) (.alt (iL [(.ef, 7)] (.alt (iL [(.ef, 1)] (iL [(.ef, 11), (.fl, 12)] (iL [(.ef, 13), (.fx, 14)] (iL [(.ef, 15)] .nil)))) (iL [(.ef, 11)] (iL [(.ef, 1), (.fl, 12)] (iL [(.ef, 13), (.fx, 14)] (iL [(.ef, 15)] .nil)))))) (iL [(.ef, 11)] (.alt (iL [(.ef, 1)] (iL [(.ef, 7), (.fl, 12)] (iL [(.ef, 13), (.fx, 14)] (iL [(.ef, 15)] .nil)))) (iL [(.ef, 7)] (iL [(.ef, 1), (.fl, 12)] (iL [(.ef, 13), (.fx, 14)] (iL [(.ef, 15)] .nil))))))))) (.alt (iL [(.ef, 7)] (.alt (iL [(.ef, 1)] (.alt (iL [(.ef, 3)] (iL [(.ef, 11), (.fl, 12)] (iL [(.ef, 13), (.fx, 14)] (iL [(.ef, 15)] .nil)))) (iL [(.ef, 11), (.fl, 12)] (.alt (iL [(.ef, 3)] (iL [(.ef, 13), (.fx, 14)] (iL [(.ef, 15)] .nil))) (iL [(.ef, 13)] (iL [(.ef, 3), (.fx, 14)] (iL [(.ef, 15)] .nil))))))) (.alt (iL [(.ef, 3)] (.alt (iL [(.ef, 1)] (iL [(.ef, 11), (.fl, 12)] (iL [(.ef, 13), (.fx, 14)] (iL [(.ef, 15)] .nil)))) (iL [(.ef, 11)] (iL [(.ef, 1), (.fl, 12)] (iL [(.ef, 13), (.fx, 14)] (iL [(.ef, 15)] .nil)))))) (iL [(.ef, 11)] (.alt (iL [(.ef, 1), (.fl, 12)] (.alt (iL [(.ef, 3)] (iL [(.ef, 13), (.fx, 14)] (iL [(.ef, 15)] .nil))) (iL [(.ef, 13)] (iL [(.ef, 3), (.fx, 14)] (iL [(.ef, 15)] .nil))))) (iL [(.ef, 3)] (iL [(.ef, 1), (.fl, 12)] (iL [(.ef, 13), (.fx, 14)] (iL [(.ef, 15)] .nil))))))))) (iL [(.ef, 11)] (.alt (iL [(.ef, 1)] (.alt (iL [(.ef, 3)] (iL [(.ef, 7), (.fl, 12)] (iL [(.ef, 13), (.fx, 14)] (iL [(.ef, 15)] .nil)))) (iL [(.ef, 7), (.fl, 12)] (.alt (iL [(.ef, 3)] (iL [(.ef, 13), (.fx, 14)] (iL [(.ef, 15)] .nil))) (iL [(.ef, 13)] (iL [(.ef, 3), (.fx, 14)] (iL [(.ef, 15)] .nil))))))) (.alt (iL [(.ef, 3)] (.alt (iL [(.ef, 1)] (iL [(.ef, 7), (.fl, 12)] (iL [(.ef, 13), (.fx, 14)] (iL [(.ef, 15)] .nil)))) (iL [(.ef, 7)] (iL [(.ef, 1), (.fl, 12)] (iL [(.ef, 13), (.fx, 14)] (iL [(.ef, 15)] .nil)))))) (iL [(.ef, 7)] (.alt (iL [(.ef, 1), (.fl, 12)] (.alt (iL [(.ef, 3)] (iL [(.ef, 13), (.fx, 14)] (iL [(.ef, 15)] .nil))) (iL [(.ef, 13)] (iL [(.ef, 3), (.fx, 14)] (iL [(.ef, 15)] .nil))))) (iL [(.ef, 3)] (iL [(.ef, 1), (.fl, 12)] (iL [(.ef, 13), (.fx, 14)] (iL [(.ef, 15)] .nil))))))))))))) (iL [(.ef, 11)] (.alt (iL [(.ef, 1)] (.alt (iL [(.ef, 3)] (iL [(.ef, 5), (.fl, 6)] (iL [(.ef, 7), (.fl, 12)] (iL [(.ef, 13), (.fx, 14)] (iL [(.ef, 15)] .nil))))) (iL [(.ef, 5), (.fl, 6)] (.alt (iL [(.ef, 3)] (iL [(.ef, 7), (.fl, 12)] (iL [(.ef, 13), (.fx, 14)] (iL [(.ef, 15)] .nil)))) (iL [(.ef, 7), (.fl, 12)] (.alt (iL [(.ef, 3)] (iL [(.ef, 13), (.fx, 14)] (iL [(.ef, 15)] .nil))) (iL [(.ef, 13)] (iL [(.ef, 3), (.fx, 14)] (iL [(.ef, 15)] .nil))))))))) (.alt (iL [(.ef, 3)] (.alt (iL [(.ef, 1)] (iL [(.ef, 5), (.fl, 6)] (iL [(.ef, 7), (.fl, 12)] (iL [(.ef, 13), (.fx, 14)] (iL [(.ef, 15)] .nil))))) (iL [(.ef, 5), (.fl, 6)] (.alt (iL [(.ef, 1)] (iL [(.ef, 7), (.fl, 12)] (iL [(.ef, 13), (.fx, 14)] (iL [(.ef, 15)] .nil)))) (iL [(.ef, 7)] (iL [(.ef, 1), (.fl, 12)] (iL [(.ef, 13), (.fx, 14)] (iL [(.ef, 15)] .nil)))))))) (iL [(.ef, 5), (.fl, 6)] (.alt (iL [(.ef, 1)] (.alt (iL [(.ef, 3)] (iL [(.ef, 7), (.fl, 12)] (iL [(.ef, 13), (.fx, 14)] (iL [(.ef, 15)] .nil)))) (iL [(.ef, 7), (.fl, 12)] (.alt (iL [(.ef, 3)] (iL [(.ef, 13), (.fx, 14)] (iL [(.ef, 15)] .nil))) (iL [(.ef, 13)] (iL [(.ef, 3), (.fx, 14)] (iL [(.ef, 15)] .nil))))))) (.alt (iL [(.ef, 3)] (.alt (iL [(.ef, 1)] (iL [(.ef, 7), (.fl, 12)] (iL [(.ef, 13), (.fx, 14)] (iL [(.ef, 15)] .nil)))) (iL [(.ef, 7)] (iL [(.ef, 1), (.fl, 12)] (iL [(.ef, 13), (.fx, 14)] (iL [(.ef, 15)] .nil)))))) (iL [(.ef, 7)] (.alt (iL [(.ef, 1), (.fl, 12)] (.alt (iL [(.ef, 3)] (iL [(.ef, 13), (.fx, 14)] (iL [(.ef, 15)] .nil))) (iL [(.ef, 13)] (iL [(.ef, 3), (.fx, 14)] (iL [(.ef, 15)] .nil))))) (iL [(.ef, 3)] (iL [(.ef, 1), (.fl, 12)] (iL [(.ef, 13), (.fx, 14)] (iL [(.ef, 15)] .nil)))))))))))))))))))) (.ro (SlL eu8 A15 c15 o2.2.1) :: .res (Box gb1 59 [.slice A15 o2.2.1.length c15, .int .i64 o2.2.2]) :: .res (OwnL e_Need 67 A14 c14 r4.2) :: .res (OwnC (codL l_T_Image) 41 A6 c6 o1.1) :: .res (Box g1 26 [.slice A6 o1.1.length c6, .slice none 0 0]) :: R) mixed (by kernel_rfl) (fun _ w => ((.k (.d (.k (.k (.d (.k (.k .z))))))) : Keep _ _).sat w) ?_
    refine St.share (Y := ?Ynd2_0) (fun (e : Option Addr × Nat × Option Addr × Nat) => [(2, .pointer (some ⟨g1, 0, none⟩)), (3, .pointer (some ⟨g2, 0, none⟩)), (35, .bool o2.1), (36, .pointer (some ⟨g2, 0, none⟩)), (37, .slice (some ⟨g5, 0, none⟩) l2.length c7), (38, .pointer (some ⟨g2, 0, none⟩)), (39, .slice (some ⟨g5, 0, none⟩) l2.length c7), (40, .pointer (some ⟨g2, 0, none⟩)), (41, .slice (some ⟨g5, 0, none⟩) l2.length c7), (42, .pointer (some ⟨g5, Int.toNat 1 * 5, none⟩)), (43, .agg (bx_T_Image x3 e.1 e.2.1).toArray), (44, .pointer (some ⟨g2, 0, none⟩)), (45, .slice (some ⟨g5, 0, none⟩) l2.length c7), (46, .pointer (some ⟨g5, Int.toNat 0 * 5, none⟩)), (47, .agg (bx_T_Image x4 e.2.2.1 e.2.2.2).toArray), (48, .pointer (some ⟨g5, Int.toNat 0 * 5, none⟩)), (49, .pointer (some ⟨g5, Int.toNat 1 * 5, none⟩))]) (fun e => .res (OwnC (codL l_T_Image) 41 (some ⟨g5, 0, none⟩) c7 l2) :: .ro (SlL eu8 e.2.2.1 e.2.2.2 x4.Data) :: .ro (SlL eu8 e.1 e.2.1 x3.Data) :: .ro (SlL eu8 A15 c15 o2.2.1) :: .res (Box g2 26 [.slice (some ⟨g5, 0, none⟩) l2.length c7, .slice A14 r4.2.length c14]) :: .res (Box gb1 59 [.slice A15 o2.2.1.length c15, .int .i64 o2.2.2]) :: .res (OwnL e_Need 67 A14 c14 r4.2) :: .res (OwnC (codL l_T_Image) 41 A6 c6 o1.1) :: .res (Box g1 26 [.slice A6 o1.1.length c6, .slice none 0 0]) :: R) (fun hnd2_0 => ?mnd2_0) ?tnd2_0
    case mnd2_0 =>
     refine St.share (Y := ?Ynd2_1) (fun (e : Option Addr × Nat × Option Addr × Nat) => [(2, .pointer (some ⟨g1, 0, none⟩)), (3, .pointer (some ⟨g2, 0, none⟩)), (35, .bool o2.1), (36, .pointer (some ⟨g2, 0, none⟩)), (37, .slice (some ⟨g5, 0, none⟩) o1.2.1.length c7), (38, .pointer (some ⟨g2, 0, none⟩)), (39, .slice (some ⟨g5, 0, none⟩) o1.2.1.length c7), (40, .pointer (some ⟨g2, 0, none⟩)), (41, .slice (some ⟨g5, 0, none⟩) o1.2.1.length c7), (42, .pointer (some ⟨g5, Int.toNat 1 * 5, none⟩)), (43, .agg (bx_T_Image x3 e.1 e.2.1).toArray), (44, .pointer (some ⟨g2, 0, none⟩)), (45, .slice (some ⟨g5, 0, none⟩) o1.2.1.length c7), (46, .pointer (some ⟨g5, Int.toNat 0 * 5, none⟩)), (47, .agg (bx_T_Image x4 e.2.2.1 e.2.2.2).toArray), (48, .pointer (some ⟨g5, Int.toNat 0 * 5, none⟩))]) (fun e => .ro (SlL eu8 e.2.2.1 e.2.2.2 x4.Data) :: .ro (SlL eu8 e.1 e.2.1 x3.Data) :: .ro (SlL eu8 A15 c15 o2.2.1) :: .res (Box g2 26 [.slice (some ⟨g5, 0, none⟩) o1.2.1.length c7, .slice A14 r4.2.length c14]) :: .res (Box gb1 59 [.slice A15 o2.2.1.length c15, .int .i64 o2.2.2]) :: .res (OwnL e_Need 67 A14 c14 r4.2) :: .res (OwnC (codL l_T_Image) 41 (some ⟨g5, 0, none⟩) c7 o1.2.1) :: .res (OwnC (codL l_T_Image) 41 A6 c6 o1.1) :: .res (Box g1 26 [.slice A6 o1.1.length c6, .slice none 0 0]) :: R) (fun hnd2_1 => ?mnd2_1) ?tnd2_1
     case mnd2_1 =>
      refine St.share (Y := ?Ynd2_2) (fun (e : Option Addr × Nat) => [(2, .pointer (some ⟨g1, 0, none⟩)), (3, .pointer (some ⟨g2, 0, none⟩)), (35, .bool o2.1), (36, .pointer (some ⟨g2, 0, none⟩)), (37, .slice (some ⟨g5, 0, none⟩) o1.2.1.length c7), (38, .pointer (some ⟨g2, 0, none⟩)), (39, .slice (some ⟨g5, 0, none⟩) o1.2.1.length c7), (40, .pointer (some ⟨g2, 0, none⟩)), (41, .slice (some ⟨g5, 0, none⟩) o1.2.1.length c7), (42, .pointer (some ⟨g5, Int.toNat 1 * 5, none⟩)), (43, .agg (bx_T_Image x3 e.1 e.2).toArray), (44, .pointer (some ⟨g2, 0, none⟩)), (45, .slice (some ⟨g5, 0, none⟩) o1.2.1.length c7), (46, .pointer (some ⟨g5, Int.toNat 0 * 5, none⟩))]) (fun e => .ro (SlL eu8 e.1 e.2 x3.Data) :: .ro (SlL eu8 A15 c15 o2.2.1) :: .res (Box g2 26 [.slice (some ⟨g5, 0, none⟩) o1.2.1.length c7, .slice A14 r4.2.length c14]) :: .res (Box gb1 59 [.slice A15 o2.2.1.length c15, .int .i64 o2.2.2]) :: .res (OwnL e_Need 67 A14 c14 r4.2) :: .res (OwnC (codL l_T_Image) 41 (some ⟨g5, 0, none⟩) c7 o1.2.1) :: .res (OwnC (codL l_T_Image) 41 A6 c6 o1.1) :: .res (Box g1 26 [.slice A6 o1.1.length c6, .slice none 0 0]) :: R) (fun hnd2_2 => ?mnd2_2) ?tnd2_2
      case mnd2_2 =>
       refine St.share (Y := ?Ynd2_3) (fun (e : Option Addr × Nat) => [(2, .pointer (some ⟨g1, 0, none⟩)), (3, .pointer (some ⟨g2, 0, none⟩)), (35, .bool o2.1), (36, .pointer (some ⟨g2, 0, none⟩)), (37, .slice (some ⟨g5, 0, none⟩) o1.2.1.length c7), (38, .pointer (some ⟨g2, 0, none⟩)), (39, .slice (some ⟨g5, 0, none⟩) o1.2.1.length c7), (40, .pointer (some ⟨g2, 0, none⟩)), (41, .slice (some ⟨g5, 0, none⟩) o1.2.1.length c7), (42, .pointer (some ⟨g5, Int.toNat 1 * 5, none⟩)), (44, .pointer (some ⟨g2, 0, none⟩)), (45, .slice (some ⟨g5, 0, none⟩) o1.2.1.length c7), (46, .pointer (some ⟨g5, Int.toNat 0 * 5, none⟩)), (47, .agg (bx_T_Image x4 e.1 e.2).toArray)]) (fun e => .ro (SlL eu8 e.1 e.2 x4.Data) :: .ro (SlL eu8 A15 c15 o2.2.1) :: .res (Box g2 26 [.slice (some ⟨g5, 0, none⟩) o1.2.1.length c7, .slice A14 r4.2.length c14]) :: .res (Box gb1 59 [.slice A15 o2.2.1.length c15, .int .i64 o2.2.2]) :: .res (OwnL e_Need 67 A14 c14 r4.2) :: .res (OwnC (codL l_T_Image) 41 (some ⟨g5, 0, none⟩) c7 o1.2.1) :: .res (OwnC (codL l_T_Image) 41 A6 c6 o1.1) :: .res (Box g1 26 [.slice A6 o1.1.length c6, .slice none 0 0]) :: R) (fun hnd2_3 => ?mnd2_3) ?tnd2_3
       case mnd2_3 =>
        refine St.share (Y := ?Ynd2_4) (fun (e : Option Addr × Nat × Option Addr × Nat) => [(2, .pointer (some ⟨g1, 0, none⟩)), (3, .pointer (some ⟨g2, 0, none⟩)), (35, .bool o2.1), (36, .pointer (some ⟨g2, 0, none⟩)), (37, .slice (some ⟨g5, 0, none⟩) o1.2.1.length c7), (38, .pointer (some ⟨g2, 0, none⟩)), (40, .pointer (some ⟨g2, 0, none⟩)), (41, .slice (some ⟨g5, 0, none⟩) o1.2.1.length c7), (42, .pointer (some ⟨g5, Int.toNat 1 * 5, none⟩)), (43, .agg (bx_T_Image x3 e.1 e.2.1).toArray), (44, .pointer (some ⟨g2, 0, none⟩)), (45, .slice (some ⟨g5, 0, none⟩) o1.2.1.length c7), (46, .pointer (some ⟨g5, Int.toNat 0 * 5, none⟩)), (47, .agg (bx_T_Image x4 e.2.2.1 e.2.2.2).toArray), (48, .pointer (some ⟨g5, Int.toNat 0 * 5, none⟩))]) (fun e => .ro (SlL eu8 e.2.2.1 e.2.2.2 x4.Data) :: .ro (SlL eu8 e.1 e.2.1 x3.Data) :: .ro (SlL eu8 A15 c15 o2.2.1) :: .res (Box g2 26 [.slice (some ⟨g5, 0, none⟩) o1.2.1.length c7, .slice A14 r4.2.length c14]) :: .res (Box gb1 59 [.slice A15 o2.2.1.length c15, .int .i64 o2.2.2]) :: .res (OwnL e_Need 67 A14 c14 r4.2) :: .res (OwnC (codL l_T_Image) 41 (some ⟨g5, 0, none⟩) c7 o1.2.1) :: .res (OwnC (codL l_T_Image) 41 A6 c6 o1.1) :: .res (Box g1 26 [.slice A6 o1.1.length c6, .slice none 0 0]) :: R) (fun hnd2_4 => ?mnd2_4) ?tnd2_4
        case mnd2_4 =>
         refine St.share (Y := ?Ynd2_5) (fun (e : Option Addr × Nat × Option Addr × Nat) => [(2, .pointer (some ⟨g1, 0, none⟩)), (3, .pointer (some ⟨g2, 0, none⟩)), (35, .bool o2.1), (36, .pointer (some ⟨g2, 0, none⟩)), (38, .pointer (some ⟨g2, 0, none⟩)), (39, .slice (some ⟨g5, 0, none⟩) o1.2.1.length c7), (40, .pointer (some ⟨g2, 0, none⟩)), (41, .slice (some ⟨g5, 0, none⟩) o1.2.1.length c7), (42, .pointer (some ⟨g5, Int.toNat 1 * 5, none⟩)), (43, .agg (bx_T_Image x3 e.1 e.2.1).toArray), (44, .pointer (some ⟨g2, 0, none⟩)), (45, .slice (some ⟨g5, 0, none⟩) o1.2.1.length c7), (46, .pointer (some ⟨g5, Int.toNat 0 * 5, none⟩)), (47, .agg (bx_T_Image x4 e.2.2.1 e.2.2.2).toArray)]) (fun e => .ro (SlL eu8 e.2.2.1 e.2.2.2 x4.Data) :: .ro (SlL eu8 e.1 e.2.1 x3.Data) :: .ro (SlL eu8 A15 c15 o2.2.1) :: .res (Box g2 26 [.slice (some ⟨g5, 0, none⟩) o1.2.1.length c7, .slice A14 r4.2.length c14]) :: .res (Box gb1 59 [.slice A15 o2.2.1.length c15, .int .i64 o2.2.2]) :: .res (OwnL e_Need 67 A14 c14 r4.2) :: .res (OwnC (codL l_T_Image) 41 (some ⟨g5, 0, none⟩) c7 o1.2.1) :: .res (OwnC (codL l_T_Image) 41 A6 c6 o1.1) :: .res (Box g1 26 [.slice A6 o1.1.length c6, .slice none 0 0]) :: R) (fun hnd2_5 => ?mnd2_5) ?tnd2_5
         case mnd2_5 =>
          refine St.share (Y := ?Ynd2_6) (fun (e : Option Addr × Nat) => [(2, .pointer (some ⟨g1, 0, none⟩)), (3, .pointer (some ⟨g2, 0, none⟩)), (35, .bool o2.1), (36, .pointer (some ⟨g2, 0, none⟩)), (37, .slice (some ⟨g5, 0, none⟩) o1.2.1.length c7), (38, .pointer (some ⟨g2, 0, none⟩)), (39, .slice (some ⟨g5, 0, none⟩) o1.2.1.length c7), (40, .pointer (some ⟨g2, 0, none⟩)), (41, .slice (some ⟨g5, 0, none⟩) o1.2.1.length c7), (42, .pointer (some ⟨g5, Int.toNat 1 * 5, none⟩)), (43, .agg (bx_T_Image x3 e.1 e.2).toArray), (44, .pointer (some ⟨g2, 0, none⟩))]) (fun e => .ro (SlL eu8 e.1 e.2 x3.Data) :: .ro (SlL eu8 A15 c15 o2.2.1) :: .res (Box g2 26 [.slice (some ⟨g5, 0, none⟩) o1.2.1.length c7, .slice A14 r4.2.length c14]) :: .res (Box gb1 59 [.slice A15 o2.2.1.length c15, .int .i64 o2.2.2]) :: .res (OwnL e_Need 67 A14 c14 r4.2) :: .res (OwnC (codL l_T_Image) 41 (some ⟨g5, 0, none⟩) c7 o1.2.1) :: .res (OwnC (codL l_T_Image) 41 A6 c6 o1.1) :: .res (Box g1 26 [.slice A6 o1.1.length c6, .slice none 0 0]) :: R) (fun hnd2_6 => ?mnd2_6) ?tnd2_6
          case mnd2_6 =>
           refine St.share (Y := ?Ynd2_7) (fun (e : Unit) => [(2, .pointer (some ⟨g1, 0, none⟩)), (3, .pointer (some ⟨g2, 0, none⟩)), (35, .bool o2.1), (36, .pointer (some ⟨g2, 0, none⟩)), (37, .slice (some ⟨g5, 0, none⟩) o1.2.1.length c7), (38, .pointer (some ⟨g2, 0, none⟩)), (39, .slice (some ⟨g5, 0, none⟩) o1.2.1.length c7), (40, .pointer (some ⟨g2, 0, none⟩)), (41, .slice (some ⟨g5, 0, none⟩) o1.2.1.length c7), (42, .pointer (some ⟨g5, Int.toNat 1 * 5, none⟩)), (44, .pointer (some ⟨g2, 0, none⟩)), (45, .slice (some ⟨g5, 0, none⟩) o1.2.1.length c7), (46, .pointer (some ⟨g5, Int.toNat 0 * 5, none⟩))]) (fun e => .ro (SlL eu8 A15 c15 o2.2.1) :: .res (Box g2 26 [.slice (some ⟨g5, 0, none⟩) o1.2.1.length c7, .slice A14 r4.2.length c14]) :: .res (Box gb1 59 [.slice A15 o2.2.1.length c15, .int .i64 o2.2.2]) :: .res (OwnL e_Need 67 A14 c14 r4.2) :: .res (OwnC (codL l_T_Image) 41 (some ⟨g5, 0, none⟩) c7 o1.2.1) :: .res (OwnC (codL l_T_Image) 41 A6 c6 o1.1) :: .res (Box g1 26 [.slice A6 o1.1.length c6, .slice none 0 0]) :: R) (fun hnd2_7 => ?mnd2_7) ?tnd2_7
           case mnd2_7 =>
            refine St.share (Y := ?Ynd2_8) (fun (e : Option Addr × Nat) => [(2, .pointer (some ⟨g1, 0, none⟩)), (3, .pointer (some ⟨g2, 0, none⟩)), (35, .bool o2.1), (36, .pointer (some ⟨g2, 0, none⟩)), (37, .slice (some ⟨g5, 0, none⟩) o1.2.1.length c7), (38, .pointer (some ⟨g2, 0, none⟩)), (39, .slice (some ⟨g5, 0, none⟩) o1.2.1.length c7), (40, .pointer (some ⟨g2, 0, none⟩)), (44, .pointer (some ⟨g2, 0, none⟩)), (45, .slice (some ⟨g5, 0, none⟩) o1.2.1.length c7), (46, .pointer (some ⟨g5, Int.toNat 0 * 5, none⟩)), (47, .agg (bx_T_Image x4 e.1 e.2).toArray)]) (fun e => .ro (SlL eu8 e.1 e.2 x4.Data) :: .ro (SlL eu8 A15 c15 o2.2.1) :: .res (Box g2 26 [.slice (some ⟨g5, 0, none⟩) o1.2.1.length c7, .slice A14 r4.2.length c14]) :: .res (Box gb1 59 [.slice A15 o2.2.1.length c15, .int .i64 o2.2.2]) :: .res (OwnL e_Need 67 A14 c14 r4.2) :: .res (OwnC (codL l_T_Image) 41 (some ⟨g5, 0, none⟩) c7 o1.2.1) :: .res (OwnC (codL l_T_Image) 41 A6 c6 o1.1) :: .res (Box g1 26 [.slice A6 o1.1.length c6, .slice none 0 0]) :: R) (fun hnd2_8 => ?mnd2_8) ?tnd2_8
            case mnd2_8 =>
             refine St.share (Y := ?Ynd2_9) (fun (e : Option Addr × Nat) => [(2, .pointer (some ⟨g1, 0, none⟩)), (3, .pointer (some ⟨g2, 0, none⟩)), (35, .bool o2.1), (36, .pointer (some ⟨g2, 0, none⟩)), (37, .slice (some ⟨g5, 0, none⟩) o1.2.1.length c7), (38, .pointer (some ⟨g2, 0, none⟩)), (40, .pointer (some ⟨g2, 0, none⟩)), (41, .slice (some ⟨g5, 0, none⟩) o1.2.1.length c7), (42, .pointer (some ⟨g5, Int.toNat 1 * 5, none⟩)), (43, .agg (bx_T_Image x3 e.1 e.2).toArray), (44, .pointer (some ⟨g2, 0, none⟩)), (45, .slice (some ⟨g5, 0, none⟩) o1.2.1.length c7), (46, .pointer (some ⟨g5, Int.toNat 0 * 5, none⟩))]) (fun e => .ro (SlL eu8 e.1 e.2 x3.Data) :: .ro (SlL eu8 A15 c15 o2.2.1) :: .res (Box g2 26 [.slice (some ⟨g5, 0, none⟩) o1.2.1.length c7, .slice A14 r4.2.length c14]) :: .res (Box gb1 59 [.slice A15 o2.2.1.length c15, .int .i64 o2.2.2]) :: .res (OwnL e_Need 67 A14 c14 r4.2) :: .res (OwnC (codL l_T_Image) 41 (some ⟨g5, 0, none⟩) c7 o1.2.1) :: .res (OwnC (codL l_T_Image) 41 A6 c6 o1.1) :: .res (Box g1 26 [.slice A6 o1.1.length c6, .slice none 0 0]) :: R) (fun hnd2_9 => ?mnd2_9) ?tnd2_9
             case mnd2_9 =>
              refine St.share (Y := ?Ynd2_10) (fun (e : Option Addr × Nat) => [(2, .pointer (some ⟨g1, 0, none⟩)), (3, .pointer (some ⟨g2, 0, none⟩)), (35, .bool o2.1), (36, .pointer (some ⟨g2, 0, none⟩)), (37, .slice (some ⟨g5, 0, none⟩) o1.2.1.length c7), (38, .pointer (some ⟨g2, 0, none⟩)), (40, .pointer (some ⟨g2, 0, none⟩)), (41, .slice (some ⟨g5, 0, none⟩) o1.2.1.length c7), (42, .pointer (some ⟨g5, Int.toNat 1 * 5, none⟩)), (44, .pointer (some ⟨g2, 0, none⟩)), (45, .slice (some ⟨g5, 0, none⟩) o1.2.1.length c7), (46, .pointer (some ⟨g5, Int.toNat 0 * 5, none⟩)), (47, .agg (bx_T_Image x4 e.1 e.2).toArray)]) (fun e => .ro (SlL eu8 e.1 e.2 x4.Data) :: .ro (SlL eu8 A15 c15 o2.2.1) :: .res (Box g2 26 [.slice (some ⟨g5, 0, none⟩) o1.2.1.length c7, .slice A14 r4.2.length c14]) :: .res (Box gb1 59 [.slice A15 o2.2.1.length c15, .int .i64 o2.2.2]) :: .res (OwnL e_Need 67 A14 c14 r4.2) :: .res (OwnC (codL l_T_Image) 41 (some ⟨g5, 0, none⟩) c7 o1.2.1) :: .res (OwnC (codL l_T_Image) 41 A6 c6 o1.1) :: .res (Box g1 26 [.slice A6 o1.1.length c6, .slice none 0 0]) :: R) (fun hnd2_10 => ?mnd2_10) ?tnd2_10
              case mnd2_10 =>
               refine St.share (Y := ?Ynd2_11) (fun (e : Option Addr × Nat) => [(2, .pointer (some ⟨g1, 0, none⟩)), (3, .pointer (some ⟨g2, 0, none⟩)), (35, .bool o2.1), (36, .pointer (some ⟨g2, 0, none⟩)), (38, .pointer (some ⟨g2, 0, none⟩)), (39, .slice (some ⟨g5, 0, none⟩) o1.2.1.length c7), (40, .pointer (some ⟨g2, 0, none⟩)), (41, .slice (some ⟨g5, 0, none⟩) o1.2.1.length c7), (42, .pointer (some ⟨g5, Int.toNat 1 * 5, none⟩)), (43, .agg (bx_T_Image x3 e.1 e.2).toArray), (44, .pointer (some ⟨g2, 0, none⟩)), (45, .slice (some ⟨g5, 0, none⟩) o1.2.1.length c7), (46, .pointer (some ⟨g5, Int.toNat 0 * 5, none⟩))]) (fun e => .ro (SlL eu8 e.1 e.2 x3.Data) :: .ro (SlL eu8 A15 c15 o2.2.1) :: .res (Box g2 26 [.slice (some ⟨g5, 0, none⟩) o1.2.1.length c7, .slice A14 r4.2.length c14]) :: .res (Box gb1 59 [.slice A15 o2.2.1.length c15, .int .i64 o2.2.2]) :: .res (OwnL e_Need 67 A14 c14 r4.2) :: .res (OwnC (codL l_T_Image) 41 (some ⟨g5, 0, none⟩) c7 o1.2.1) :: .res (OwnC (codL l_T_Image) 41 A6 c6 o1.1) :: .res (Box g1 26 [.slice A6 o1.1.length c6, .slice none 0 0]) :: R) (fun hnd2_11 => ?mnd2_11) ?tnd2_11
               case mnd2_11 =>
                refine St.share (Y := ?Ynd2_12) (fun (e : Option Addr × Nat) => [(2, .pointer (some ⟨g1, 0, none⟩)), (3, .pointer (some ⟨g2, 0, none⟩)), (35, .bool o2.1), (36, .pointer (some ⟨g2, 0, none⟩)), (38, .pointer (some ⟨g2, 0, none⟩)), (39, .slice (some ⟨g5, 0, none⟩) o1.2.1.length c7), (40, .pointer (some ⟨g2, 0, none⟩)), (41, .slice (some ⟨g5, 0, none⟩) o1.2.1.length c7), (42, .pointer (some ⟨g5, Int.toNat 1 * 5, none⟩)), (44, .pointer (some ⟨g2, 0, none⟩)), (45, .slice (some ⟨g5, 0, none⟩) o1.2.1.length c7), (46, .pointer (some ⟨g5, Int.toNat 0 * 5, none⟩)), (47, .agg (bx_T_Image x4 e.1 e.2).toArray)]) (fun e => .ro (SlL eu8 e.1 e.2 x4.Data) :: .ro (SlL eu8 A15 c15 o2.2.1) :: .res (Box g2 26 [.slice (some ⟨g5, 0, none⟩) o1.2.1.length c7, .slice A14 r4.2.length c14]) :: .res (Box gb1 59 [.slice A15 o2.2.1.length c15, .int .i64 o2.2.2]) :: .res (OwnL e_Need 67 A14 c14 r4.2) :: .res (OwnC (codL l_T_Image) 41 (some ⟨g5, 0, none⟩) c7 o1.2.1) :: .res (OwnC (codL l_T_Image) 41 A6 c6 o1.1) :: .res (Box g1 26 [.slice A6 o1.1.length c6, .slice none 0 0]) :: R) (fun hnd2_12 => ?mnd2_12) ?tnd2_12
                case mnd2_12 =>
                 refine St.share (Y := ?Ynd2_13) (fun (e : Option Addr × Nat × Option Addr × Nat) => [(2, .pointer (some ⟨g1, 0, none⟩)), (3, .pointer (some ⟨g2, 0, none⟩)), (35, .bool o2.1), (36, .pointer (some ⟨g2, 0, none⟩)), (38, .pointer (some ⟨g2, 0, none⟩)), (40, .pointer (some ⟨g2, 0, none⟩)), (41, .slice (some ⟨g5, 0, none⟩) o1.2.1.length c7), (42, .pointer (some ⟨g5, Int.toNat 1 * 5, none⟩)), (43, .agg (bx_T_Image x3 e.1 e.2.1).toArray), (44, .pointer (some ⟨g2, 0, none⟩)), (45, .slice (some ⟨g5, 0, none⟩) o1.2.1.length c7), (46, .pointer (some ⟨g5, Int.toNat 0 * 5, none⟩)), (47, .agg (bx_T_Image x4 e.2.2.1 e.2.2.2).toArray)]) (fun e => .ro (SlL eu8 e.2.2.1 e.2.2.2 x4.Data) :: .ro (SlL eu8 e.1 e.2.1 x3.Data) :: .ro (SlL eu8 A15 c15 o2.2.1) :: .res (Box g2 26 [.slice (some ⟨g5, 0, none⟩) o1.2.1.length c7, .slice A14 r4.2.length c14]) :: .res (Box gb1 59 [.slice A15 o2.2.1.length c15, .int .i64 o2.2.2]) :: .res (OwnL e_Need 67 A14 c14 r4.2) :: .res (OwnC (codL l_T_Image) 41 (some ⟨g5, 0, none⟩) c7 o1.2.1) :: .res (OwnC (codL l_T_Image) 41 A6 c6 o1.1) :: .res (Box g1 26 [.slice A6 o1.1.length c6, .slice none 0 0]) :: R) (fun hnd2_13 => ?mnd2_13) ?tnd2_13
                 case mnd2_13 =>
                  refine St.share (Y := ?Ynd2_14) (fun (e : Unit) => [(2, .pointer (some ⟨g1, 0, none⟩)), (3, .pointer (some ⟨g2, 0, none⟩)), (35, .bool o2.1), (36, .pointer (some ⟨g2, 0, none⟩)), (37, .slice (some ⟨g5, 0, none⟩) o1.2.1.length c7), (38, .pointer (some ⟨g2, 0, none⟩)), (39, .slice (some ⟨g5, 0, none⟩) o1.2.1.length c7), (40, .pointer (some ⟨g2, 0, none⟩)), (41, .slice (some ⟨g5, 0, none⟩) o1.2.1.length c7), (42, .pointer (some ⟨g5, Int.toNat 1 * 5, none⟩)), (44, .pointer (some ⟨g2, 0, none⟩))]) (fun e => .ro (SlL eu8 A15 c15 o2.2.1) :: .res (Box g2 26 [.slice (some ⟨g5, 0, none⟩) o1.2.1.length c7, .slice A14 r4.2.length c14]) :: .res (Box gb1 59 [.slice A15 o2.2.1.length c15, .int .i64 o2.2.2]) :: .res (OwnL e_Need 67 A14 c14 r4.2) :: .res (OwnC (codL l_T_Image) 41 (some ⟨g5, 0, none⟩) c7 o1.2.1) :: .res (OwnC (codL l_T_Image) 41 A6 c6 o1.1) :: .res (Box g1 26 [.slice A6 o1.1.length c6, .slice none 0 0]) :: R) (fun hnd2_14 => ?mnd2_14) ?tnd2_14
                  case mnd2_14 =>
                   refine St.share (Y := ?Ynd2_15) (fun (e : Unit) => [(2, .pointer (some ⟨g1, 0, none⟩)), (3, .pointer (some ⟨g2, 0, none⟩)), (35, .bool o2.1), (36, .pointer (some ⟨g2, 0, none⟩)), (37, .slice (some ⟨g5, 0, none⟩) o1.2.1.length c7), (38, .pointer (some ⟨g2, 0, none⟩)), (39, .slice (some ⟨g5, 0, none⟩) o1.2.1.length c7), (40, .pointer (some ⟨g2, 0, none⟩)), (44, .pointer (some ⟨g2, 0, none⟩)), (45, .slice (some ⟨g5, 0, none⟩) o1.2.1.length c7), (46, .pointer (some ⟨g5, Int.toNat 0 * 5, none⟩))]) (fun e => .ro (SlL eu8 A15 c15 o2.2.1) :: .res (Box g2 26 [.slice (some ⟨g5, 0, none⟩) o1.2.1.length c7, .slice A14 r4.2.length c14]) :: .res (Box gb1 59 [.slice A15 o2.2.1.length c15, .int .i64 o2.2.2]) :: .res (OwnL e_Need 67 A14 c14 r4.2) :: .res (OwnC (codL l_T_Image) 41 (some ⟨g5, 0, none⟩) c7 o1.2.1) :: .res (OwnC (codL l_T_Image) 41 A6 c6 o1.1) :: .res (Box g1 26 [.slice A6 o1.1.length c6, .slice none 0 0]) :: R) (fun hnd2_15 => ?mnd2_15) ?tnd2_15
                   case mnd2_15 =>
                    refine St.share (Y := ?Ynd2_16) (fun (e : Option Addr × Nat) => [(2, .pointer (some ⟨g1, 0, none⟩)), (3, .pointer (some ⟨g2, 0, none⟩)), (35, .bool o2.1), (36, .pointer (some ⟨g2, 0, none⟩)), (37, .slice (some ⟨g5, 0, none⟩) o1.2.1.length c7), (38, .pointer (some ⟨g2, 0, none⟩)), (40, .pointer (some ⟨g2, 0, none⟩)), (41, .slice (some ⟨g5, 0, none⟩) o1.2.1.length c7), (42, .pointer (some ⟨g5, Int.toNat 1 * 5, none⟩)), (43, .agg (bx_T_Image x3 e.1 e.2).toArray), (44, .pointer (some ⟨g2, 0, none⟩))]) (fun e => .ro (SlL eu8 e.1 e.2 x3.Data) :: .ro (SlL eu8 A15 c15 o2.2.1) :: .res (Box g2 26 [.slice (some ⟨g5, 0, none⟩) o1.2.1.length c7, .slice A14 r4.2.length c14]) :: .res (Box gb1 59 [.slice A15 o2.2.1.length c15, .int .i64 o2.2.2]) :: .res (OwnL e_Need 67 A14 c14 r4.2) :: .res (OwnC (codL l_T_Image) 41 (some ⟨g5, 0, none⟩) c7 o1.2.1) :: .res (OwnC (codL l_T_Image) 41 A6 c6 o1.1) :: .res (Box g1 26 [.slice A6 o1.1.length c6, .slice none 0 0]) :: R) (fun hnd2_16 => ?mnd2_16) ?tnd2_16
                    case mnd2_16 =>
                     refine St.share (Y := ?Ynd2_17) (fun (e : Unit) => [(2, .pointer (some ⟨g1, 0, none⟩)), (3, .pointer (some ⟨g2, 0, none⟩)), (35, .bool o2.1), (36, .pointer (some ⟨g2, 0, none⟩)), (37, .slice (some ⟨g5, 0, none⟩) o1.2.1.length c7), (38, .pointer (some ⟨g2, 0, none⟩)), (40, .pointer (some ⟨g2, 0, none⟩)), (41, .slice (some ⟨g5, 0, none⟩) o1.2.1.length c7), (42, .pointer (some ⟨g5, Int.toNat 1 * 5, none⟩)), (44, .pointer (some ⟨g2, 0, none⟩)), (45, .slice (some ⟨g5, 0, none⟩) o1.2.1.length c7), (46, .pointer (some ⟨g5, Int.toNat 0 * 5, none⟩))]) (fun e => .ro (SlL eu8 A15 c15 o2.2.1) :: .res (Box g2 26 [.slice (some ⟨g5, 0, none⟩) o1.2.1.length c7, .slice A14 r4.2.length c14]) :: .res (Box gb1 59 [.slice A15 o2.2.1.length c15, .int .i64 o2.2.2]) :: .res (OwnL e_Need 67 A14 c14 r4.2) :: .res (OwnC (codL l_T_Image) 41 (some ⟨g5, 0, none⟩) c7 o1.2.1) :: .res (OwnC (codL l_T_Image) 41 A6 c6 o1.1) :: .res (Box g1 26 [.slice A6 o1.1.length c6, .slice none 0 0]) :: R) (fun hnd2_17 => ?mnd2_17) ?tnd2_17
                     case mnd2_17 =>
                      refine St.share (Y := ?Ynd2_18) (fun (e : Option Addr × Nat) => [(2, .pointer (some ⟨g1, 0, none⟩)), (3, .pointer (some ⟨g2, 0, none⟩)), (35, .bool o2.1), (36, .pointer (some ⟨g2, 0, none⟩)), (37, .slice (some ⟨g5, 0, none⟩) o1.2.1.length c7), (38, .pointer (some ⟨g2, 0, none⟩)), (40, .pointer (some ⟨g2, 0, none⟩)), (44, .pointer (some ⟨g2, 0, none⟩)), (45, .slice (some ⟨g5, 0, none⟩) o1.2.1.length c7), (46, .pointer (some ⟨g5, Int.toNat 0 * 5, none⟩)), (47, .agg (bx_T_Image x4 e.1 e.2).toArray)]) (fun e => .ro (SlL eu8 e.1 e.2 x4.Data) :: .ro (SlL eu8 A15 c15 o2.2.1) :: .res (Box g2 26 [.slice (some ⟨g5, 0, none⟩) o1.2.1.length c7, .slice A14 r4.2.length c14]) :: .res (Box gb1 59 [.slice A15 o2.2.1.length c15, .int .i64 o2.2.2]) :: .res (OwnL e_Need 67 A14 c14 r4.2) :: .res (OwnC (codL l_T_Image) 41 (some ⟨g5, 0, none⟩) c7 o1.2.1) :: .res (OwnC (codL l_T_Image) 41 A6 c6 o1.1) :: .res (Box g1 26 [.slice A6 o1.1.length c6, .slice none 0 0]) :: R) (fun hnd2_18 => ?mnd2_18) ?tnd2_18
                      case mnd2_18 =>
                       refine St.share (Y := ?Ynd2_19) (fun (e : Option Addr × Nat) => [(2, .pointer (some ⟨g1, 0, none⟩)), (3, .pointer (some ⟨g2, 0, none⟩)), (35, .bool o2.1), (36, .pointer (some ⟨g2, 0, none⟩)), (38, .pointer (some ⟨g2, 0, none⟩)), (39, .slice (some ⟨g5, 0, none⟩) o1.2.1.length c7), (40, .pointer (some ⟨g2, 0, none⟩)), (41, .slice (some ⟨g5, 0, none⟩) o1.2.1.length c7), (42, .pointer (some ⟨g5, Int.toNat 1 * 5, none⟩)), (43, .agg (bx_T_Image x3 e.1 e.2).toArray), (44, .pointer (some ⟨g2, 0, none⟩))]) (fun e => .ro (SlL eu8 e.1 e.2 x3.Data) :: .ro (SlL eu8 A15 c15 o2.2.1) :: .res (Box g2 26 [.slice (some ⟨g5, 0, none⟩) o1.2.1.length c7, .slice A14 r4.2.length c14]) :: .res (Box gb1 59 [.slice A15 o2.2.1.length c15, .int .i64 o2.2.2]) :: .res (OwnL e_Need 67 A14 c14 r4.2) :: .res (OwnC (codL l_T_Image) 41 (some ⟨g5, 0, none⟩) c7 o1.2.1) :: .res (OwnC (codL l_T_Image) 41 A6 c6 o1.1) :: .res (Box g1 26 [.slice A6 o1.1.length c6, .slice none 0 0]) :: R) (fun hnd2_19 => ?mnd2_19) ?tnd2_19
                       case mnd2_19 =>
                        refine St.share (Y := ?Ynd2_20) (fun (e : Unit) => [(2, .pointer (some ⟨g1, 0, none⟩)), (3, .pointer (some ⟨g2, 0, none⟩)), (35, .bool o2.1), (36, .pointer (some ⟨g2, 0, none⟩)), (38, .pointer (some ⟨g2, 0, none⟩)), (39, .slice (some ⟨g5, 0, none⟩) o1.2.1.length c7), (40, .pointer (some ⟨g2, 0, none⟩)), (41, .slice (some ⟨g5, 0, none⟩) o1.2.1.length c7), (42, .pointer (some ⟨g5, Int.toNat 1 * 5, none⟩)), (44, .pointer (some ⟨g2, 0, none⟩)), (45, .slice (some ⟨g5, 0, none⟩) o1.2.1.length c7), (46, .pointer (some ⟨g5, Int.toNat 0 * 5, none⟩))]) (fun e => .ro (SlL eu8 A15 c15 o2.2.1) :: .res (Box g2 26 [.slice (some ⟨g5, 0, none⟩) o1.2.1.length c7, .slice A14 r4.2.length c14]) :: .res (Box gb1 59 [.slice A15 o2.2.1.length c15, .int .i64 o2.2.2]) :: .res (OwnL e_Need 67 A14 c14 r4.2) :: .res (OwnC (codL l_T_Image) 41 (some ⟨g5, 0, none⟩) c7 o1.2.1) :: .res (OwnC (codL l_T_Image) 41 A6 c6 o1.1) :: .res (Box g1 26 [.slice A6 o1.1.length c6, .slice none 0 0]) :: R) (fun hnd2_20 => ?mnd2_20) ?tnd2_20
                        case mnd2_20 =>
                         refine St.share (Y := ?Ynd2_21) (fun (e : Option Addr × Nat) => [(2, .pointer (some ⟨g1, 0, none⟩)), (3, .pointer (some ⟨g2, 0, none⟩)), (35, .bool o2.1), (36, .pointer (some ⟨g2, 0, none⟩)), (38, .pointer (some ⟨g2, 0, none⟩)), (39, .slice (some ⟨g5, 0, none⟩) o1.2.1.length c7), (40, .pointer (some ⟨g2, 0, none⟩)), (44, .pointer (some ⟨g2, 0, none⟩)), (45, .slice (some ⟨g5, 0, none⟩) o1.2.1.length c7), (46, .pointer (some ⟨g5, Int.toNat 0 * 5, none⟩)), (47, .agg (bx_T_Image x4 e.1 e.2).toArray)]) (fun e => .ro (SlL eu8 e.1 e.2 x4.Data) :: .ro (SlL eu8 A15 c15 o2.2.1) :: .res (Box g2 26 [.slice (some ⟨g5, 0, none⟩) o1.2.1.length c7, .slice A14 r4.2.length c14]) :: .res (Box gb1 59 [.slice A15 o2.2.1.length c15, .int .i64 o2.2.2]) :: .res (OwnL e_Need 67 A14 c14 r4.2) :: .res (OwnC (codL l_T_Image) 41 (some ⟨g5, 0, none⟩) c7 o1.2.1) :: .res (OwnC (codL l_T_Image) 41 A6 c6 o1.1) :: .res (Box g1 26 [.slice A6 o1.1.length c6, .slice none 0 0]) :: R) (fun hnd2_21 => ?mnd2_21) ?tnd2_21
                         case mnd2_21 =>
                          refine St.share (Y := ?Ynd2_22) (fun (e : Option Addr × Nat) => [(2, .pointer (some ⟨g1, 0, none⟩)), (3, .pointer (some ⟨g2, 0, none⟩)), (35, .bool o2.1), (36, .pointer (some ⟨g2, 0, none⟩)), (38, .pointer (some ⟨g2, 0, none⟩)), (40, .pointer (some ⟨g2, 0, none⟩)), (41, .slice (some ⟨g5, 0, none⟩) o1.2.1.length c7), (42, .pointer (some ⟨g5, Int.toNat 1 * 5, none⟩)), (43, .agg (bx_T_Image x3 e.1 e.2).toArray), (44, .pointer (some ⟨g2, 0, none⟩)), (45, .slice (some ⟨g5, 0, none⟩) o1.2.1.length c7), (46, .pointer (some ⟨g5, Int.toNat 0 * 5, none⟩))]) (fun e => .ro (SlL eu8 e.1 e.2 x3.Data) :: .ro (SlL eu8 A15 c15 o2.2.1) :: .res (Box g2 26 [.slice (some ⟨g5, 0, none⟩) o1.2.1.length c7, .slice A14 r4.2.length c14]) :: .res (Box gb1 59 [.slice A15 o2.2.1.length c15, .int .i64 o2.2.2]) :: .res (OwnL e_Need 67 A14 c14 r4.2) :: .res (OwnC (codL l_T_Image) 41 (some ⟨g5, 0, none⟩) c7 o1.2.1) :: .res (OwnC (codL l_T_Image) 41 A6 c6 o1.1) :: .res (Box g1 26 [.slice A6 o1.1.length c6, .slice none 0 0]) :: R) (fun hnd2_22 => ?mnd2_22) ?tnd2_22
                          case mnd2_22 =>
                           refine St.share (Y := ?Ynd2_23) (fun (e : Option Addr × Nat) => [(2, .pointer (some ⟨g1, 0, none⟩)), (3, .pointer (some ⟨g2, 0, none⟩)), (35, .bool o2.1), (36, .pointer (some ⟨g2, 0, none⟩)), (38, .pointer (some ⟨g2, 0, none⟩)), (40, .pointer (some ⟨g2, 0, none⟩)), (41, .slice (some ⟨g5, 0, none⟩) o1.2.1.length c7), (42, .pointer (some ⟨g5, Int.toNat 1 * 5, none⟩)), (44, .pointer (some ⟨g2, 0, none⟩)), (45, .slice (some ⟨g5, 0, none⟩) o1.2.1.length c7), (46, .pointer (some ⟨g5, Int.toNat 0 * 5, none⟩)), (47, .agg (bx_T_Image x4 e.1 e.2).toArray)]) (fun e => .ro (SlL eu8 e.1 e.2 x4.Data) :: .ro (SlL eu8 A15 c15 o2.2.1) :: .res (Box g2 26 [.slice (some ⟨g5, 0, none⟩) o1.2.1.length c7, .slice A14 r4.2.length c14]) :: .res (Box gb1 59 [.slice A15 o2.2.1.length c15, .int .i64 o2.2.2]) :: .res (OwnL e_Need 67 A14 c14 r4.2) :: .res (OwnC (codL l_T_Image) 41 (some ⟨g5, 0, none⟩) c7 o1.2.1) :: .res (OwnC (codL l_T_Image) 41 A6 c6 o1.1) :: .res (Box g1 26 [.slice A6 o1.1.length c6, .slice none 0 0]) :: R) (fun hnd2_23 => ?mnd2_23) ?tnd2_23
                           case mnd2_23 =>
                            refine St.share (Y := ?Ynd2_24) (fun (e : Unit) => [(2, .pointer (some ⟨g1, 0, none⟩)), (3, .pointer (some ⟨g2, 0, none⟩)), (35, .bool o2.1), (36, .pointer (some ⟨g2, 0, none⟩)), (37, .slice (some ⟨g5, 0, none⟩) o1.2.1.length c7), (38, .pointer (some ⟨g2, 0, none⟩)), (39, .slice (some ⟨g5, 0, none⟩) o1.2.1.length c7), (40, .pointer (some ⟨g2, 0, none⟩)), (44, .pointer (some ⟨g2, 0, none⟩))]) (fun e => .ro (SlL eu8 A15 c15 o2.2.1) :: .res (Box g2 26 [.slice (some ⟨g5, 0, none⟩) o1.2.1.length c7, .slice A14 r4.2.length c14]) :: .res (Box gb1 59 [.slice A15 o2.2.1.length c15, .int .i64 o2.2.2]) :: .res (OwnL e_Need 67 A14 c14 r4.2) :: .res (OwnC (codL l_T_Image) 41 (some ⟨g5, 0, none⟩) c7 o1.2.1) :: .res (OwnC (codL l_T_Image) 41 A6 c6 o1.1) :: .res (Box g1 26 [.slice A6 o1.1.length c6, .slice none 0 0]) :: R) (fun hnd2_24 => ?mnd2_24) ?tnd2_24
                            case mnd2_24 =>
                             refine St.share (Y := ?Ynd2_25) (fun (e : Unit) => [(2, .pointer (some ⟨g1, 0, none⟩)), (3, .pointer (some ⟨g2, 0, none⟩)), (35, .bool o2.1), (36, .pointer (some ⟨g2, 0, none⟩)), (37, .slice (some ⟨g5, 0, none⟩) o1.2.1.length c7), (38, .pointer (some ⟨g2, 0, none⟩)), (40, .pointer (some ⟨g2, 0, none⟩)), (41, .slice (some ⟨g5, 0, none⟩) o1.2.1.length c7), (42, .pointer (some ⟨g5, Int.toNat 1 * 5, none⟩)), (44, .pointer (some ⟨g2, 0, none⟩))]) (fun e => .ro (SlL eu8 A15 c15 o2.2.1) :: .res (Box g2 26 [.slice (some ⟨g5, 0, none⟩) o1.2.1.length c7, .slice A14 r4.2.length c14]) :: .res (Box gb1 59 [.slice A15 o2.2.1.length c15, .int .i64 o2.2.2]) :: .res (OwnL e_Need 67 A14 c14 r4.2) :: .res (OwnC (codL l_T_Image) 41 (some ⟨g5, 0, none⟩) c7 o1.2.1) :: .res (OwnC (codL l_T_Image) 41 A6 c6 o1.1) :: .res (Box g1 26 [.slice A6 o1.1.length c6, .slice none 0 0]) :: R) (fun hnd2_25 => ?mnd2_25) ?tnd2_25
                             case mnd2_25 =>
                              refine St.share (Y := ?Ynd2_26) (fun (e : Unit) => [(2, .pointer (some ⟨g1, 0, none⟩)), (3, .pointer (some ⟨g2, 0, none⟩)), (35, .bool o2.1), (36, .pointer (some ⟨g2, 0, none⟩)), (37, .slice (some ⟨g5, 0, none⟩) o1.2.1.length c7), (38, .pointer (some ⟨g2, 0, none⟩)), (40, .pointer (some ⟨g2, 0, none⟩)), (44, .pointer (some ⟨g2, 0, none⟩)), (45, .slice (some ⟨g5, 0, none⟩) o1.2.1.length c7), (46, .pointer (some ⟨g5, Int.toNat 0 * 5, none⟩))]) (fun e => .ro (SlL eu8 A15 c15 o2.2.1) :: .res (Box g2 26 [.slice (some ⟨g5, 0, none⟩) o1.2.1.length c7, .slice A14 r4.2.length c14]) :: .res (Box gb1 59 [.slice A15 o2.2.1.length c15, .int .i64 o2.2.2]) :: .res (OwnL e_Need 67 A14 c14 r4.2) :: .res (OwnC (codL l_T_Image) 41 (some ⟨g5, 0, none⟩) c7 o1.2.1) :: .res (OwnC (codL l_T_Image) 41 A6 c6 o1.1) :: .res (Box g1 26 [.slice A6 o1.1.length c6, .slice none 0 0]) :: R) (fun hnd2_26 => ?mnd2_26) ?tnd2_26
                              case mnd2_26 =>
                               refine St.share (Y := ?Ynd2_27) (fun (e : Unit) => [(2, .pointer (some ⟨g1, 0, none⟩)), (3, .pointer (some ⟨g2, 0, none⟩)), (35, .bool o2.1), (36, .pointer (some ⟨g2, 0, none⟩)), (38, .pointer (some ⟨g2, 0, none⟩)), (39, .slice (some ⟨g5, 0, none⟩) o1.2.1.length c7), (40, .pointer (some ⟨g2, 0, none⟩)), (41, .slice (some ⟨g5, 0, none⟩) o1.2.1.length c7), (42, .pointer (some ⟨g5, Int.toNat 1 * 5, none⟩)), (44, .pointer (some ⟨g2, 0, none⟩))]) (fun e => .ro (SlL eu8 A15 c15 o2.2.1) :: .res (Box g2 26 [.slice (some ⟨g5, 0, none⟩) o1.2.1.length c7, .slice A14 r4.2.length c14]) :: .res (Box gb1 59 [.slice A15 o2.2.1.length c15, .int .i64 o2.2.2]) :: .res (OwnL e_Need 67 A14 c14 r4.2) :: .res (OwnC (codL l_T_Image) 41 (some ⟨g5, 0, none⟩) c7 o1.2.1) :: .res (OwnC (codL l_T_Image) 41 A6 c6 o1.1) :: .res (Box g1 26 [.slice A6 o1.1.length c6, .slice none 0 0]) :: R) (fun hnd2_27 => ?mnd2_27) ?tnd2_27
                               case mnd2_27 =>
                                refine St.share (Y := ?Ynd2_28) (fun (e : Unit) => [(2, .pointer (some ⟨g1, 0, none⟩)), (3, .pointer (some ⟨g2, 0, none⟩)), (35, .bool o2.1), (36, .pointer (some ⟨g2, 0, none⟩)), (38, .pointer (some ⟨g2, 0, none⟩)), (39, .slice (some ⟨g5, 0, none⟩) o1.2.1.length c7), (40, .pointer (some ⟨g2, 0, none⟩)), (44, .pointer (some ⟨g2, 0, none⟩)), (45, .slice (some ⟨g5, 0, none⟩) o1.2.1.length c7), (46, .pointer (some ⟨g5, Int.toNat 0 * 5, none⟩))]) (fun e => .ro (SlL eu8 A15 c15 o2.2.1) :: .res (Box g2 26 [.slice (some ⟨g5, 0, none⟩) o1.2.1.length c7, .slice A14 r4.2.length c14]) :: .res (Box gb1 59 [.slice A15 o2.2.1.length c15, .int .i64 o2.2.2]) :: .res (OwnL e_Need 67 A14 c14 r4.2) :: .res (OwnC (codL l_T_Image) 41 (some ⟨g5, 0, none⟩) c7 o1.2.1) :: .res (OwnC (codL l_T_Image) 41 A6 c6 o1.1) :: .res (Box g1 26 [.slice A6 o1.1.length c6, .slice none 0 0]) :: R) (fun hnd2_28 => ?mnd2_28) ?tnd2_28
                                case mnd2_28 =>
                                 refine St.share (Y := ?Ynd2_29) (fun (e : Unit) => [(2, .pointer (some ⟨g1, 0, none⟩)), (3, .pointer (some ⟨g2, 0, none⟩)), (35, .bool o2.1), (36, .pointer (some ⟨g2, 0, none⟩)), (38, .pointer (some ⟨g2, 0, none⟩)), (40, .pointer (some ⟨g2, 0, none⟩)), (41, .slice (some ⟨g5, 0, none⟩) o1.2.1.length c7), (42, .pointer (some ⟨g5, Int.toNat 1 * 5, none⟩)), (44, .pointer (some ⟨g2, 0, none⟩)), (45, .slice (some ⟨g5, 0, none⟩) o1.2.1.length c7), (46, .pointer (some ⟨g5, Int.toNat 0 * 5, none⟩))]) (fun e => .ro (SlL eu8 A15 c15 o2.2.1) :: .res (Box g2 26 [.slice (some ⟨g5, 0, none⟩) o1.2.1.length c7, .slice A14 r4.2.length c14]) :: .res (Box gb1 59 [.slice A15 o2.2.1.length c15, .int .i64 o2.2.2]) :: .res (OwnL e_Need 67 A14 c14 r4.2) :: .res (OwnC (codL l_T_Image) 41 (some ⟨g5, 0, none⟩) c7 o1.2.1) :: .res (OwnC (codL l_T_Image) 41 A6 c6 o1.1) :: .res (Box g1 26 [.slice A6 o1.1.length c6, .slice none 0 0]) :: R) (fun hnd2_29 => ?mnd2_29) ?tnd2_29
                                 case mnd2_29 =>
                                  refine St.xfl (fun _ h => h) (Rd.p rfl) rfl ?_
                                  refine St.xfl (fun _ h => h) (Rd.p rfl) rfl ?_
                                  refine St.xfl (fun _ h => h) (Rd.p rfl) rfl ?_
                                  refine St.xfl (fun _ h => h) (Rd.p rfl) rfl ?_
                                  refine St.xalt ?_ ?_
                                  ·refine St.xef ?_
                                   refine St.loadB 0 rfl rfl (.tail _ (.head _)) rfl rfl ?_
                                   refine St.xk (fun _ w => ((.k (.d (.k (.k (.d (.k (.k .z))))))) : Keep _ _).sat w) ?_
                                   refine St.xalt ?_ ?_
                                   ·refine St.xef ?_
                                    refine St.loadB 0 rfl rfl (.tail _ (.head _)) rfl rfl ?_
                                    refine St.xk (fun _ w => ((.k (.d (.k (.k (.d (.k (.k .z))))))) : Keep _ _).sat w) ?_
                                    refine hnd2_24 _ _ () ?_ ?_
                                    ·exact ⟨rfl, rfl, rfl, rfl, rfl, rfl, rfl, rfl, rfl, trivial⟩
                                    ·exact fun _ w => ((.k (.k (.k (.k (.k (.k (.k .z))))))) : Keep _ _).sat w
                                   ·refine St.xalt ?_ ?_
                                    ·refine St.xef ?_
                                     refine St.loadB 0 rfl rfl (.tail _ (.head _)) rfl rfl ?_
                                     refine St.xk (fun _ w => ((.k (.d (.k (.k (.d (.k (.k .z))))))) : Keep _ _).sat w) ?_
                                     refine St.xfl (fun _ h => h) (Rd.ixOC (n' := 5) hx3 rfl rfl rfl rfl rfl rfl rfl) rfl ?_
                                     refine hnd2_25 _ _ () ?_ ?_
                                     ·exact ⟨rfl, rfl, rfl, rfl, rfl, rfl, rfl, rfl, rfl, rfl, trivial⟩
                                     ·exact fun _ w => ((.k (.k (.k (.k (.k (.k (.k .z))))))) : Keep _ _).sat w
                                    ·refine St.xef ?_
                                     refine St.loadB 0 rfl rfl (.tail _ (.head _)) rfl rfl ?_
                                     refine St.xk (fun _ w => ((.k (.d (.k (.k (.d (.k (.k .z))))))) : Keep _ _).sat w) ?_
                                     refine St.xfl (fun _ h => h) (Rd.ixOC (n' := 5) hx4 rfl rfl rfl rfl rfl rfl rfl) rfl ?_
                                     refine hnd2_26 _ _ () ?_ ?_
                                     ·exact ⟨rfl, rfl, rfl, rfl, rfl, rfl, rfl, rfl, rfl, rfl, trivial⟩
                                     ·exact fun _ w => ((.k (.k (.k (.k (.k (.k (.k .z))))))) : Keep _ _).sat w
                                  ·refine St.xalt ?_ ?_
                                   ·refine St.xef ?_
                                    refine St.loadB 0 rfl rfl (.tail _ (.head _)) rfl rfl ?_
                                    refine St.xk (fun _ w => ((.k (.d (.k (.k (.d (.k (.k .z))))))) : Keep _ _).sat w) ?_
                                    refine St.xalt ?_ ?_
                                    ·refine St.xef ?_
                                     refine St.loadB 0 rfl rfl (.tail _ (.head _)) rfl rfl ?_
                                     refine St.xk (fun _ w => ((.k (.d (.k (.k (.d (.k (.k .z))))))) : Keep _ _).sat w) ?_
                                     refine hnd2_24 _ _ () ?_ ?_
                                     ·exact ⟨rfl, rfl, rfl, rfl, rfl, rfl, rfl, rfl, rfl, trivial⟩
                                     ·exact fun _ w => ((.k (.k (.k (.k (.k (.k (.k .z))))))) : Keep _ _).sat w
                                    ·refine St.xalt ?_ ?_
                                     ·refine St.xef ?_
                                      refine St.loadB 0 rfl rfl (.tail _ (.head _)) rfl rfl ?_
                                      refine St.xk (fun _ w => ((.k (.d (.k (.k (.d (.k (.k .z))))))) : Keep _ _).sat w) ?_
                                      refine St.xfl (fun _ h => h) (Rd.ixOC (n' := 5) hx3 rfl rfl rfl rfl rfl rfl rfl) rfl ?_
                                      refine hnd2_27 _ _ () ?_ ?_
                                      ·exact ⟨rfl, rfl, rfl, rfl, rfl, rfl, rfl, rfl, rfl, rfl, trivial⟩
                                      ·exact fun _ w => ((.k (.k (.k (.k (.k (.k (.k .z))))))) : Keep _ _).sat w
                                     ·refine St.xef ?_
                                      refine St.loadB 0 rfl rfl (.tail _ (.head _)) rfl rfl ?_
                                      refine St.xk (fun _ w => ((.k (.d (.k (.k (.d (.k (.k .z))))))) : Keep _ _).sat w) ?_
                                      refine St.xfl (fun _ h => h) (Rd.ixOC (n' := 5) hx4 rfl rfl rfl rfl rfl rfl rfl) rfl ?_
                                      refine hnd2_28 _ _ () ?_ ?_
                                      ·exact ⟨rfl, rfl, rfl, rfl, rfl, rfl, rfl, rfl, rfl, rfl, trivial⟩
                                      ·exact fun _ w => ((.k (.k (.k (.k (.k (.k (.k .z))))))) : Keep _ _).sat w
                                   ·refine St.xalt ?_ ?_
                                    ·refine St.xef ?_
                                     refine St.loadB 0 rfl rfl (.tail _ (.head _)) rfl rfl ?_
                                     refine St.xk (fun _ w => ((.k (.d (.k (.k (.d (.k (.k .z))))))) : Keep _ _).sat w) ?_
                                     refine St.xfl (fun _ h => h) (Rd.ixOC (n' := 5) hx3 rfl rfl rfl rfl rfl rfl rfl) rfl ?_
                                     refine St.xalt ?_ ?_
                                     ·refine St.xef ?_
                                      refine St.loadB 0 rfl rfl (.tail _ (.head _)) rfl rfl ?_
                                      refine St.xk (fun _ w => ((.k (.d (.k (.k (.d (.k (.k .z))))))) : Keep _ _).sat w) ?_
                                      refine hnd2_25 _ _ () ?_ ?_
                                      ·exact ⟨rfl, rfl, rfl, rfl, rfl, rfl, rfl, rfl, rfl, rfl, trivial⟩
                                      ·exact fun _ w => ((.k (.k (.k (.k (.k (.k (.k .z))))))) : Keep _ _).sat w
                                     ·refine St.xalt ?_ ?_
                                      ·refine St.xef ?_
                                       refine St.loadB 0 rfl rfl (.tail _ (.head _)) rfl rfl ?_
                                       refine St.xk (fun _ w => ((.k (.d (.k (.k (.d (.k (.k .z))))))) : Keep _ _).sat w) ?_
                                       refine hnd2_27 _ _ () ?_ ?_
                                       ·exact ⟨rfl, rfl, rfl, rfl, rfl, rfl, rfl, rfl, rfl, rfl, trivial⟩
                                       ·exact fun _ w => ((.k (.k (.k (.k (.k (.k (.k .z))))))) : Keep _ _).sat w
                                      ·refine St.xalt ?_ ?_
                                       ·refine St.xef ?_
                                        refine St.ldC (ls := l_T_Image) 0 (fun ex => .agg (bx_T_Image x3 ex.1.1 ex.1.2).toArray) hx3 rfl rfl (.tail _ (.tail _ (.tail _ (.tail _ (.head _))))) rfl (fun _ => rfl) fun ex1 => ?_
                                        obtain ⟨⟨A17, c17⟩, _⟩ := ex1
                                        refine St.asrt (F' := .ro (SlL eu8 A17 c17 x3.Data) :: .ro (SlL eu8 A15 c15 o2.2.1) :: .res (Box g2 26 [.slice (some ⟨g5, 0, none⟩) o1.2.1.length c7, .slice A14 r4.2.length c14]) :: .res (Box gb1 59 [.slice A15 o2.2.1.length c15, .int .i64 o2.2.2]) :: .res (OwnL e_Need 67 A14 c14 r4.2) :: .res (OwnC (codL l_T_Image) 41 (some ⟨g5, 0, none⟩) c7 o1.2.1) :: .res (OwnC (codL l_T_Image) 41 A6 c6 o1.1) :: .res (Box g1 26 [.slice A6 o1.1.length c6, .slice none 0 0]) :: R) (fun _ w => w) ?_
                                        refine St.xk (fun _ w => ((.d (.k (.d (.k (.k (.d (.k (.k .z)))))))) : Keep _ _).sat w) ?_
                                        refine St.xalt ?_ ?_
                                        ·refine St.xef ?_
                                         refine St.loadB 0 rfl rfl (.tail _ (.tail _ (.head _))) rfl rfl ?_
                                         refine St.xk (fun _ w => ((.d (.k (.d (.k (.k (.d (.k (.k .z)))))))) : Keep _ _).sat w) ?_
                                         refine hnd2_16 _ _ (A17, c17) ?_ ?_
                                         ·exact ⟨rfl, rfl, rfl, rfl, rfl, rfl, rfl, rfl, rfl, rfl, rfl, trivial⟩
                                         ·exact fun _ w => ((.k (.k (.k (.k (.k (.k (.k (.k .z)))))))) : Keep _ _).sat w
                                        ·refine St.xalt ?_ ?_
                                         ·refine St.xef ?_
                                          refine St.loadB 0 rfl rfl (.tail _ (.tail _ (.head _))) rfl rfl ?_
                                          refine St.xk (fun _ w => ((.d (.k (.d (.k (.k (.d (.k (.k .z)))))))) : Keep _ _).sat w) ?_
                                          refine hnd2_19 _ _ (A17, c17) ?_ ?_
                                          ·exact ⟨rfl, rfl, rfl, rfl, rfl, rfl, rfl, rfl, rfl, rfl, rfl, trivial⟩
                                          ·exact fun _ w => ((.k (.k (.k (.k (.k (.k (.k (.k .z)))))))) : Keep _ _).sat w
                                         ·refine St.xef ?_
                                          refine St.loadB 0 rfl rfl (.tail _ (.tail _ (.head _))) rfl rfl ?_
                                          refine St.xk (fun _ w => ((.d (.k (.d (.k (.k (.d (.k (.k .z)))))))) : Keep _ _).sat w) ?_
                                          refine St.xfl (fun _ h => h) (Rd.ixOC (n' := 5) hx4 rfl rfl rfl rfl rfl rfl rfl) rfl ?_
                                          refine hnd2_22 _ _ (A17, c17) ?_ ?_
                                          ·exact ⟨rfl, rfl, rfl, rfl, rfl, rfl, rfl, rfl, rfl, rfl, rfl, rfl, trivial⟩
                                          ·exact fun _ w => ((.k (.k (.k (.k (.k (.k (.k (.k .z)))))))) : Keep _ _).sat w
                                       ·refine St.xef ?_
                                        refine St.loadB 0 rfl rfl (.tail _ (.head _)) rfl rfl ?_
                                        refine St.xk (fun _ w => ((.k (.d (.k (.k (.d (.k (.k .z))))))) : Keep _ _).sat w) ?_
                                        refine St.xfl (fun _ h => h) (Rd.ixOC (n' := 5) hx4 rfl rfl rfl rfl rfl rfl rfl) rfl ?_
                                        refine hnd2_29 _ _ () ?_ ?_
                                        ·exact ⟨rfl, rfl, rfl, rfl, rfl, rfl, rfl, rfl, rfl, rfl, rfl, trivial⟩
                                        ·exact fun _ w => ((.k (.k (.k (.k (.k (.k (.k .z))))))) : Keep _ _).sat w
                                    ·refine St.xef ?_
                                     refine St.loadB 0 rfl rfl (.tail _ (.head _)) rfl rfl ?_
                                     refine St.xk (fun _ w => ((.k (.d (.k (.k (.d (.k (.k .z))))))) : Keep _ _).sat w) ?_
                                     refine St.xfl (fun _ h => h) (Rd.ixOC (n' := 5) hx4 rfl rfl rfl rfl rfl rfl rfl) rfl ?_
                                     refine St.xalt ?_ ?_
                                     ·refine St.xef ?_
                                      refine St.loadB 0 rfl rfl (.tail _ (.head _)) rfl rfl ?_
                                      refine St.xk (fun _ w => ((.k (.d (.k (.k (.d (.k (.k .z))))))) : Keep _ _).sat w) ?_
                                      refine hnd2_26 _ _ () ?_ ?_
                                      ·exact ⟨rfl, rfl, rfl, rfl, rfl, rfl, rfl, rfl, rfl, rfl, trivial⟩
                                      ·exact fun _ w => ((.k (.k (.k (.k (.k (.k (.k .z))))))) : Keep _ _).sat w
                                     ·refine St.xalt ?_ ?_
                                      ·refine St.xef ?_
                                       refine St.loadB 0 rfl rfl (.tail _ (.head _)) rfl rfl ?_
                                       refine St.xk (fun _ w => ((.k (.d (.k (.k (.d (.k (.k .z))))))) : Keep _ _).sat w) ?_
                                       refine hnd2_28 _ _ () ?_ ?_
                                       ·exact ⟨rfl, rfl, rfl, rfl, rfl, rfl, rfl, rfl, rfl, rfl, trivial⟩
                                       ·exact fun _ w => ((.k (.k (.k (.k (.k (.k (.k .z))))))) : Keep _ _).sat w
                                      ·refine St.xalt ?_ ?_
                                       ·refine St.xef ?_
                                        refine St.loadB 0 rfl rfl (.tail _ (.head _)) rfl rfl ?_
                                        refine St.xk (fun _ w => ((.k (.d (.k (.k (.d (.k (.k .z))))))) : Keep _ _).sat w) ?_
                                        refine St.xfl (fun _ h => h) (Rd.ixOC (n' := 5) hx3 rfl rfl rfl rfl rfl rfl rfl) rfl ?_
                                        refine hnd2_29 _ _ () ?_ ?_
                                        ·exact ⟨rfl, rfl, rfl, rfl, rfl, rfl, rfl, rfl, rfl, rfl, rfl, trivial⟩
                                        ·exact fun _ w => ((.k (.k (.k (.k (.k (.k (.k .z))))))) : Keep _ _).sat w
                                       ·refine St.xef ?_
                                        refine St.ldC (ls := l_T_Image) 0 (fun ex => .agg (bx_T_Image x4 ex.1.1 ex.1.2).toArray) hx4 rfl rfl (.tail _ (.tail _ (.tail _ (.tail _ (.head _))))) rfl (fun _ => rfl) fun ex2 => ?_
                                        obtain ⟨⟨A18, c18⟩, _⟩ := ex2
                                        refine St.asrt (F' := .ro (SlL eu8 A18 c18 x4.Data) :: .ro (SlL eu8 A15 c15 o2.2.1) :: .res (Box g2 26 [.slice (some ⟨g5, 0, none⟩) o1.2.1.length c7, .slice A14 r4.2.length c14]) :: .res (Box gb1 59 [.slice A15 o2.2.1.length c15, .int .i64 o2.2.2]) :: .res (OwnL e_Need 67 A14 c14 r4.2) :: .res (OwnC (codL l_T_Image) 41 (some ⟨g5, 0, none⟩) c7 o1.2.1) :: .res (OwnC (codL l_T_Image) 41 A6 c6 o1.1) :: .res (Box g1 26 [.slice A6 o1.1.length c6, .slice none 0 0]) :: R) (fun _ w => w) ?_
                                        refine St.xk (fun _ w => ((.d (.k (.d (.k (.k (.d (.k (.k .z)))))))) : Keep _ _).sat w) ?_
                                        refine St.xalt ?_ ?_
                                        ·refine St.xef ?_
                                         refine St.loadB 0 rfl rfl (.tail _ (.tail _ (.head _))) rfl rfl ?_
                                         refine St.xk (fun _ w => ((.d (.k (.d (.k (.k (.d (.k (.k .z)))))))) : Keep _ _).sat w) ?_
                                         refine hnd2_18 _ _ (A18, c18) ?_ ?_
                                         ·exact ⟨rfl, rfl, rfl, rfl, rfl, rfl, rfl, rfl, rfl, rfl, rfl, trivial⟩
                                         ·exact fun _ w => ((.k (.k (.k (.k (.k (.k (.k (.k .z)))))))) : Keep _ _).sat w
                                        ·refine St.xalt ?_ ?_
                                         ·refine St.xef ?_
                                          refine St.loadB 0 rfl rfl (.tail _ (.tail _ (.head _))) rfl rfl ?_
                                          refine St.xk (fun _ w => ((.d (.k (.d (.k (.k (.d (.k (.k .z)))))))) : Keep _ _).sat w) ?_
                                          refine hnd2_21 _ _ (A18, c18) ?_ ?_
                                          ·exact ⟨rfl, rfl, rfl, rfl, rfl, rfl, rfl, rfl, rfl, rfl, rfl, trivial⟩
                                          ·exact fun _ w => ((.k (.k (.k (.k (.k (.k (.k (.k .z)))))))) : Keep _ _).sat w
                                         ·refine St.xef ?_
                                          refine St.loadB 0 rfl rfl (.tail _ (.tail _ (.head _))) rfl rfl ?_
                                          refine St.xk (fun _ w => ((.d (.k (.d (.k (.k (.d (.k (.k .z)))))))) : Keep _ _).sat w) ?_
                                          refine St.xfl (fun _ h => h) (Rd.ixOC (n' := 5) hx3 rfl rfl rfl rfl rfl rfl rfl) rfl ?_
                                          refine hnd2_23 _ _ (A18, c18) ?_ ?_
                                          ·exact ⟨rfl, rfl, rfl, rfl, rfl, rfl, rfl, rfl, rfl, rfl, rfl, rfl, trivial⟩
                                          ·exact fun _ w => ((.k (.k (.k (.k (.k (.k (.k (.k .z)))))))) : Keep _ _).sat w
                                 case tnd2_29 =>
                                  rintro ⟨⟩
                                  refine St.asrt (F' := .ro (SlL eu8 A15 c15 o2.2.1) :: .res (Box g2 26 [.slice (some ⟨g5, 0, none⟩) o1.2.1.length c7, .slice A14 r4.2.length c14]) :: .res (Box gb1 59 [.slice A15 o2.2.1.length c15, .int .i64 o2.2.2]) :: .res (OwnL e_Need 67 A14 c14 r4.2) :: .res (OwnC (codL l_T_Image) 41 (some ⟨g5, 0, none⟩) c7 o1.2.1) :: .res (OwnC (codL l_T_Image) 41 A6 c6 o1.1) :: .res (Box g1 26 [.slice A6 o1.1.length c6, .slice none 0 0]) :: R) (fun _ w => w) ?_
                                  refine St.xalt ?_ ?_
                                  ·refine St.xef ?_
                                   refine St.loadB 0 rfl rfl (.tail _ (.head _)) rfl rfl ?_
                                   refine St.xk (fun _ w => ((.k (.d (.k (.k (.d (.k (.k .z))))))) : Keep _ _).sat w) ?_
                                   refine hnd2_17 _ _ () ?_ ?_
                                   ·exact ⟨rfl, rfl, rfl, rfl, rfl, rfl, rfl, rfl, rfl, rfl, rfl, rfl, trivial⟩
                                   ·exact fun _ w => ((.k (.k (.k (.k (.k (.k (.k .z))))))) : Keep _ _).sat w
                                  ·refine St.xalt ?_ ?_
                                   ·refine St.xef ?_
                                    refine St.loadB 0 rfl rfl (.tail _ (.head _)) rfl rfl ?_
                                    refine St.xk (fun _ w => ((.k (.d (.k (.k (.d (.k (.k .z))))))) : Keep _ _).sat w) ?_
                                    refine hnd2_20 _ _ () ?_ ?_
                                    ·exact ⟨rfl, rfl, rfl, rfl, rfl, rfl, rfl, rfl, rfl, rfl, rfl, rfl, trivial⟩
                                    ·exact fun _ w => ((.k (.k (.k (.k (.k (.k (.k .z))))))) : Keep _ _).sat w
                                   ·refine St.xalt ?_ ?_
                                    ·refine St.xef ?_
                                     refine St.ldC (ls := l_T_Image) 0 (fun ex => .agg (bx_T_Image x3 ex.1.1 ex.1.2).toArray) hx3 rfl rfl (.tail _ (.tail _ (.tail _ (.tail _ (.head _))))) rfl (fun _ => rfl) fun ex1 => ?_
                                     obtain ⟨⟨A17, c17⟩, _⟩ := ex1
                                     refine St.asrt (F' := .ro (SlL eu8 A17 c17 x3.Data) :: .ro (SlL eu8 A15 c15 o2.2.1) :: .res (Box g2 26 [.slice (some ⟨g5, 0, none⟩) o1.2.1.length c7, .slice A14 r4.2.length c14]) :: .res (Box gb1 59 [.slice A15 o2.2.1.length c15, .int .i64 o2.2.2]) :: .res (OwnL e_Need 67 A14 c14 r4.2) :: .res (OwnC (codL l_T_Image) 41 (some ⟨g5, 0, none⟩) c7 o1.2.1) :: .res (OwnC (codL l_T_Image) 41 A6 c6 o1.1) :: .res (Box g1 26 [.slice A6 o1.1.length c6, .slice none 0 0]) :: R) (fun _ w => w) ?_
                                     refine St.xk (fun _ w => ((.d (.k (.d (.k (.k (.d (.k (.k .z)))))))) : Keep _ _).sat w) ?_
                                     refine hnd2_22 _ _ (A17, c17) ?_ ?_
                                     ·exact ⟨rfl, rfl, rfl, rfl, rfl, rfl, rfl, rfl, rfl, rfl, rfl, rfl, trivial⟩
                                     ·exact fun _ w => ((.k (.k (.k (.k (.k (.k (.k (.k .z)))))))) : Keep _ _).sat w
                                    ·refine St.xef ?_
                                     refine St.ldC (ls := l_T_Image) 0 (fun ex => .agg (bx_T_Image x4 ex.1.1 ex.1.2).toArray) hx4 rfl rfl (.tail _ (.tail _ (.tail _ (.tail _ (.head _))))) rfl (fun _ => rfl) fun ex2 => ?_
                                     obtain ⟨⟨A18, c18⟩, _⟩ := ex2
                                     refine St.asrt (F' := .ro (SlL eu8 A18 c18 x4.Data) :: .ro (SlL eu8 A15 c15 o2.2.1) :: .res (Box g2 26 [.slice (some ⟨g5, 0, none⟩) o1.2.1.length c7, .slice A14 r4.2.length c14]) :: .res (Box gb1 59 [.slice A15 o2.2.1.length c15, .int .i64 o2.2.2]) :: .res (OwnL e_Need 67 A14 c14 r4.2) :: .res (OwnC (codL l_T_Image) 41 (some ⟨g5, 0, none⟩) c7 o1.2.1) :: .res (OwnC (codL l_T_Image) 41 A6 c6 o1.1) :: .res (Box g1 26 [.slice A6 o1.1.length c6, .slice none 0 0]) :: R) (fun _ w => w) ?_
                                     refine St.xk (fun _ w => ((.d (.k (.d (.k (.k (.d (.k (.k .z)))))))) : Keep _ _).sat w) ?_
                                     refine hnd2_23 _ _ (A18, c18) ?_ ?_
                                     ·exact ⟨rfl, rfl, rfl, rfl, rfl, rfl, rfl, rfl, rfl, rfl, rfl, rfl, trivial⟩
                                     ·exact fun _ w => ((.k (.k (.k (.k (.k (.k (.k (.k .z)))))))) : Keep _ _).sat w
                                case tnd2_28 =>
                                 rintro ⟨⟩
                                 refine St.asrt (F' := .ro (SlL eu8 A15 c15 o2.2.1) :: .res (Box g2 26 [.slice (some ⟨g5, 0, none⟩) o1.2.1.length c7, .slice A14 r4.2.length c14]) :: .res (Box gb1 59 [.slice A15 o2.2.1.length c15, .int .i64 o2.2.2]) :: .res (OwnL e_Need 67 A14 c14 r4.2) :: .res (OwnC (codL l_T_Image) 41 (some ⟨g5, 0, none⟩) c7 o1.2.1) :: .res (OwnC (codL l_T_Image) 41 A6 c6 o1.1) :: .res (Box g1 26 [.slice A6 o1.1.length c6, .slice none 0 0]) :: R) (fun _ w => w) ?_
                                 refine St.xalt ?_ ?_
                                 ·refine St.xef ?_
                                  refine St.loadB 0 rfl rfl (.tail _ (.head _)) rfl rfl ?_
                                  refine St.xk (fun _ w => ((.k (.d (.k (.k (.d (.k (.k .z))))))) : Keep _ _).sat w) ?_
                                  refine hnd2_15 _ _ () ?_ ?_
                                  ·exact ⟨rfl, rfl, rfl, rfl, rfl, rfl, rfl, rfl, rfl, rfl, rfl, trivial⟩
                                  ·exact fun _ w => ((.k (.k (.k (.k (.k (.k (.k .z))))))) : Keep _ _).sat w
                                 ·refine St.xalt ?_ ?_
                                  ·refine St.xef ?_
                                   refine St.loadB 0 rfl rfl (.tail _ (.head _)) rfl rfl ?_
                                   refine St.xk (fun _ w => ((.k (.d (.k (.k (.d (.k (.k .z))))))) : Keep _ _).sat w) ?_
                                   refine St.xfl (fun _ h => h) (Rd.ixOC (n' := 5) hx3 rfl rfl rfl rfl rfl rfl rfl) rfl ?_
                                   refine hnd2_20 _ _ () ?_ ?_
                                   ·exact ⟨rfl, rfl, rfl, rfl, rfl, rfl, rfl, rfl, rfl, rfl, rfl, rfl, trivial⟩
                                   ·exact fun _ w => ((.k (.k (.k (.k (.k (.k (.k .z))))))) : Keep _ _).sat w
                                  ·refine St.xef ?_
                                   refine St.ldC (ls := l_T_Image) 0 (fun ex => .agg (bx_T_Image x4 ex.1.1 ex.1.2).toArray) hx4 rfl rfl (.tail _ (.tail _ (.tail _ (.tail _ (.head _))))) rfl (fun _ => rfl) fun ex2 => ?_
                                   obtain ⟨⟨A18, c18⟩, _⟩ := ex2
                                   refine St.asrt (F' := .ro (SlL eu8 A18 c18 x4.Data) :: .ro (SlL eu8 A15 c15 o2.2.1) :: .res (Box g2 26 [.slice (some ⟨g5, 0, none⟩) o1.2.1.length c7, .slice A14 r4.2.length c14]) :: .res (Box gb1 59 [.slice A15 o2.2.1.length c15, .int .i64 o2.2.2]) :: .res (OwnL e_Need 67 A14 c14 r4.2) :: .res (OwnC (codL l_T_Image) 41 (some ⟨g5, 0, none⟩) c7 o1.2.1) :: .res (OwnC (codL l_T_Image) 41 A6 c6 o1.1) :: .res (Box g1 26 [.slice A6 o1.1.length c6, .slice none 0 0]) :: R) (fun _ w => w) ?_
                                   refine St.xk (fun _ w => ((.d (.k (.d (.k (.k (.d (.k (.k .z)))))))) : Keep _ _).sat w) ?_
                                   refine hnd2_21 _ _ (A18, c18) ?_ ?_
                                   ·exact ⟨rfl, rfl, rfl, rfl, rfl, rfl, rfl, rfl, rfl, rfl, rfl, trivial⟩
                                   ·exact fun _ w => ((.k (.k (.k (.k (.k (.k (.k (.k .z)))))))) : Keep _ _).sat w
                               case tnd2_27 =>
                                rintro ⟨⟩
                                refine St.asrt (F' := .ro (SlL eu8 A15 c15 o2.2.1) :: .res (Box g2 26 [.slice (some ⟨g5, 0, none⟩) o1.2.1.length c7, .slice A14 r4.2.length c14]) :: .res (Box gb1 59 [.slice A15 o2.2.1.length c15, .int .i64 o2.2.2]) :: .res (OwnL e_Need 67 A14 c14 r4.2) :: .res (OwnC (codL l_T_Image) 41 (some ⟨g5, 0, none⟩) c7 o1.2.1) :: .res (OwnC (codL l_T_Image) 41 A6 c6 o1.1) :: .res (Box g1 26 [.slice A6 o1.1.length c6, .slice none 0 0]) :: R) (fun _ w => w) ?_
                                refine St.xalt ?_ ?_
                                ·refine St.xef ?_
                                 refine St.loadB 0 rfl rfl (.tail _ (.head _)) rfl rfl ?_
                                 refine St.xk (fun _ w => ((.k (.d (.k (.k (.d (.k (.k .z))))))) : Keep _ _).sat w) ?_
                                 refine hnd2_14 _ _ () ?_ ?_
                                 ·exact ⟨rfl, rfl, rfl, rfl, rfl, rfl, rfl, rfl, rfl, rfl, rfl, trivial⟩
                                 ·exact fun _ w => ((.k (.k (.k (.k (.k (.k (.k .z))))))) : Keep _ _).sat w
                                ·refine St.xalt ?_ ?_
                                 ·refine St.xef ?_
                                  refine St.ldC (ls := l_T_Image) 0 (fun ex => .agg (bx_T_Image x3 ex.1.1 ex.1.2).toArray) hx3 rfl rfl (.tail _ (.tail _ (.tail _ (.tail _ (.head _))))) rfl (fun _ => rfl) fun ex1 => ?_
                                  obtain ⟨⟨A17, c17⟩, _⟩ := ex1
                                  refine St.asrt (F' := .ro (SlL eu8 A17 c17 x3.Data) :: .ro (SlL eu8 A15 c15 o2.2.1) :: .res (Box g2 26 [.slice (some ⟨g5, 0, none⟩) o1.2.1.length c7, .slice A14 r4.2.length c14]) :: .res (Box gb1 59 [.slice A15 o2.2.1.length c15, .int .i64 o2.2.2]) :: .res (OwnL e_Need 67 A14 c14 r4.2) :: .res (OwnC (codL l_T_Image) 41 (some ⟨g5, 0, none⟩) c7 o1.2.1) :: .res (OwnC (codL l_T_Image) 41 A6 c6 o1.1) :: .res (Box g1 26 [.slice A6 o1.1.length c6, .slice none 0 0]) :: R) (fun _ w => w) ?_
                                  refine St.xk (fun _ w => ((.d (.k (.d (.k (.k (.d (.k (.k .z)))))))) : Keep _ _).sat w) ?_
                                  refine hnd2_19 _ _ (A17, c17) ?_ ?_
                                  ·exact ⟨rfl, rfl, rfl, rfl, rfl, rfl, rfl, rfl, rfl, rfl, rfl, trivial⟩
                                  ·exact fun _ w => ((.k (.k (.k (.k (.k (.k (.k (.k .z)))))))) : Keep _ _).sat w
                                 ·refine St.xef ?_
                                  refine St.loadB 0 rfl rfl (.tail _ (.head _)) rfl rfl ?_
                                  refine St.xk (fun _ w => ((.k (.d (.k (.k (.d (.k (.k .z))))))) : Keep _ _).sat w) ?_
                                  refine St.xfl (fun _ h => h) (Rd.ixOC (n' := 5) hx4 rfl rfl rfl rfl rfl rfl rfl) rfl ?_
                                  refine hnd2_20 _ _ () ?_ ?_
                                  ·exact ⟨rfl, rfl, rfl, rfl, rfl, rfl, rfl, rfl, rfl, rfl, rfl, rfl, trivial⟩
                                  ·exact fun _ w => ((.k (.k (.k (.k (.k (.k (.k .z))))))) : Keep _ _).sat w
                              case tnd2_26 =>
                               rintro ⟨⟩
                               refine St.asrt (F' := .ro (SlL eu8 A15 c15 o2.2.1) :: .res (Box g2 26 [.slice (some ⟨g5, 0, none⟩) o1.2.1.length c7, .slice A14 r4.2.length c14]) :: .res (Box gb1 59 [.slice A15 o2.2.1.length c15, .int .i64 o2.2.2]) :: .res (OwnL e_Need 67 A14 c14 r4.2) :: .res (OwnC (codL l_T_Image) 41 (some ⟨g5, 0, none⟩) c7 o1.2.1) :: .res (OwnC (codL l_T_Image) 41 A6 c6 o1.1) :: .res (Box g1 26 [.slice A6 o1.1.length c6, .slice none 0 0]) :: R) (fun _ w => w) ?_
                               refine St.xalt ?_ ?_
                               ·refine St.xef ?_
                                refine St.loadB 0 rfl rfl (.tail _ (.head _)) rfl rfl ?_
                                refine St.xk (fun _ w => ((.k (.d (.k (.k (.d (.k (.k .z))))))) : Keep _ _).sat w) ?_
                                refine hnd2_15 _ _ () ?_ ?_
                                ·exact ⟨rfl, rfl, rfl, rfl, rfl, rfl, rfl, rfl, rfl, rfl, rfl, trivial⟩
                                ·exact fun _ w => ((.k (.k (.k (.k (.k (.k (.k .z))))))) : Keep _ _).sat w
                               ·refine St.xalt ?_ ?_
                                ·refine St.xef ?_
                                 refine St.loadB 0 rfl rfl (.tail _ (.head _)) rfl rfl ?_
                                 refine St.xk (fun _ w => ((.k (.d (.k (.k (.d (.k (.k .z))))))) : Keep _ _).sat w) ?_
                                 refine St.xfl (fun _ h => h) (Rd.ixOC (n' := 5) hx3 rfl rfl rfl rfl rfl rfl rfl) rfl ?_
                                 refine hnd2_17 _ _ () ?_ ?_
                                 ·exact ⟨rfl, rfl, rfl, rfl, rfl, rfl, rfl, rfl, rfl, rfl, rfl, rfl, trivial⟩
                                 ·exact fun _ w => ((.k (.k (.k (.k (.k (.k (.k .z))))))) : Keep _ _).sat w
                                ·refine St.xef ?_
                                 refine St.ldC (ls := l_T_Image) 0 (fun ex => .agg (bx_T_Image x4 ex.1.1 ex.1.2).toArray) hx4 rfl rfl (.tail _ (.tail _ (.tail _ (.tail _ (.head _))))) rfl (fun _ => rfl) fun ex2 => ?_
                                 obtain ⟨⟨A18, c18⟩, _⟩ := ex2
                                 refine St.asrt (F' := .ro (SlL eu8 A18 c18 x4.Data) :: .ro (SlL eu8 A15 c15 o2.2.1) :: .res (Box g2 26 [.slice (some ⟨g5, 0, none⟩) o1.2.1.length c7, .slice A14 r4.2.length c14]) :: .res (Box gb1 59 [.slice A15 o2.2.1.length c15, .int .i64 o2.2.2]) :: .res (OwnL e_Need 67 A14 c14 r4.2) :: .res (OwnC (codL l_T_Image) 41 (some ⟨g5, 0, none⟩) c7 o1.2.1) :: .res (OwnC (codL l_T_Image) 41 A6 c6 o1.1) :: .res (Box g1 26 [.slice A6 o1.1.length c6, .slice none 0 0]) :: R) (fun _ w => w) ?_
                                 refine St.xk (fun _ w => ((.d (.k (.d (.k (.k (.d (.k (.k .z)))))))) : Keep _ _).sat w) ?_
                                 refine hnd2_18 _ _ (A18, c18) ?_ ?_
                                 ·exact ⟨rfl, rfl, rfl, rfl, rfl, rfl, rfl, rfl, rfl, rfl, rfl, trivial⟩
                                 ·exact fun _ w => ((.k (.k (.k (.k (.k (.k (.k (.k .z)))))))) : Keep _ _).sat w
                             case tnd2_25 =>
                              rintro ⟨⟩
                              refine St.asrt (F' := .ro (SlL eu8 A15 c15 o2.2.1) :: .res (Box g2 26 [.slice (some ⟨g5, 0, none⟩) o1.2.1.length c7, .slice A14 r4.2.length c14]) :: .res (Box gb1 59 [.slice A15 o2.2.1.length c15, .int .i64 o2.2.2]) :: .res (OwnL e_Need 67 A14 c14 r4.2) :: .res (OwnC (codL l_T_Image) 41 (some ⟨g5, 0, none⟩) c7 o1.2.1) :: .res (OwnC (codL l_T_Image) 41 A6 c6 o1.1) :: .res (Box g1 26 [.slice A6 o1.1.length c6, .slice none 0 0]) :: R) (fun _ w => w) ?_
                              refine St.xalt ?_ ?_
                              ·refine St.xef ?_
                               refine St.loadB 0 rfl rfl (.tail _ (.head _)) rfl rfl ?_
                               refine St.xk (fun _ w => ((.k (.d (.k (.k (.d (.k (.k .z))))))) : Keep _ _).sat w) ?_
                               refine hnd2_14 _ _ () ?_ ?_
                               ·exact ⟨rfl, rfl, rfl, rfl, rfl, rfl, rfl, rfl, rfl, rfl, rfl, trivial⟩
                               ·exact fun _ w => ((.k (.k (.k (.k (.k (.k (.k .z))))))) : Keep _ _).sat w
                              ·refine St.xalt ?_ ?_
                               ·refine St.xef ?_
                                refine St.ldC (ls := l_T_Image) 0 (fun ex => .agg (bx_T_Image x3 ex.1.1 ex.1.2).toArray) hx3 rfl rfl (.tail _ (.tail _ (.tail _ (.tail _ (.head _))))) rfl (fun _ => rfl) fun ex1 => ?_
                                obtain ⟨⟨A17, c17⟩, _⟩ := ex1
                                refine St.asrt (F' := .ro (SlL eu8 A17 c17 x3.Data) :: .ro (SlL eu8 A15 c15 o2.2.1) :: .res (Box g2 26 [.slice (some ⟨g5, 0, none⟩) o1.2.1.length c7, .slice A14 r4.2.length c14]) :: .res (Box gb1 59 [.slice A15 o2.2.1.length c15, .int .i64 o2.2.2]) :: .res (OwnL e_Need 67 A14 c14 r4.2) :: .res (OwnC (codL l_T_Image) 41 (some ⟨g5, 0, none⟩) c7 o1.2.1) :: .res (OwnC (codL l_T_Image) 41 A6 c6 o1.1) :: .res (Box g1 26 [.slice A6 o1.1.length c6, .slice none 0 0]) :: R) (fun _ w => w) ?_
                                refine St.xk (fun _ w => ((.d (.k (.d (.k (.k (.d (.k (.k .z)))))))) : Keep _ _).sat w) ?_
                                refine hnd2_16 _ _ (A17, c17) ?_ ?_
                                ·exact ⟨rfl, rfl, rfl, rfl, rfl, rfl, rfl, rfl, rfl, rfl, rfl, trivial⟩
                                ·exact fun _ w => ((.k (.k (.k (.k (.k (.k (.k (.k .z)))))))) : Keep _ _).sat w
                               ·refine St.xef ?_
                                refine St.loadB 0 rfl rfl (.tail _ (.head _)) rfl rfl ?_
                                refine St.xk (fun _ w => ((.k (.d (.k (.k (.d (.k (.k .z))))))) : Keep _ _).sat w) ?_
                                refine St.xfl (fun _ h => h) (Rd.ixOC (n' := 5) hx4 rfl rfl rfl rfl rfl rfl rfl) rfl ?_
                                refine hnd2_17 _ _ () ?_ ?_
                                ·exact ⟨rfl, rfl, rfl, rfl, rfl, rfl, rfl, rfl, rfl, rfl, rfl, rfl, trivial⟩
                                ·exact fun _ w => ((.k (.k (.k (.k (.k (.k (.k .z))))))) : Keep _ _).sat w
                            case tnd2_24 =>
                             rintro ⟨⟩
                             refine St.asrt (F' := .ro (SlL eu8 A15 c15 o2.2.1) :: .res (Box g2 26 [.slice (some ⟨g5, 0, none⟩) o1.2.1.length c7, .slice A14 r4.2.length c14]) :: .res (Box gb1 59 [.slice A15 o2.2.1.length c15, .int .i64 o2.2.2]) :: .res (OwnL e_Need 67 A14 c14 r4.2) :: .res (OwnC (codL l_T_Image) 41 (some ⟨g5, 0, none⟩) c7 o1.2.1) :: .res (OwnC (codL l_T_Image) 41 A6 c6 o1.1) :: .res (Box g1 26 [.slice A6 o1.1.length c6, .slice none 0 0]) :: R) (fun _ w => w) ?_
                             refine St.xalt ?_ ?_
                             ·refine St.xef ?_
                              refine St.loadB 0 rfl rfl (.tail _ (.head _)) rfl rfl ?_
                              refine St.xk (fun _ w => ((.k (.d (.k (.k (.d (.k (.k .z))))))) : Keep _ _).sat w) ?_
                              refine St.xfl (fun _ h => h) (Rd.ixOC (n' := 5) hx3 rfl rfl rfl rfl rfl rfl rfl) rfl ?_
                              refine hnd2_14 _ _ () ?_ ?_
                              ·exact ⟨rfl, rfl, rfl, rfl, rfl, rfl, rfl, rfl, rfl, rfl, rfl, trivial⟩
                              ·exact fun _ w => ((.k (.k (.k (.k (.k (.k (.k .z))))))) : Keep _ _).sat w
                             ·refine St.xef ?_
                              refine St.loadB 0 rfl rfl (.tail _ (.head _)) rfl rfl ?_
                              refine St.xk (fun _ w => ((.k (.d (.k (.k (.d (.k (.k .z))))))) : Keep _ _).sat w) ?_
                              refine St.xfl (fun _ h => h) (Rd.ixOC (n' := 5) hx4 rfl rfl rfl rfl rfl rfl rfl) rfl ?_
                              refine hnd2_15 _ _ () ?_ ?_
                              ·exact ⟨rfl, rfl, rfl, rfl, rfl, rfl, rfl, rfl, rfl, rfl, rfl, trivial⟩
                              ·exact fun _ w => ((.k (.k (.k (.k (.k (.k (.k .z))))))) : Keep _ _).sat w
                           case tnd2_23 =>
                            rintro ⟨A18, c18⟩
                            refine St.asrt (F' := .ro (SlL eu8 A18 c18 x4.Data) :: .ro (SlL eu8 A15 c15 o2.2.1) :: .res (Box g2 26 [.slice (some ⟨g5, 0, none⟩) o1.2.1.length c7, .slice A14 r4.2.length c14]) :: .res (Box gb1 59 [.slice A15 o2.2.1.length c15, .int .i64 o2.2.2]) :: .res (OwnL e_Need 67 A14 c14 r4.2) :: .res (OwnC (codL l_T_Image) 41 (some ⟨g5, 0, none⟩) c7 o1.2.1) :: .res (OwnC (codL l_T_Image) 41 A6 c6 o1.1) :: .res (Box g1 26 [.slice A6 o1.1.length c6, .slice none 0 0]) :: R) (fun _ w => w) ?_
                            refine St.xalt ?_ ?_
                            ·refine St.xef ?_
                             refine St.loadB 0 rfl rfl (.tail _ (.tail _ (.head _))) rfl rfl ?_
                             refine St.xk (fun _ w => ((.d (.k (.d (.k (.k (.d (.k (.k .z)))))))) : Keep _ _).sat w) ?_
                             refine hnd2_10 _ _ (A18, c18) ?_ ?_
                             ·exact ⟨rfl, rfl, rfl, rfl, rfl, rfl, rfl, rfl, rfl, rfl, rfl, rfl, rfl, trivial⟩
                             ·exact fun _ w => ((.k (.k (.k (.k (.k (.k (.k (.k .z)))))))) : Keep _ _).sat w
                            ·refine St.xalt ?_ ?_
                             ·refine St.xef ?_
                              refine St.loadB 0 rfl rfl (.tail _ (.tail _ (.head _))) rfl rfl ?_
                              refine St.xk (fun _ w => ((.d (.k (.d (.k (.k (.d (.k (.k .z)))))))) : Keep _ _).sat w) ?_
                              refine hnd2_12 _ _ (A18, c18) ?_ ?_
                              ·exact ⟨rfl, rfl, rfl, rfl, rfl, rfl, rfl, rfl, rfl, rfl, rfl, rfl, rfl, trivial⟩
                              ·exact fun _ w => ((.k (.k (.k (.k (.k (.k (.k (.k .z)))))))) : Keep _ _).sat w
                             ·refine St.xef ?_
                              refine St.ldC (ls := l_T_Image) 0 (fun ex => .agg (bx_T_Image x3 ex.1.1 ex.1.2).toArray) hx3 rfl rfl (.tail _ (.tail _ (.tail _ (.tail _ (.tail _ (.head _)))))) rfl (fun _ => rfl) fun ex1 => ?_
                              obtain ⟨⟨A17, c17⟩, _⟩ := ex1
                              refine St.asrt (F' := .ro (SlL eu8 A17 c17 x3.Data) :: .ro (SlL eu8 A18 c18 x4.Data) :: .ro (SlL eu8 A15 c15 o2.2.1) :: .res (Box g2 26 [.slice (some ⟨g5, 0, none⟩) o1.2.1.length c7, .slice A14 r4.2.length c14]) :: .res (Box gb1 59 [.slice A15 o2.2.1.length c15, .int .i64 o2.2.2]) :: .res (OwnL e_Need 67 A14 c14 r4.2) :: .res (OwnC (codL l_T_Image) 41 (some ⟨g5, 0, none⟩) c7 o1.2.1) :: .res (OwnC (codL l_T_Image) 41 A6 c6 o1.1) :: .res (Box g1 26 [.slice A6 o1.1.length c6, .slice none 0 0]) :: R) (fun _ w => w) ?_
                              refine St.xk (fun _ w => ((.d (.d (.k (.d (.k (.k (.d (.k (.k .z))))))))) : Keep _ _).sat w) ?_
                              refine hnd2_13 _ _ (A17, c17, A18, c18) ?_ ?_
                              ·exact ⟨rfl, rfl, rfl, rfl, rfl, rfl, rfl, rfl, rfl, rfl, rfl, rfl, rfl, trivial⟩
                              ·exact fun _ w => ((.k (.k (.k (.k (.k (.k (.k (.k (.k .z))))))))) : Keep _ _).sat (((((((((w.front (.s (.s (.s (.s (.s (.s (.s (.s .z))))))))).front (.s (.s (.s (.s (.s (.s (.s (.s .z))))))))).front (.s (.s (.s (.s (.s (.s (.s (.s .z))))))))).front (.s (.s (.s (.s (.s (.s (.s (.s .z))))))))).front (.s (.s (.s (.s (.s (.s (.s (.s .z))))))))).front (.s (.s (.s (.s (.s (.s (.s (.s .z))))))))).front (.s (.s (.s (.s (.s (.s (.s (.s .z))))))))).front (.s (.s (.s (.s (.s (.s (.s .z)))))))).front (.s (.s (.s (.s (.s (.s (.s (.s .z)))))))))
                          case tnd2_22 =>
                           rintro ⟨A17, c17⟩
                           refine St.asrt (F' := .ro (SlL eu8 A17 c17 x3.Data) :: .ro (SlL eu8 A15 c15 o2.2.1) :: .res (Box g2 26 [.slice (some ⟨g5, 0, none⟩) o1.2.1.length c7, .slice A14 r4.2.length c14]) :: .res (Box gb1 59 [.slice A15 o2.2.1.length c15, .int .i64 o2.2.2]) :: .res (OwnL e_Need 67 A14 c14 r4.2) :: .res (OwnC (codL l_T_Image) 41 (some ⟨g5, 0, none⟩) c7 o1.2.1) :: .res (OwnC (codL l_T_Image) 41 A6 c6 o1.1) :: .res (Box g1 26 [.slice A6 o1.1.length c6, .slice none 0 0]) :: R) (fun _ w => w) ?_
                           refine St.xalt ?_ ?_
                           ·refine St.xef ?_
                            refine St.loadB 0 rfl rfl (.tail _ (.tail _ (.head _))) rfl rfl ?_
                            refine St.xk (fun _ w => ((.d (.k (.d (.k (.k (.d (.k (.k .z)))))))) : Keep _ _).sat w) ?_
                            refine hnd2_9 _ _ (A17, c17) ?_ ?_
                            ·exact ⟨rfl, rfl, rfl, rfl, rfl, rfl, rfl, rfl, rfl, rfl, rfl, rfl, rfl, trivial⟩
                            ·exact fun _ w => ((.k (.k (.k (.k (.k (.k (.k (.k .z)))))))) : Keep _ _).sat w
                           ·refine St.xalt ?_ ?_
                            ·refine St.xef ?_
                             refine St.loadB 0 rfl rfl (.tail _ (.tail _ (.head _))) rfl rfl ?_
                             refine St.xk (fun _ w => ((.d (.k (.d (.k (.k (.d (.k (.k .z)))))))) : Keep _ _).sat w) ?_
                             refine hnd2_11 _ _ (A17, c17) ?_ ?_
                             ·exact ⟨rfl, rfl, rfl, rfl, rfl, rfl, rfl, rfl, rfl, rfl, rfl, rfl, rfl, trivial⟩
                             ·exact fun _ w => ((.k (.k (.k (.k (.k (.k (.k (.k .z)))))))) : Keep _ _).sat w
                            ·refine St.xef ?_
                             refine St.ldC (ls := l_T_Image) 0 (fun ex => .agg (bx_T_Image x4 ex.1.1 ex.1.2).toArray) hx4 rfl rfl (.tail _ (.tail _ (.tail _ (.tail _ (.tail _ (.head _)))))) rfl (fun _ => rfl) fun ex2 => ?_
                             obtain ⟨⟨A18, c18⟩, _⟩ := ex2
                             refine St.asrt (F' := .ro (SlL eu8 A18 c18 x4.Data) :: .ro (SlL eu8 A17 c17 x3.Data) :: .ro (SlL eu8 A15 c15 o2.2.1) :: .res (Box g2 26 [.slice (some ⟨g5, 0, none⟩) o1.2.1.length c7, .slice A14 r4.2.length c14]) :: .res (Box gb1 59 [.slice A15 o2.2.1.length c15, .int .i64 o2.2.2]) :: .res (OwnL e_Need 67 A14 c14 r4.2) :: .res (OwnC (codL l_T_Image) 41 (some ⟨g5, 0, none⟩) c7 o1.2.1) :: .res (OwnC (codL l_T_Image) 41 A6 c6 o1.1) :: .res (Box g1 26 [.slice A6 o1.1.length c6, .slice none 0 0]) :: R) (fun _ w => w) ?_
                             refine St.xk (fun _ w => ((.d (.d (.k (.d (.k (.k (.d (.k (.k .z))))))))) : Keep _ _).sat w) ?_
                             refine hnd2_13 _ _ (A17, c17, A18, c18) ?_ ?_
                             ·exact ⟨rfl, rfl, rfl, rfl, rfl, rfl, rfl, rfl, rfl, rfl, rfl, rfl, rfl, trivial⟩
                             ·exact fun _ w => ((.k (.k (.k (.k (.k (.k (.k (.k (.k .z))))))))) : Keep _ _).sat w
                         case tnd2_21 =>
                          rintro ⟨A18, c18⟩
                          refine St.asrt (F' := .ro (SlL eu8 A18 c18 x4.Data) :: .ro (SlL eu8 A15 c15 o2.2.1) :: .res (Box g2 26 [.slice (some ⟨g5, 0, none⟩) o1.2.1.length c7, .slice A14 r4.2.length c14]) :: .res (Box gb1 59 [.slice A15 o2.2.1.length c15, .int .i64 o2.2.2]) :: .res (OwnL e_Need 67 A14 c14 r4.2) :: .res (OwnC (codL l_T_Image) 41 (some ⟨g5, 0, none⟩) c7 o1.2.1) :: .res (OwnC (codL l_T_Image) 41 A6 c6 o1.1) :: .res (Box g1 26 [.slice A6 o1.1.length c6, .slice none 0 0]) :: R) (fun _ w => w) ?_
                          refine St.xalt ?_ ?_
                          ·refine St.xef ?_
                           refine St.loadB 0 rfl rfl (.tail _ (.tail _ (.head _))) rfl rfl ?_
                           refine St.xk (fun _ w => ((.d (.k (.d (.k (.k (.d (.k (.k .z)))))))) : Keep _ _).sat w) ?_
                           refine hnd2_8 _ _ (A18, c18) ?_ ?_
                           ·exact ⟨rfl, rfl, rfl, rfl, rfl, rfl, rfl, rfl, rfl, rfl, rfl, rfl, trivial⟩
                           ·exact fun _ w => ((.k (.k (.k (.k (.k (.k (.k (.k .z)))))))) : Keep _ _).sat w
                          ·refine St.xef ?_
                           refine St.loadB 0 rfl rfl (.tail _ (.tail _ (.head _))) rfl rfl ?_
                           refine St.xk (fun _ w => ((.d (.k (.d (.k (.k (.d (.k (.k .z)))))))) : Keep _ _).sat w) ?_
                           refine St.xfl (fun _ h => h) (Rd.ixOC (n' := 5) hx3 rfl rfl rfl rfl rfl rfl rfl) rfl ?_
                           refine hnd2_12 _ _ (A18, c18) ?_ ?_
                           ·exact ⟨rfl, rfl, rfl, rfl, rfl, rfl, rfl, rfl, rfl, rfl, rfl, rfl, rfl, trivial⟩
                           ·exact fun _ w => ((.k (.k (.k (.k (.k (.k (.k (.k .z)))))))) : Keep _ _).sat w
                        case tnd2_20 =>
                         rintro ⟨⟩
                         refine St.asrt (F' := .ro (SlL eu8 A15 c15 o2.2.1) :: .res (Box g2 26 [.slice (some ⟨g5, 0, none⟩) o1.2.1.length c7, .slice A14 r4.2.length c14]) :: .res (Box gb1 59 [.slice A15 o2.2.1.length c15, .int .i64 o2.2.2]) :: .res (OwnL e_Need 67 A14 c14 r4.2) :: .res (OwnC (codL l_T_Image) 41 (some ⟨g5, 0, none⟩) c7 o1.2.1) :: .res (OwnC (codL l_T_Image) 41 A6 c6 o1.1) :: .res (Box g1 26 [.slice A6 o1.1.length c6, .slice none 0 0]) :: R) (fun _ w => w) ?_
                         refine St.xalt ?_ ?_
                         ·refine St.xef ?_
                          refine St.loadB 0 rfl rfl (.tail _ (.head _)) rfl rfl ?_
                          refine St.xk (fun _ w => ((.k (.d (.k (.k (.d (.k (.k .z))))))) : Keep _ _).sat w) ?_
                          refine hnd2_7 _ _ () ?_ ?_
                          ·exact ⟨rfl, rfl, rfl, rfl, rfl, rfl, rfl, rfl, rfl, rfl, rfl, rfl, rfl, trivial⟩
                          ·exact fun _ w => ((.k (.k (.k (.k (.k (.k (.k .z))))))) : Keep _ _).sat w
                         ·refine St.xalt ?_ ?_
                          ·refine St.xef ?_
                           refine St.ldC (ls := l_T_Image) 0 (fun ex => .agg (bx_T_Image x3 ex.1.1 ex.1.2).toArray) hx3 rfl rfl (.tail _ (.tail _ (.tail _ (.tail _ (.head _))))) rfl (fun _ => rfl) fun ex1 => ?_
                           obtain ⟨⟨A17, c17⟩, _⟩ := ex1
                           refine St.asrt (F' := .ro (SlL eu8 A17 c17 x3.Data) :: .ro (SlL eu8 A15 c15 o2.2.1) :: .res (Box g2 26 [.slice (some ⟨g5, 0, none⟩) o1.2.1.length c7, .slice A14 r4.2.length c14]) :: .res (Box gb1 59 [.slice A15 o2.2.1.length c15, .int .i64 o2.2.2]) :: .res (OwnL e_Need 67 A14 c14 r4.2) :: .res (OwnC (codL l_T_Image) 41 (some ⟨g5, 0, none⟩) c7 o1.2.1) :: .res (OwnC (codL l_T_Image) 41 A6 c6 o1.1) :: .res (Box g1 26 [.slice A6 o1.1.length c6, .slice none 0 0]) :: R) (fun _ w => w) ?_
                           refine St.xk (fun _ w => ((.d (.k (.d (.k (.k (.d (.k (.k .z)))))))) : Keep _ _).sat w) ?_
                           refine hnd2_11 _ _ (A17, c17) ?_ ?_
                           ·exact ⟨rfl, rfl, rfl, rfl, rfl, rfl, rfl, rfl, rfl, rfl, rfl, rfl, rfl, trivial⟩
                           ·exact fun _ w => ((.k (.k (.k (.k (.k (.k (.k (.k .z)))))))) : Keep _ _).sat w
                          ·refine St.xef ?_
                           refine St.ldC (ls := l_T_Image) 0 (fun ex => .agg (bx_T_Image x4 ex.1.1 ex.1.2).toArray) hx4 rfl rfl (.tail _ (.tail _ (.tail _ (.tail _ (.head _))))) rfl (fun _ => rfl) fun ex2 => ?_
                           obtain ⟨⟨A18, c18⟩, _⟩ := ex2
                           refine St.asrt (F' := .ro (SlL eu8 A18 c18 x4.Data) :: .ro (SlL eu8 A15 c15 o2.2.1) :: .res (Box g2 26 [.slice (some ⟨g5, 0, none⟩) o1.2.1.length c7, .slice A14 r4.2.length c14]) :: .res (Box gb1 59 [.slice A15 o2.2.1.length c15, .int .i64 o2.2.2]) :: .res (OwnL e_Need 67 A14 c14 r4.2) :: .res (OwnC (codL l_T_Image) 41 (some ⟨g5, 0, none⟩) c7 o1.2.1) :: .res (OwnC (codL l_T_Image) 41 A6 c6 o1.1) :: .res (Box g1 26 [.slice A6 o1.1.length c6, .slice none 0 0]) :: R) (fun _ w => w) ?_
                           refine St.xk (fun _ w => ((.d (.k (.d (.k (.k (.d (.k (.k .z)))))))) : Keep _ _).sat w) ?_
                           refine hnd2_12 _ _ (A18, c18) ?_ ?_
                           ·exact ⟨rfl, rfl, rfl, rfl, rfl, rfl, rfl, rfl, rfl, rfl, rfl, rfl, rfl, trivial⟩
                           ·exact fun _ w => ((.k (.k (.k (.k (.k (.k (.k (.k .z)))))))) : Keep _ _).sat w
                       case tnd2_19 =>
                        rintro ⟨A17, c17⟩
                        refine St.asrt (F' := .ro (SlL eu8 A17 c17 x3.Data) :: .ro (SlL eu8 A15 c15 o2.2.1) :: .res (Box g2 26 [.slice (some ⟨g5, 0, none⟩) o1.2.1.length c7, .slice A14 r4.2.length c14]) :: .res (Box gb1 59 [.slice A15 o2.2.1.length c15, .int .i64 o2.2.2]) :: .res (OwnL e_Need 67 A14 c14 r4.2) :: .res (OwnC (codL l_T_Image) 41 (some ⟨g5, 0, none⟩) c7 o1.2.1) :: .res (OwnC (codL l_T_Image) 41 A6 c6 o1.1) :: .res (Box g1 26 [.slice A6 o1.1.length c6, .slice none 0 0]) :: R) (fun _ w => w) ?_
                        refine St.xalt ?_ ?_
                        ·refine St.xef ?_
                         refine St.loadB 0 rfl rfl (.tail _ (.tail _ (.head _))) rfl rfl ?_
                         refine St.xk (fun _ w => ((.d (.k (.d (.k (.k (.d (.k (.k .z)))))))) : Keep _ _).sat w) ?_
                         refine hnd2_6 _ _ (A17, c17) ?_ ?_
                         ·exact ⟨rfl, rfl, rfl, rfl, rfl, rfl, rfl, rfl, rfl, rfl, rfl, rfl, trivial⟩
                         ·exact fun _ w => ((.k (.k (.k (.k (.k (.k (.k (.k .z)))))))) : Keep _ _).sat w
                        ·refine St.xef ?_
                         refine St.loadB 0 rfl rfl (.tail _ (.tail _ (.head _))) rfl rfl ?_
                         refine St.xk (fun _ w => ((.d (.k (.d (.k (.k (.d (.k (.k .z)))))))) : Keep _ _).sat w) ?_
                         refine St.xfl (fun _ h => h) (Rd.ixOC (n' := 5) hx4 rfl rfl rfl rfl rfl rfl rfl) rfl ?_
                         refine hnd2_11 _ _ (A17, c17) ?_ ?_
                         ·exact ⟨rfl, rfl, rfl, rfl, rfl, rfl, rfl, rfl, rfl, rfl, rfl, rfl, rfl, trivial⟩
                         ·exact fun _ w => ((.k (.k (.k (.k (.k (.k (.k (.k .z)))))))) : Keep _ _).sat w
                      case tnd2_18 =>
                       rintro ⟨A18, c18⟩
                       refine St.asrt (F' := .ro (SlL eu8 A18 c18 x4.Data) :: .ro (SlL eu8 A15 c15 o2.2.1) :: .res (Box g2 26 [.slice (some ⟨g5, 0, none⟩) o1.2.1.length c7, .slice A14 r4.2.length c14]) :: .res (Box gb1 59 [.slice A15 o2.2.1.length c15, .int .i64 o2.2.2]) :: .res (OwnL e_Need 67 A14 c14 r4.2) :: .res (OwnC (codL l_T_Image) 41 (some ⟨g5, 0, none⟩) c7 o1.2.1) :: .res (OwnC (codL l_T_Image) 41 A6 c6 o1.1) :: .res (Box g1 26 [.slice A6 o1.1.length c6, .slice none 0 0]) :: R) (fun _ w => w) ?_
                       refine St.xalt ?_ ?_
                       ·refine St.xef ?_
                        refine St.loadB 0 rfl rfl (.tail _ (.tail _ (.head _))) rfl rfl ?_
                        refine St.xk (fun _ w => ((.d (.k (.d (.k (.k (.d (.k (.k .z)))))))) : Keep _ _).sat w) ?_
                        refine hnd2_8 _ _ (A18, c18) ?_ ?_
                        ·exact ⟨rfl, rfl, rfl, rfl, rfl, rfl, rfl, rfl, rfl, rfl, rfl, rfl, trivial⟩
                        ·exact fun _ w => ((.k (.k (.k (.k (.k (.k (.k (.k .z)))))))) : Keep _ _).sat w
                       ·refine St.xef ?_
                        refine St.loadB 0 rfl rfl (.tail _ (.tail _ (.head _))) rfl rfl ?_
                        refine St.xk (fun _ w => ((.d (.k (.d (.k (.k (.d (.k (.k .z)))))))) : Keep _ _).sat w) ?_
                        refine St.xfl (fun _ h => h) (Rd.ixOC (n' := 5) hx3 rfl rfl rfl rfl rfl rfl rfl) rfl ?_
                        refine hnd2_10 _ _ (A18, c18) ?_ ?_
                        ·exact ⟨rfl, rfl, rfl, rfl, rfl, rfl, rfl, rfl, rfl, rfl, rfl, rfl, rfl, trivial⟩
                        ·exact fun _ w => ((.k (.k (.k (.k (.k (.k (.k (.k .z)))))))) : Keep _ _).sat w
                     case tnd2_17 =>
                      rintro ⟨⟩
                      refine St.asrt (F' := .ro (SlL eu8 A15 c15 o2.2.1) :: .res (Box g2 26 [.slice (some ⟨g5, 0, none⟩) o1.2.1.length c7, .slice A14 r4.2.length c14]) :: .res (Box gb1 59 [.slice A15 o2.2.1.length c15, .int .i64 o2.2.2]) :: .res (OwnL e_Need 67 A14 c14 r4.2) :: .res (OwnC (codL l_T_Image) 41 (some ⟨g5, 0, none⟩) c7 o1.2.1) :: .res (OwnC (codL l_T_Image) 41 A6 c6 o1.1) :: .res (Box g1 26 [.slice A6 o1.1.length c6, .slice none 0 0]) :: R) (fun _ w => w) ?_
                      refine St.xalt ?_ ?_
                      ·refine St.xef ?_
                       refine St.loadB 0 rfl rfl (.tail _ (.head _)) rfl rfl ?_
                       refine St.xk (fun _ w => ((.k (.d (.k (.k (.d (.k (.k .z))))))) : Keep _ _).sat w) ?_
                       refine hnd2_7 _ _ () ?_ ?_
                       ·exact ⟨rfl, rfl, rfl, rfl, rfl, rfl, rfl, rfl, rfl, rfl, rfl, rfl, rfl, trivial⟩
                       ·exact fun _ w => ((.k (.k (.k (.k (.k (.k (.k .z))))))) : Keep _ _).sat w
                      ·refine St.xalt ?_ ?_
                       ·refine St.xef ?_
                        refine St.ldC (ls := l_T_Image) 0 (fun ex => .agg (bx_T_Image x3 ex.1.1 ex.1.2).toArray) hx3 rfl rfl (.tail _ (.tail _ (.tail _ (.tail _ (.head _))))) rfl (fun _ => rfl) fun ex1 => ?_
                        obtain ⟨⟨A17, c17⟩, _⟩ := ex1
                        refine St.asrt (F' := .ro (SlL eu8 A17 c17 x3.Data) :: .ro (SlL eu8 A15 c15 o2.2.1) :: .res (Box g2 26 [.slice (some ⟨g5, 0, none⟩) o1.2.1.length c7, .slice A14 r4.2.length c14]) :: .res (Box gb1 59 [.slice A15 o2.2.1.length c15, .int .i64 o2.2.2]) :: .res (OwnL e_Need 67 A14 c14 r4.2) :: .res (OwnC (codL l_T_Image) 41 (some ⟨g5, 0, none⟩) c7 o1.2.1) :: .res (OwnC (codL l_T_Image) 41 A6 c6 o1.1) :: .res (Box g1 26 [.slice A6 o1.1.length c6, .slice none 0 0]) :: R) (fun _ w => w) ?_
                        refine St.xk (fun _ w => ((.d (.k (.d (.k (.k (.d (.k (.k .z)))))))) : Keep _ _).sat w) ?_
                        refine hnd2_9 _ _ (A17, c17) ?_ ?_
                        ·exact ⟨rfl, rfl, rfl, rfl, rfl, rfl, rfl, rfl, rfl, rfl, rfl, rfl, rfl, trivial⟩
                        ·exact fun _ w => ((.k (.k (.k (.k (.k (.k (.k (.k .z)))))))) : Keep _ _).sat w
                       ·refine St.xef ?_
                        refine St.ldC (ls := l_T_Image) 0 (fun ex => .agg (bx_T_Image x4 ex.1.1 ex.1.2).toArray) hx4 rfl rfl (.tail _ (.tail _ (.tail _ (.tail _ (.head _))))) rfl (fun _ => rfl) fun ex2 => ?_
                        obtain ⟨⟨A18, c18⟩, _⟩ := ex2
                        refine St.asrt (F' := .ro (SlL eu8 A18 c18 x4.Data) :: .ro (SlL eu8 A15 c15 o2.2.1) :: .res (Box g2 26 [.slice (some ⟨g5, 0, none⟩) o1.2.1.length c7, .slice A14 r4.2.length c14]) :: .res (Box gb1 59 [.slice A15 o2.2.1.length c15, .int .i64 o2.2.2]) :: .res (OwnL e_Need 67 A14 c14 r4.2) :: .res (OwnC (codL l_T_Image) 41 (some ⟨g5, 0, none⟩) c7 o1.2.1) :: .res (OwnC (codL l_T_Image) 41 A6 c6 o1.1) :: .res (Box g1 26 [.slice A6 o1.1.length c6, .slice none 0 0]) :: R) (fun _ w => w) ?_
                        refine St.xk (fun _ w => ((.d (.k (.d (.k (.k (.d (.k (.k .z)))))))) : Keep _ _).sat w) ?_
                        refine hnd2_10 _ _ (A18, c18) ?_ ?_
                        ·exact ⟨rfl, rfl, rfl, rfl, rfl, rfl, rfl, rfl, rfl, rfl, rfl, rfl, rfl, trivial⟩
                        ·exact fun _ w => ((.k (.k (.k (.k (.k (.k (.k (.k .z)))))))) : Keep _ _).sat w
                    case tnd2_16 =>
                     rintro ⟨A17, c17⟩
                     refine St.asrt (F' := .ro (SlL eu8 A17 c17 x3.Data) :: .ro (SlL eu8 A15 c15 o2.2.1) :: .res (Box g2 26 [.slice (some ⟨g5, 0, none⟩) o1.2.1.length c7, .slice A14 r4.2.length c14]) :: .res (Box gb1 59 [.slice A15 o2.2.1.length c15, .int .i64 o2.2.2]) :: .res (OwnL e_Need 67 A14 c14 r4.2) :: .res (OwnC (codL l_T_Image) 41 (some ⟨g5, 0, none⟩) c7 o1.2.1) :: .res (OwnC (codL l_T_Image) 41 A6 c6 o1.1) :: .res (Box g1 26 [.slice A6 o1.1.length c6, .slice none 0 0]) :: R) (fun _ w => w) ?_
                     refine St.xalt ?_ ?_
                     ·refine St.xef ?_
                      refine St.loadB 0 rfl rfl (.tail _ (.tail _ (.head _))) rfl rfl ?_
                      refine St.xk (fun _ w => ((.d (.k (.d (.k (.k (.d (.k (.k .z)))))))) : Keep _ _).sat w) ?_
                      refine hnd2_6 _ _ (A17, c17) ?_ ?_
                      ·exact ⟨rfl, rfl, rfl, rfl, rfl, rfl, rfl, rfl, rfl, rfl, rfl, rfl, trivial⟩
                      ·exact fun _ w => ((.k (.k (.k (.k (.k (.k (.k (.k .z)))))))) : Keep _ _).sat w
                     ·refine St.xef ?_
                      refine St.loadB 0 rfl rfl (.tail _ (.tail _ (.head _))) rfl rfl ?_
                      refine St.xk (fun _ w => ((.d (.k (.d (.k (.k (.d (.k (.k .z)))))))) : Keep _ _).sat w) ?_
                      refine St.xfl (fun _ h => h) (Rd.ixOC (n' := 5) hx4 rfl rfl rfl rfl rfl rfl rfl) rfl ?_
                      refine hnd2_9 _ _ (A17, c17) ?_ ?_
                      ·exact ⟨rfl, rfl, rfl, rfl, rfl, rfl, rfl, rfl, rfl, rfl, rfl, rfl, rfl, trivial⟩
                      ·exact fun _ w => ((.k (.k (.k (.k (.k (.k (.k (.k .z)))))))) : Keep _ _).sat w
                   case tnd2_15 =>
                    rintro ⟨⟩
                    refine St.asrt (F' := .ro (SlL eu8 A15 c15 o2.2.1) :: .res (Box g2 26 [.slice (some ⟨g5, 0, none⟩) o1.2.1.length c7, .slice A14 r4.2.length c14]) :: .res (Box gb1 59 [.slice A15 o2.2.1.length c15, .int .i64 o2.2.2]) :: .res (OwnL e_Need 67 A14 c14 r4.2) :: .res (OwnC (codL l_T_Image) 41 (some ⟨g5, 0, none⟩) c7 o1.2.1) :: .res (OwnC (codL l_T_Image) 41 A6 c6 o1.1) :: .res (Box g1 26 [.slice A6 o1.1.length c6, .slice none 0 0]) :: R) (fun _ w => w) ?_
                    refine St.xalt ?_ ?_
                    ·refine St.xef ?_
                     refine St.loadB 0 rfl rfl (.tail _ (.head _)) rfl rfl ?_
                     refine St.xk (fun _ w => ((.k (.d (.k (.k (.d (.k (.k .z))))))) : Keep _ _).sat w) ?_
                     refine St.xfl (fun _ h => h) (Rd.ixOC (n' := 5) hx3 rfl rfl rfl rfl rfl rfl rfl) rfl ?_
                     refine hnd2_7 _ _ () ?_ ?_
                     ·exact ⟨rfl, rfl, rfl, rfl, rfl, rfl, rfl, rfl, rfl, rfl, rfl, rfl, rfl, trivial⟩
                     ·exact fun _ w => ((.k (.k (.k (.k (.k (.k (.k .z))))))) : Keep _ _).sat w
                    ·refine St.xef ?_
                     refine St.ldC (ls := l_T_Image) 0 (fun ex => .agg (bx_T_Image x4 ex.1.1 ex.1.2).toArray) hx4 rfl rfl (.tail _ (.tail _ (.tail _ (.tail _ (.head _))))) rfl (fun _ => rfl) fun ex2 => ?_
                     obtain ⟨⟨A18, c18⟩, _⟩ := ex2
                     refine St.asrt (F' := .ro (SlL eu8 A18 c18 x4.Data) :: .ro (SlL eu8 A15 c15 o2.2.1) :: .res (Box g2 26 [.slice (some ⟨g5, 0, none⟩) o1.2.1.length c7, .slice A14 r4.2.length c14]) :: .res (Box gb1 59 [.slice A15 o2.2.1.length c15, .int .i64 o2.2.2]) :: .res (OwnL e_Need 67 A14 c14 r4.2) :: .res (OwnC (codL l_T_Image) 41 (some ⟨g5, 0, none⟩) c7 o1.2.1) :: .res (OwnC (codL l_T_Image) 41 A6 c6 o1.1) :: .res (Box g1 26 [.slice A6 o1.1.length c6, .slice none 0 0]) :: R) (fun _ w => w) ?_
                     refine St.xk (fun _ w => ((.d (.k (.d (.k (.k (.d (.k (.k .z)))))))) : Keep _ _).sat w) ?_
                     refine hnd2_8 _ _ (A18, c18) ?_ ?_
                     ·exact ⟨rfl, rfl, rfl, rfl, rfl, rfl, rfl, rfl, rfl, rfl, rfl, rfl, trivial⟩
                     ·exact fun _ w => ((.k (.k (.k (.k (.k (.k (.k (.k .z)))))))) : Keep _ _).sat w
                  case tnd2_14 =>
                   rintro ⟨⟩
                   refine St.asrt (F' := .ro (SlL eu8 A15 c15 o2.2.1) :: .res (Box g2 26 [.slice (some ⟨g5, 0, none⟩) o1.2.1.length c7, .slice A14 r4.2.length c14]) :: .res (Box gb1 59 [.slice A15 o2.2.1.length c15, .int .i64 o2.2.2]) :: .res (OwnL e_Need 67 A14 c14 r4.2) :: .res (OwnC (codL l_T_Image) 41 (some ⟨g5, 0, none⟩) c7 o1.2.1) :: .res (OwnC (codL l_T_Image) 41 A6 c6 o1.1) :: .res (Box g1 26 [.slice A6 o1.1.length c6, .slice none 0 0]) :: R) (fun _ w => w) ?_
                   refine St.xalt ?_ ?_
                   ·refine St.xef ?_
                    refine St.ldC (ls := l_T_Image) 0 (fun ex => .agg (bx_T_Image x3 ex.1.1 ex.1.2).toArray) hx3 rfl rfl (.tail _ (.tail _ (.tail _ (.tail _ (.head _))))) rfl (fun _ => rfl) fun ex1 => ?_
                    obtain ⟨⟨A17, c17⟩, _⟩ := ex1
                    refine St.asrt (F' := .ro (SlL eu8 A17 c17 x3.Data) :: .ro (SlL eu8 A15 c15 o2.2.1) :: .res (Box g2 26 [.slice (some ⟨g5, 0, none⟩) o1.2.1.length c7, .slice A14 r4.2.length c14]) :: .res (Box gb1 59 [.slice A15 o2.2.1.length c15, .int .i64 o2.2.2]) :: .res (OwnL e_Need 67 A14 c14 r4.2) :: .res (OwnC (codL l_T_Image) 41 (some ⟨g5, 0, none⟩) c7 o1.2.1) :: .res (OwnC (codL l_T_Image) 41 A6 c6 o1.1) :: .res (Box g1 26 [.slice A6 o1.1.length c6, .slice none 0 0]) :: R) (fun _ w => w) ?_
                    refine St.xk (fun _ w => ((.d (.k (.d (.k (.k (.d (.k (.k .z)))))))) : Keep _ _).sat w) ?_
                    refine hnd2_6 _ _ (A17, c17) ?_ ?_
                    ·exact ⟨rfl, rfl, rfl, rfl, rfl, rfl, rfl, rfl, rfl, rfl, rfl, rfl, trivial⟩
                    ·exact fun _ w => ((.k (.k (.k (.k (.k (.k (.k (.k .z)))))))) : Keep _ _).sat w
                   ·refine St.xef ?_
                    refine St.loadB 0 rfl rfl (.tail _ (.head _)) rfl rfl ?_
                    refine St.xk (fun _ w => ((.k (.d (.k (.k (.d (.k (.k .z))))))) : Keep _ _).sat w) ?_
                    refine St.xfl (fun _ h => h) (Rd.ixOC (n' := 5) hx4 rfl rfl rfl rfl rfl rfl rfl) rfl ?_
                    refine hnd2_7 _ _ () ?_ ?_
                    ·exact ⟨rfl, rfl, rfl, rfl, rfl, rfl, rfl, rfl, rfl, rfl, rfl, rfl, rfl, trivial⟩
                    ·exact fun _ w => ((.k (.k (.k (.k (.k (.k (.k .z))))))) : Keep _ _).sat w
                 case tnd2_13 =>
                  rintro ⟨A17, c17, A18, c18⟩
                  refine St.asrt (F' := .ro (SlL eu8 A18 c18 x4.Data) :: .ro (SlL eu8 A17 c17 x3.Data) :: .ro (SlL eu8 A15 c15 o2.2.1) :: .res (Box g2 26 [.slice (some ⟨g5, 0, none⟩) o1.2.1.length c7, .slice A14 r4.2.length c14]) :: .res (Box gb1 59 [.slice A15 o2.2.1.length c15, .int .i64 o2.2.2]) :: .res (OwnL e_Need 67 A14 c14 r4.2) :: .res (OwnC (codL l_T_Image) 41 (some ⟨g5, 0, none⟩) c7 o1.2.1) :: .res (OwnC (codL l_T_Image) 41 A6 c6 o1.1) :: .res (Box g1 26 [.slice A6 o1.1.length c6, .slice none 0 0]) :: R) (fun _ w => w) ?_
                  refine St.xalt ?_ ?_
                  ·refine St.xef ?_
                   refine St.loadB 0 rfl rfl (.tail _ (.tail _ (.tail _ (.head _)))) rfl rfl ?_
                   refine St.xk (fun _ w => ((.d (.d (.k (.d (.k (.k (.d (.k (.k .z))))))))) : Keep _ _).sat w) ?_
                   refine St.xfl (fun _ h => h) (Rd.ixOC (n' := 5) hx5 rfl rfl rfl rfl rfl rfl rfl) rfl ?_
                   refine hnd2_4 _ _ (A17, c17, A18, c18) ?_ ?_
                   ·exact ⟨rfl, rfl, rfl, rfl, rfl, rfl, rfl, rfl, rfl, rfl, rfl, rfl, rfl, rfl, rfl, trivial⟩
                   ·exact fun _ w => ((.k (.k (.k (.k (.k (.k (.k (.k (.k .z))))))))) : Keep _ _).sat w
                  ·refine St.xef ?_
                   refine St.loadB 0 rfl rfl (.tail _ (.tail _ (.tail _ (.head _)))) rfl rfl ?_
                   refine St.xk (fun _ w => ((.d (.d (.k (.d (.k (.k (.d (.k (.k .z))))))))) : Keep _ _).sat w) ?_
                   refine hnd2_5 _ _ (A17, c17, A18, c18) ?_ ?_
                   ·exact ⟨rfl, rfl, rfl, rfl, rfl, rfl, rfl, rfl, rfl, rfl, rfl, rfl, rfl, rfl, trivial⟩
                   ·exact fun _ w => ((.k (.k (.k (.k (.k (.k (.k (.k (.k .z))))))))) : Keep _ _).sat w
                case tnd2_12 =>
                 rintro ⟨A18, c18⟩
                 refine St.asrt (F' := .ro (SlL eu8 A18 c18 x4.Data) :: .ro (SlL eu8 A15 c15 o2.2.1) :: .res (Box g2 26 [.slice (some ⟨g5, 0, none⟩) o1.2.1.length c7, .slice A14 r4.2.length c14]) :: .res (Box gb1 59 [.slice A15 o2.2.1.length c15, .int .i64 o2.2.2]) :: .res (OwnL e_Need 67 A14 c14 r4.2) :: .res (OwnC (codL l_T_Image) 41 (some ⟨g5, 0, none⟩) c7 o1.2.1) :: .res (OwnC (codL l_T_Image) 41 A6 c6 o1.1) :: .res (Box g1 26 [.slice A6 o1.1.length c6, .slice none 0 0]) :: R) (fun _ w => w) ?_
                 refine St.xalt ?_ ?_
                 ·refine St.xef ?_
                  refine St.loadB 0 rfl rfl (.tail _ (.tail _ (.head _))) rfl rfl ?_
                  refine St.xk (fun _ w => ((.d (.k (.d (.k (.k (.d (.k (.k .z)))))))) : Keep _ _).sat w) ?_
                  refine hnd2_3 _ _ (A18, c18) ?_ ?_
                  ·exact ⟨rfl, rfl, rfl, rfl, rfl, rfl, rfl, rfl, rfl, rfl, rfl, rfl, rfl, rfl, trivial⟩
                  ·exact fun _ w => ((.k (.k (.k (.k (.k (.k (.k (.k .z)))))))) : Keep _ _).sat w
                 ·refine St.xef ?_
                  refine St.ldC (ls := l_T_Image) 0 (fun ex => .agg (bx_T_Image x3 ex.1.1 ex.1.2).toArray) hx3 rfl rfl (.tail _ (.tail _ (.tail _ (.tail _ (.tail _ (.head _)))))) rfl (fun _ => rfl) fun ex1 => ?_
                  obtain ⟨⟨A17, c17⟩, _⟩ := ex1
                  refine St.asrt (F' := .ro (SlL eu8 A17 c17 x3.Data) :: .ro (SlL eu8 A18 c18 x4.Data) :: .ro (SlL eu8 A15 c15 o2.2.1) :: .res (Box g2 26 [.slice (some ⟨g5, 0, none⟩) o1.2.1.length c7, .slice A14 r4.2.length c14]) :: .res (Box gb1 59 [.slice A15 o2.2.1.length c15, .int .i64 o2.2.2]) :: .res (OwnL e_Need 67 A14 c14 r4.2) :: .res (OwnC (codL l_T_Image) 41 (some ⟨g5, 0, none⟩) c7 o1.2.1) :: .res (OwnC (codL l_T_Image) 41 A6 c6 o1.1) :: .res (Box g1 26 [.slice A6 o1.1.length c6, .slice none 0 0]) :: R) (fun _ w => w) ?_
                  refine St.xk (fun _ w => ((.d (.d (.k (.d (.k (.k (.d (.k (.k .z))))))))) : Keep _ _).sat w) ?_
                  refine hnd2_5 _ _ (A17, c17, A18, c18) ?_ ?_
                  ·exact ⟨rfl, rfl, rfl, rfl, rfl, rfl, rfl, rfl, rfl, rfl, rfl, rfl, rfl, rfl, trivial⟩
                  ·exact fun _ w => ((.k (.k (.k (.k (.k (.k (.k (.k (.k .z))))))))) : Keep _ _).sat (((((((((w.front (.s (.s (.s (.s (.s (.s (.s (.s .z))))))))).front (.s (.s (.s (.s (.s (.s (.s (.s .z))))))))).front (.s (.s (.s (.s (.s (.s (.s (.s .z))))))))).front (.s (.s (.s (.s (.s (.s (.s (.s .z))))))))).front (.s (.s (.s (.s (.s (.s (.s (.s .z))))))))).front (.s (.s (.s (.s (.s (.s (.s (.s .z))))))))).front (.s (.s (.s (.s (.s (.s (.s (.s .z))))))))).front (.s (.s (.s (.s (.s (.s (.s .z)))))))).front (.s (.s (.s (.s (.s (.s (.s (.s .z)))))))))
               case tnd2_11 =>
                rintro ⟨A17, c17⟩
                refine St.asrt (F' := .ro (SlL eu8 A17 c17 x3.Data) :: .ro (SlL eu8 A15 c15 o2.2.1) :: .res (Box g2 26 [.slice (some ⟨g5, 0, none⟩) o1.2.1.length c7, .slice A14 r4.2.length c14]) :: .res (Box gb1 59 [.slice A15 o2.2.1.length c15, .int .i64 o2.2.2]) :: .res (OwnL e_Need 67 A14 c14 r4.2) :: .res (OwnC (codL l_T_Image) 41 (some ⟨g5, 0, none⟩) c7 o1.2.1) :: .res (OwnC (codL l_T_Image) 41 A6 c6 o1.1) :: .res (Box g1 26 [.slice A6 o1.1.length c6, .slice none 0 0]) :: R) (fun _ w => w) ?_
                refine St.xalt ?_ ?_
                ·refine St.xef ?_
                 refine St.loadB 0 rfl rfl (.tail _ (.tail _ (.head _))) rfl rfl ?_
                 refine St.xk (fun _ w => ((.d (.k (.d (.k (.k (.d (.k (.k .z)))))))) : Keep _ _).sat w) ?_
                 refine hnd2_2 _ _ (A17, c17) ?_ ?_
                 ·exact ⟨rfl, rfl, rfl, rfl, rfl, rfl, rfl, rfl, rfl, rfl, rfl, rfl, rfl, rfl, trivial⟩
                 ·exact fun _ w => ((.k (.k (.k (.k (.k (.k (.k (.k .z)))))))) : Keep _ _).sat w
                ·refine St.xef ?_
                 refine St.ldC (ls := l_T_Image) 0 (fun ex => .agg (bx_T_Image x4 ex.1.1 ex.1.2).toArray) hx4 rfl rfl (.tail _ (.tail _ (.tail _ (.tail _ (.tail _ (.head _)))))) rfl (fun _ => rfl) fun ex2 => ?_
                 obtain ⟨⟨A18, c18⟩, _⟩ := ex2
                 refine St.asrt (F' := .ro (SlL eu8 A18 c18 x4.Data) :: .ro (SlL eu8 A17 c17 x3.Data) :: .ro (SlL eu8 A15 c15 o2.2.1) :: .res (Box g2 26 [.slice (some ⟨g5, 0, none⟩) o1.2.1.length c7, .slice A14 r4.2.length c14]) :: .res (Box gb1 59 [.slice A15 o2.2.1.length c15, .int .i64 o2.2.2]) :: .res (OwnL e_Need 67 A14 c14 r4.2) :: .res (OwnC (codL l_T_Image) 41 (some ⟨g5, 0, none⟩) c7 o1.2.1) :: .res (OwnC (codL l_T_Image) 41 A6 c6 o1.1) :: .res (Box g1 26 [.slice A6 o1.1.length c6, .slice none 0 0]) :: R) (fun _ w => w) ?_
                 refine St.xk (fun _ w => ((.d (.d (.k (.d (.k (.k (.d (.k (.k .z))))))))) : Keep _ _).sat w) ?_
                 refine hnd2_5 _ _ (A17, c17, A18, c18) ?_ ?_
                 ·exact ⟨rfl, rfl, rfl, rfl, rfl, rfl, rfl, rfl, rfl, rfl, rfl, rfl, rfl, rfl, trivial⟩
                 ·exact fun _ w => ((.k (.k (.k (.k (.k (.k (.k (.k (.k .z))))))))) : Keep _ _).sat w
              case tnd2_10 =>
               rintro ⟨A18, c18⟩
               refine St.asrt (F' := .ro (SlL eu8 A18 c18 x4.Data) :: .ro (SlL eu8 A15 c15 o2.2.1) :: .res (Box g2 26 [.slice (some ⟨g5, 0, none⟩) o1.2.1.length c7, .slice A14 r4.2.length c14]) :: .res (Box gb1 59 [.slice A15 o2.2.1.length c15, .int .i64 o2.2.2]) :: .res (OwnL e_Need 67 A14 c14 r4.2) :: .res (OwnC (codL l_T_Image) 41 (some ⟨g5, 0, none⟩) c7 o1.2.1) :: .res (OwnC (codL l_T_Image) 41 A6 c6 o1.1) :: .res (Box g1 26 [.slice A6 o1.1.length c6, .slice none 0 0]) :: R) (fun _ w => w) ?_
               refine St.xalt ?_ ?_
               ·refine St.xef ?_
                refine St.loadB 0 rfl rfl (.tail _ (.tail _ (.head _))) rfl rfl ?_
                refine St.xk (fun _ w => ((.d (.k (.d (.k (.k (.d (.k (.k .z)))))))) : Keep _ _).sat w) ?_
                refine hnd2_3 _ _ (A18, c18) ?_ ?_
                ·exact ⟨rfl, rfl, rfl, rfl, rfl, rfl, rfl, rfl, rfl, rfl, rfl, rfl, rfl, rfl, trivial⟩
                ·exact fun _ w => ((.k (.k (.k (.k (.k (.k (.k (.k .z)))))))) : Keep _ _).sat w
               ·refine St.xef ?_
                refine St.ldC (ls := l_T_Image) 0 (fun ex => .agg (bx_T_Image x3 ex.1.1 ex.1.2).toArray) hx3 rfl rfl (.tail _ (.tail _ (.tail _ (.tail _ (.tail _ (.head _)))))) rfl (fun _ => rfl) fun ex1 => ?_
                obtain ⟨⟨A17, c17⟩, _⟩ := ex1
                refine St.asrt (F' := .ro (SlL eu8 A17 c17 x3.Data) :: .ro (SlL eu8 A18 c18 x4.Data) :: .ro (SlL eu8 A15 c15 o2.2.1) :: .res (Box g2 26 [.slice (some ⟨g5, 0, none⟩) o1.2.1.length c7, .slice A14 r4.2.length c14]) :: .res (Box gb1 59 [.slice A15 o2.2.1.length c15, .int .i64 o2.2.2]) :: .res (OwnL e_Need 67 A14 c14 r4.2) :: .res (OwnC (codL l_T_Image) 41 (some ⟨g5, 0, none⟩) c7 o1.2.1) :: .res (OwnC (codL l_T_Image) 41 A6 c6 o1.1) :: .res (Box g1 26 [.slice A6 o1.1.length c6, .slice none 0 0]) :: R) (fun _ w => w) ?_
                refine St.xk (fun _ w => ((.d (.d (.k (.d (.k (.k (.d (.k (.k .z))))))))) : Keep _ _).sat w) ?_
                refine St.xfl (fun _ h => h) (Rd.ixOC (n' := 5) hx5 rfl rfl rfl rfl rfl rfl rfl) rfl ?_
                refine hnd2_4 _ _ (A17, c17, A18, c18) ?_ ?_
                ·exact ⟨rfl, rfl, rfl, rfl, rfl, rfl, rfl, rfl, rfl, rfl, rfl, rfl, rfl, rfl, rfl, trivial⟩
                ·exact fun _ w => ((.k (.k (.k (.k (.k (.k (.k (.k (.k .z))))))))) : Keep _ _).sat (((((((((w.front (.s (.s (.s (.s (.s (.s (.s (.s .z))))))))).front (.s (.s (.s (.s (.s (.s (.s (.s .z))))))))).front (.s (.s (.s (.s (.s (.s (.s (.s .z))))))))).front (.s (.s (.s (.s (.s (.s (.s (.s .z))))))))).front (.s (.s (.s (.s (.s (.s (.s (.s .z))))))))).front (.s (.s (.s (.s (.s (.s (.s (.s .z))))))))).front (.s (.s (.s (.s (.s (.s (.s (.s .z))))))))).front (.s (.s (.s (.s (.s (.s (.s .z)))))))).front (.s (.s (.s (.s (.s (.s (.s (.s .z)))))))))
             case tnd2_9 =>
              rintro ⟨A17, c17⟩
              refine St.asrt (F' := .ro (SlL eu8 A17 c17 x3.Data) :: .ro (SlL eu8 A15 c15 o2.2.1) :: .res (Box g2 26 [.slice (some ⟨g5, 0, none⟩) o1.2.1.length c7, .slice A14 r4.2.length c14]) :: .res (Box gb1 59 [.slice A15 o2.2.1.length c15, .int .i64 o2.2.2]) :: .res (OwnL e_Need 67 A14 c14 r4.2) :: .res (OwnC (codL l_T_Image) 41 (some ⟨g5, 0, none⟩) c7 o1.2.1) :: .res (OwnC (codL l_T_Image) 41 A6 c6 o1.1) :: .res (Box g1 26 [.slice A6 o1.1.length c6, .slice none 0 0]) :: R) (fun _ w => w) ?_
              refine St.xalt ?_ ?_
              ·refine St.xef ?_
               refine St.loadB 0 rfl rfl (.tail _ (.tail _ (.head _))) rfl rfl ?_
               refine St.xk (fun _ w => ((.d (.k (.d (.k (.k (.d (.k (.k .z)))))))) : Keep _ _).sat w) ?_
               refine hnd2_2 _ _ (A17, c17) ?_ ?_
               ·exact ⟨rfl, rfl, rfl, rfl, rfl, rfl, rfl, rfl, rfl, rfl, rfl, rfl, rfl, rfl, trivial⟩
               ·exact fun _ w => ((.k (.k (.k (.k (.k (.k (.k (.k .z)))))))) : Keep _ _).sat w
              ·refine St.xef ?_
               refine St.ldC (ls := l_T_Image) 0 (fun ex => .agg (bx_T_Image x4 ex.1.1 ex.1.2).toArray) hx4 rfl rfl (.tail _ (.tail _ (.tail _ (.tail _ (.tail _ (.head _)))))) rfl (fun _ => rfl) fun ex2 => ?_
               obtain ⟨⟨A18, c18⟩, _⟩ := ex2
               refine St.asrt (F' := .ro (SlL eu8 A18 c18 x4.Data) :: .ro (SlL eu8 A17 c17 x3.Data) :: .ro (SlL eu8 A15 c15 o2.2.1) :: .res (Box g2 26 [.slice (some ⟨g5, 0, none⟩) o1.2.1.length c7, .slice A14 r4.2.length c14]) :: .res (Box gb1 59 [.slice A15 o2.2.1.length c15, .int .i64 o2.2.2]) :: .res (OwnL e_Need 67 A14 c14 r4.2) :: .res (OwnC (codL l_T_Image) 41 (some ⟨g5, 0, none⟩) c7 o1.2.1) :: .res (OwnC (codL l_T_Image) 41 A6 c6 o1.1) :: .res (Box g1 26 [.slice A6 o1.1.length c6, .slice none 0 0]) :: R) (fun _ w => w) ?_
               refine St.xk (fun _ w => ((.d (.d (.k (.d (.k (.k (.d (.k (.k .z))))))))) : Keep _ _).sat w) ?_
               refine St.xfl (fun _ h => h) (Rd.ixOC (n' := 5) hx5 rfl rfl rfl rfl rfl rfl rfl) rfl ?_
               refine hnd2_4 _ _ (A17, c17, A18, c18) ?_ ?_
               ·exact ⟨rfl, rfl, rfl, rfl, rfl, rfl, rfl, rfl, rfl, rfl, rfl, rfl, rfl, rfl, rfl, trivial⟩
               ·exact fun _ w => ((.k (.k (.k (.k (.k (.k (.k (.k (.k .z))))))))) : Keep _ _).sat w
            case tnd2_8 =>
             rintro ⟨A18, c18⟩
             refine St.asrt (F' := .ro (SlL eu8 A18 c18 x4.Data) :: .ro (SlL eu8 A15 c15 o2.2.1) :: .res (Box g2 26 [.slice (some ⟨g5, 0, none⟩) o1.2.1.length c7, .slice A14 r4.2.length c14]) :: .res (Box gb1 59 [.slice A15 o2.2.1.length c15, .int .i64 o2.2.2]) :: .res (OwnL e_Need 67 A14 c14 r4.2) :: .res (OwnC (codL l_T_Image) 41 (some ⟨g5, 0, none⟩) c7 o1.2.1) :: .res (OwnC (codL l_T_Image) 41 A6 c6 o1.1) :: .res (Box g1 26 [.slice A6 o1.1.length c6, .slice none 0 0]) :: R) (fun _ w => w) ?_
             refine St.xef ?_
             refine St.loadB 0 rfl rfl (.tail _ (.tail _ (.head _))) rfl rfl ?_
             refine St.xk (fun _ w => ((.d (.k (.d (.k (.k (.d (.k (.k .z)))))))) : Keep _ _).sat w) ?_
             refine St.xfl (fun _ h => h) (Rd.ixOC (n' := 5) hx3 rfl rfl rfl rfl rfl rfl rfl) rfl ?_
             refine hnd2_3 _ _ (A18, c18) ?_ ?_
             ·exact ⟨rfl, rfl, rfl, rfl, rfl, rfl, rfl, rfl, rfl, rfl, rfl, rfl, rfl, rfl, trivial⟩
             ·exact fun _ w => ((.k (.k (.k (.k (.k (.k (.k (.k .z)))))))) : Keep _ _).sat w
           case tnd2_7 =>
            rintro ⟨⟩
            refine St.asrt (F' := .ro (SlL eu8 A15 c15 o2.2.1) :: .res (Box g2 26 [.slice (some ⟨g5, 0, none⟩) o1.2.1.length c7, .slice A14 r4.2.length c14]) :: .res (Box gb1 59 [.slice A15 o2.2.1.length c15, .int .i64 o2.2.2]) :: .res (OwnL e_Need 67 A14 c14 r4.2) :: .res (OwnC (codL l_T_Image) 41 (some ⟨g5, 0, none⟩) c7 o1.2.1) :: .res (OwnC (codL l_T_Image) 41 A6 c6 o1.1) :: .res (Box g1 26 [.slice A6 o1.1.length c6, .slice none 0 0]) :: R) (fun _ w => w) ?_
            refine St.xalt ?_ ?_
            ·refine St.xef ?_
             refine St.ldC (ls := l_T_Image) 0 (fun ex => .agg (bx_T_Image x3 ex.1.1 ex.1.2).toArray) hx3 rfl rfl (.tail _ (.tail _ (.tail _ (.tail _ (.head _))))) rfl (fun _ => rfl) fun ex1 => ?_
             obtain ⟨⟨A17, c17⟩, _⟩ := ex1
             refine St.asrt (F' := .ro (SlL eu8 A17 c17 x3.Data) :: .ro (SlL eu8 A15 c15 o2.2.1) :: .res (Box g2 26 [.slice (some ⟨g5, 0, none⟩) o1.2.1.length c7, .slice A14 r4.2.length c14]) :: .res (Box gb1 59 [.slice A15 o2.2.1.length c15, .int .i64 o2.2.2]) :: .res (OwnL e_Need 67 A14 c14 r4.2) :: .res (OwnC (codL l_T_Image) 41 (some ⟨g5, 0, none⟩) c7 o1.2.1) :: .res (OwnC (codL l_T_Image) 41 A6 c6 o1.1) :: .res (Box g1 26 [.slice A6 o1.1.length c6, .slice none 0 0]) :: R) (fun _ w => w) ?_
             refine St.xk (fun _ w => ((.d (.k (.d (.k (.k (.d (.k (.k .z)))))))) : Keep _ _).sat w) ?_
             refine hnd2_2 _ _ (A17, c17) ?_ ?_
             ·exact ⟨rfl, rfl, rfl, rfl, rfl, rfl, rfl, rfl, rfl, rfl, rfl, rfl, rfl, rfl, trivial⟩
             ·exact fun _ w => ((.k (.k (.k (.k (.k (.k (.k (.k .z)))))))) : Keep _ _).sat w
            ·refine St.xef ?_
             refine St.ldC (ls := l_T_Image) 0 (fun ex => .agg (bx_T_Image x4 ex.1.1 ex.1.2).toArray) hx4 rfl rfl (.tail _ (.tail _ (.tail _ (.tail _ (.head _))))) rfl (fun _ => rfl) fun ex2 => ?_
             obtain ⟨⟨A18, c18⟩, _⟩ := ex2
             refine St.asrt (F' := .ro (SlL eu8 A18 c18 x4.Data) :: .ro (SlL eu8 A15 c15 o2.2.1) :: .res (Box g2 26 [.slice (some ⟨g5, 0, none⟩) o1.2.1.length c7, .slice A14 r4.2.length c14]) :: .res (Box gb1 59 [.slice A15 o2.2.1.length c15, .int .i64 o2.2.2]) :: .res (OwnL e_Need 67 A14 c14 r4.2) :: .res (OwnC (codL l_T_Image) 41 (some ⟨g5, 0, none⟩) c7 o1.2.1) :: .res (OwnC (codL l_T_Image) 41 A6 c6 o1.1) :: .res (Box g1 26 [.slice A6 o1.1.length c6, .slice none 0 0]) :: R) (fun _ w => w) ?_
             refine St.xk (fun _ w => ((.d (.k (.d (.k (.k (.d (.k (.k .z)))))))) : Keep _ _).sat w) ?_
             refine hnd2_3 _ _ (A18, c18) ?_ ?_
             ·exact ⟨rfl, rfl, rfl, rfl, rfl, rfl, rfl, rfl, rfl, rfl, rfl, rfl, rfl, rfl, trivial⟩
             ·exact fun _ w => ((.k (.k (.k (.k (.k (.k (.k (.k .z)))))))) : Keep _ _).sat w
          case tnd2_6 =>
           rintro ⟨A17, c17⟩
           refine St.asrt (F' := .ro (SlL eu8 A17 c17 x3.Data) :: .ro (SlL eu8 A15 c15 o2.2.1) :: .res (Box g2 26 [.slice (some ⟨g5, 0, none⟩) o1.2.1.length c7, .slice A14 r4.2.length c14]) :: .res (Box gb1 59 [.slice A15 o2.2.1.length c15, .int .i64 o2.2.2]) :: .res (OwnL e_Need 67 A14 c14 r4.2) :: .res (OwnC (codL l_T_Image) 41 (some ⟨g5, 0, none⟩) c7 o1.2.1) :: .res (OwnC (codL l_T_Image) 41 A6 c6 o1.1) :: .res (Box g1 26 [.slice A6 o1.1.length c6, .slice none 0 0]) :: R) (fun _ w => w) ?_
           refine St.xef ?_
           refine St.loadB 0 rfl rfl (.tail _ (.tail _ (.head _))) rfl rfl ?_
           refine St.xk (fun _ w => ((.d (.k (.d (.k (.k (.d (.k (.k .z)))))))) : Keep _ _).sat w) ?_
           refine St.xfl (fun _ h => h) (Rd.ixOC (n' := 5) hx4 rfl rfl rfl rfl rfl rfl rfl) rfl ?_
           refine hnd2_2 _ _ (A17, c17) ?_ ?_
           ·exact ⟨rfl, rfl, rfl, rfl, rfl, rfl, rfl, rfl, rfl, rfl, rfl, rfl, rfl, rfl, trivial⟩
           ·exact fun _ w => ((.k (.k (.k (.k (.k (.k (.k (.k .z)))))))) : Keep _ _).sat w
         case tnd2_5 =>
          rintro ⟨A17, c17, A18, c18⟩
          refine St.asrt (F' := .ro (SlL eu8 A18 c18 x4.Data) :: .ro (SlL eu8 A17 c17 x3.Data) :: .ro (SlL eu8 A15 c15 o2.2.1) :: .res (Box g2 26 [.slice (some ⟨g5, 0, none⟩) o1.2.1.length c7, .slice A14 r4.2.length c14]) :: .res (Box gb1 59 [.slice A15 o2.2.1.length c15, .int .i64 o2.2.2]) :: .res (OwnL e_Need 67 A14 c14 r4.2) :: .res (OwnC (codL l_T_Image) 41 (some ⟨g5, 0, none⟩) c7 o1.2.1) :: .res (OwnC (codL l_T_Image) 41 A6 c6 o1.1) :: .res (Box g1 26 [.slice A6 o1.1.length c6, .slice none 0 0]) :: R) (fun _ w => w) ?_
          refine St.xef ?_
          refine St.loadB 0 rfl rfl (.tail _ (.tail _ (.tail _ (.head _)))) rfl rfl ?_
          refine St.xk (fun _ w => ((.d (.d (.k (.d (.k (.k (.d (.k (.k .z))))))))) : Keep _ _).sat w) ?_
          refine St.xfl (fun _ h => h) (Rd.ixOC (n' := 5) hx5 rfl rfl rfl rfl rfl rfl rfl) rfl ?_
          refine hnd2_1 _ _ (A17, c17, A18, c18) ?_ ?_
          ·exact ⟨rfl, rfl, rfl, rfl, rfl, rfl, rfl, rfl, rfl, rfl, rfl, rfl, rfl, rfl, rfl, rfl, trivial⟩
          ·exact fun _ w => ((.k (.k (.k (.k (.k (.k (.k (.k (.k .z))))))))) : Keep _ _).sat w
        case tnd2_4 =>
         rintro ⟨A17, c17, A18, c18⟩
         refine St.asrt (F' := .ro (SlL eu8 A18 c18 x4.Data) :: .ro (SlL eu8 A17 c17 x3.Data) :: .ro (SlL eu8 A15 c15 o2.2.1) :: .res (Box g2 26 [.slice (some ⟨g5, 0, none⟩) o1.2.1.length c7, .slice A14 r4.2.length c14]) :: .res (Box gb1 59 [.slice A15 o2.2.1.length c15, .int .i64 o2.2.2]) :: .res (OwnL e_Need 67 A14 c14 r4.2) :: .res (OwnC (codL l_T_Image) 41 (some ⟨g5, 0, none⟩) c7 o1.2.1) :: .res (OwnC (codL l_T_Image) 41 A6 c6 o1.1) :: .res (Box g1 26 [.slice A6 o1.1.length c6, .slice none 0 0]) :: R) (fun _ w => w) ?_
         refine St.xalt ?_ ?_
         ·refine St.xef ?_
          refine St.loadB 0 rfl rfl (.tail _ (.tail _ (.tail _ (.head _)))) rfl rfl ?_
          refine St.xk (fun _ w => ((.d (.d (.k (.d (.k (.k (.d (.k (.k .z))))))))) : Keep _ _).sat w) ?_
          refine hnd2_1 _ _ (A17, c17, A18, c18) ?_ ?_
          ·exact ⟨rfl, rfl, rfl, rfl, rfl, rfl, rfl, rfl, rfl, rfl, rfl, rfl, rfl, rfl, rfl, rfl, trivial⟩
          ·exact fun _ w => ((.k (.k (.k (.k (.k (.k (.k (.k (.k .z))))))))) : Keep _ _).sat w
         ·refine St.xef ?_
          refine St.stC (ls := l_T_Image) 0 (fun ex => ((A17, c17), ())) hx5 hl2 rfl rfl (.s (.s (.s (.s (.s (.s .z)))))) rfl rfl rfl rfl (fun _ => rfl) (fun _ => ⟨(.tail _ (.tail _ (.head _))), trivial⟩) ?_
          refine St.slots (Γ' := [(2, _), (3, _), (35, _), (36, _), (37, .slice (some ⟨g5, 0, none⟩) l2.length c7), (38, _), (40, _), (41, .slice (some ⟨g5, 0, none⟩) l2.length c7), (42, _), (43, _), (44, _), (45, .slice (some ⟨g5, 0, none⟩) l2.length c7), (46, _), (47, _), (48, _)]) ⟨rfl, rfl, rfl, rfl, sl_len hl2, rfl, rfl, sl_len hl2, rfl, rfl, rfl, sl_len hl2, rfl, rfl, rfl, trivial⟩ ?_
          refine St.asrt (F' := .res (OwnC (codL l_T_Image) 41 (some ⟨g5, 0, none⟩) c7 l2) :: .ro (SlL eu8 A18 c18 x4.Data) :: .ro (SlL eu8 A17 c17 x3.Data) :: .ro (SlL eu8 A15 c15 o2.2.1) :: .res (Box g2 26 [.slice (some ⟨g5, 0, none⟩) l2.length c7, .slice A14 r4.2.length c14]) :: .res (Box gb1 59 [.slice A15 o2.2.1.length c15, .int .i64 o2.2.2]) :: .res (OwnL e_Need 67 A14 c14 r4.2) :: .res (OwnC (codL l_T_Image) 41 A6 c6 o1.1) :: .res (Box g1 26 [.slice A6 o1.1.length c6, .slice none 0 0]) :: R) (fun _ w => by rw [setE_len hl2]; exact w) ?_
          refine St.xk (fun _ w => ((.d (.d (.d (.k (.d (.k (.k (.k (.k .z))))))))) : Keep _ _).sat w) ?_
          refine St.xef ?_
          refine St.loadB 0 rfl rfl (.tail _ (.tail _ (.tail _ (.tail _ (.head _))))) rfl rfl ?_
          refine St.xk (fun _ w => ((.d (.d (.d (.k (.d (.k (.k (.k (.k .z))))))))) : Keep _ _).sat w) ?_
          refine St.xfx (Rd.ixOC (n' := 5) hx6 rfl rfl rfl rfl rfl rfl rfl) rfl ?_
          refine hnd2_0 _ _ (A17, c17, A18, c18) ?_ ?_
          ·exact ⟨rfl, rfl, rfl, rfl, rfl, rfl, rfl, rfl, rfl, rfl, rfl, rfl, rfl, rfl, rfl, rfl, rfl, trivial⟩
          ·exact fun _ w => ((.k (.k (.k (.k (.k (.k (.k (.k (.k .z))))))))) : Keep _ _).sat w
       case tnd2_3 =>
        rintro ⟨A18, c18⟩
        refine St.asrt (F' := .ro (SlL eu8 A18 c18 x4.Data) :: .ro (SlL eu8 A15 c15 o2.2.1) :: .res (Box g2 26 [.slice (some ⟨g5, 0, none⟩) o1.2.1.length c7, .slice A14 r4.2.length c14]) :: .res (Box gb1 59 [.slice A15 o2.2.1.length c15, .int .i64 o2.2.2]) :: .res (OwnL e_Need 67 A14 c14 r4.2) :: .res (OwnC (codL l_T_Image) 41 (some ⟨g5, 0, none⟩) c7 o1.2.1) :: .res (OwnC (codL l_T_Image) 41 A6 c6 o1.1) :: .res (Box g1 26 [.slice A6 o1.1.length c6, .slice none 0 0]) :: R) (fun _ w => w) ?_
        refine St.xef ?_
        refine St.ldC (ls := l_T_Image) 0 (fun ex => .agg (bx_T_Image x3 ex.1.1 ex.1.2).toArray) hx3 rfl rfl (.tail _ (.tail _ (.tail _ (.tail _ (.tail _ (.head _)))))) rfl (fun _ => rfl) fun ex1 => ?_
        obtain ⟨⟨A17, c17⟩, _⟩ := ex1
        refine St.asrt (F' := .ro (SlL eu8 A17 c17 x3.Data) :: .ro (SlL eu8 A18 c18 x4.Data) :: .ro (SlL eu8 A15 c15 o2.2.1) :: .res (Box g2 26 [.slice (some ⟨g5, 0, none⟩) o1.2.1.length c7, .slice A14 r4.2.length c14]) :: .res (Box gb1 59 [.slice A15 o2.2.1.length c15, .int .i64 o2.2.2]) :: .res (OwnL e_Need 67 A14 c14 r4.2) :: .res (OwnC (codL l_T_Image) 41 (some ⟨g5, 0, none⟩) c7 o1.2.1) :: .res (OwnC (codL l_T_Image) 41 A6 c6 o1.1) :: .res (Box g1 26 [.slice A6 o1.1.length c6, .slice none 0 0]) :: R) (fun _ w => w) ?_
        refine St.xk (fun _ w => ((.d (.d (.k (.d (.k (.k (.d (.k (.k .z))))))))) : Keep _ _).sat w) ?_
        refine St.xfl (fun _ h => h) (Rd.ixOC (n' := 5) hx5 rfl rfl rfl rfl rfl rfl rfl) rfl ?_
        refine hnd2_1 _ _ (A17, c17, A18, c18) ?_ ?_
        ·exact ⟨rfl, rfl, rfl, rfl, rfl, rfl, rfl, rfl, rfl, rfl, rfl, rfl, rfl, rfl, rfl, rfl, trivial⟩
        ·exact fun _ w => ((.k (.k (.k (.k (.k (.k (.k (.k (.k .z))))))))) : Keep _ _).sat (((((((((w.front (.s (.s (.s (.s (.s (.s (.s (.s .z))))))))).front (.s (.s (.s (.s (.s (.s (.s (.s .z))))))))).front (.s (.s (.s (.s (.s (.s (.s (.s .z))))))))).front (.s (.s (.s (.s (.s (.s (.s (.s .z))))))))).front (.s (.s (.s (.s (.s (.s (.s (.s .z))))))))).front (.s (.s (.s (.s (.s (.s (.s (.s .z))))))))).front (.s (.s (.s (.s (.s (.s (.s (.s .z))))))))).front (.s (.s (.s (.s (.s (.s (.s .z)))))))).front (.s (.s (.s (.s (.s (.s (.s (.s .z)))))))))
      case tnd2_2 =>
       rintro ⟨A17, c17⟩
       refine St.asrt (F' := .ro (SlL eu8 A17 c17 x3.Data) :: .ro (SlL eu8 A15 c15 o2.2.1) :: .res (Box g2 26 [.slice (some ⟨g5, 0, none⟩) o1.2.1.length c7, .slice A14 r4.2.length c14]) :: .res (Box gb1 59 [.slice A15 o2.2.1.length c15, .int .i64 o2.2.2]) :: .res (OwnL e_Need 67 A14 c14 r4.2) :: .res (OwnC (codL l_T_Image) 41 (some ⟨g5, 0, none⟩) c7 o1.2.1) :: .res (OwnC (codL l_T_Image) 41 A6 c6 o1.1) :: .res (Box g1 26 [.slice A6 o1.1.length c6, .slice none 0 0]) :: R) (fun _ w => w) ?_
       refine St.xef ?_
       refine St.ldC (ls := l_T_Image) 0 (fun ex => .agg (bx_T_Image x4 ex.1.1 ex.1.2).toArray) hx4 rfl rfl (.tail _ (.tail _ (.tail _ (.tail _ (.tail _ (.head _)))))) rfl (fun _ => rfl) fun ex2 => ?_
       obtain ⟨⟨A18, c18⟩, _⟩ := ex2
       refine St.asrt (F' := .ro (SlL eu8 A18 c18 x4.Data) :: .ro (SlL eu8 A17 c17 x3.Data) :: .ro (SlL eu8 A15 c15 o2.2.1) :: .res (Box g2 26 [.slice (some ⟨g5, 0, none⟩) o1.2.1.length c7, .slice A14 r4.2.length c14]) :: .res (Box gb1 59 [.slice A15 o2.2.1.length c15, .int .i64 o2.2.2]) :: .res (OwnL e_Need 67 A14 c14 r4.2) :: .res (OwnC (codL l_T_Image) 41 (some ⟨g5, 0, none⟩) c7 o1.2.1) :: .res (OwnC (codL l_T_Image) 41 A6 c6 o1.1) :: .res (Box g1 26 [.slice A6 o1.1.length c6, .slice none 0 0]) :: R) (fun _ w => w) ?_
       refine St.xk (fun _ w => ((.d (.d (.k (.d (.k (.k (.d (.k (.k .z))))))))) : Keep _ _).sat w) ?_
       refine St.xfl (fun _ h => h) (Rd.ixOC (n' := 5) hx5 rfl rfl rfl rfl rfl rfl rfl) rfl ?_
       refine hnd2_1 _ _ (A17, c17, A18, c18) ?_ ?_
       ·exact ⟨rfl, rfl, rfl, rfl, rfl, rfl, rfl, rfl, rfl, rfl, rfl, rfl, rfl, rfl, rfl, rfl, trivial⟩
       ·exact fun _ w => ((.k (.k (.k (.k (.k (.k (.k (.k (.k .z))))))))) : Keep _ _).sat w
     case tnd2_1 =>
      rintro ⟨A17, c17, A18, c18⟩
      refine St.asrt (F' := .ro (SlL eu8 A18 c18 x4.Data) :: .ro (SlL eu8 A17 c17 x3.Data) :: .ro (SlL eu8 A15 c15 o2.2.1) :: .res (Box g2 26 [.slice (some ⟨g5, 0, none⟩) o1.2.1.length c7, .slice A14 r4.2.length c14]) :: .res (Box gb1 59 [.slice A15 o2.2.1.length c15, .int .i64 o2.2.2]) :: .res (OwnL e_Need 67 A14 c14 r4.2) :: .res (OwnC (codL l_T_Image) 41 (some ⟨g5, 0, none⟩) c7 o1.2.1) :: .res (OwnC (codL l_T_Image) 41 A6 c6 o1.1) :: .res (Box g1 26 [.slice A6 o1.1.length c6, .slice none 0 0]) :: R) (fun _ w => w) ?_
      refine St.xef ?_
      refine St.stC (ls := l_T_Image) 0 (fun ex => ((A17, c17), ())) hx5 hl2 rfl rfl (.s (.s (.s (.s (.s (.s .z)))))) rfl rfl rfl rfl (fun _ => rfl) (fun _ => ⟨(.tail _ (.tail _ (.head _))), trivial⟩) ?_
      refine St.slots (Γ' := [(2, _), (3, _), (35, _), (36, _), (37, .slice (some ⟨g5, 0, none⟩) l2.length c7), (38, _), (39, .slice (some ⟨g5, 0, none⟩) l2.length c7), (40, _), (41, .slice (some ⟨g5, 0, none⟩) l2.length c7), (42, _), (43, _), (44, _), (45, .slice (some ⟨g5, 0, none⟩) l2.length c7), (46, _), (47, _), (48, _)]) ⟨rfl, rfl, rfl, rfl, sl_len hl2, rfl, sl_len hl2, rfl, sl_len hl2, rfl, rfl, rfl, sl_len hl2, rfl, rfl, rfl, trivial⟩ ?_
      refine St.asrt (F' := .res (OwnC (codL l_T_Image) 41 (some ⟨g5, 0, none⟩) c7 l2) :: .ro (SlL eu8 A18 c18 x4.Data) :: .ro (SlL eu8 A17 c17 x3.Data) :: .ro (SlL eu8 A15 c15 o2.2.1) :: .res (Box g2 26 [.slice (some ⟨g5, 0, none⟩) l2.length c7, .slice A14 r4.2.length c14]) :: .res (Box gb1 59 [.slice A15 o2.2.1.length c15, .int .i64 o2.2.2]) :: .res (OwnL e_Need 67 A14 c14 r4.2) :: .res (OwnC (codL l_T_Image) 41 A6 c6 o1.1) :: .res (Box g1 26 [.slice A6 o1.1.length c6, .slice none 0 0]) :: R) (fun _ w => by rw [setE_len hl2]; exact w) ?_
      refine St.xk (fun _ w => ((.d (.d (.d (.k (.d (.k (.k (.k (.k .z))))))))) : Keep _ _).sat w) ?_
      refine St.xfx (Rd.ixOC (n' := 5) hx6 rfl rfl rfl rfl rfl rfl rfl) rfl ?_
      refine hnd2_0 _ _ (A17, c17, A18, c18) ?_ ?_
      ·exact ⟨rfl, rfl, rfl, rfl, rfl, rfl, rfl, rfl, rfl, rfl, rfl, rfl, rfl, rfl, rfl, rfl, rfl, trivial⟩
      ·exact fun _ w => ((.k (.k (.k (.k (.k (.k (.k (.k (.k .z))))))))) : Keep _ _).sat w
    case tnd2_0 =>
     rintro ⟨A17, c17, A18, c18⟩
     refine St.asrt (F' := .res (OwnC (codL l_T_Image) 41 (some ⟨g5, 0, none⟩) c7 l2) :: .ro (SlL eu8 A18 c18 x4.Data) :: .ro (SlL eu8 A17 c17 x3.Data) :: .ro (SlL eu8 A15 c15 o2.2.1) :: .res (Box g2 26 [.slice (some ⟨g5, 0, none⟩) l2.length c7, .slice A14 r4.2.length c14]) :: .res (Box gb1 59 [.slice A15 o2.2.1.length c15, .int .i64 o2.2.2]) :: .res (OwnL e_Need 67 A14 c14 r4.2) :: .res (OwnC (codL l_T_Image) 41 A6 c6 o1.1) :: .res (Box g1 26 [.slice A6 o1.1.length c6, .slice none 0 0]) :: R) (fun _ w => w) ?_
     refine St.xef ?_
     refine St.stC (ls := l_T_Image) 0 (fun ex => ((A18, c18), ())) hx6 hl3 rfl rfl .z rfl rfl rfl rfl (fun _ => rfl) (fun _ => ⟨(.tail _ (.head _)), trivial⟩) ?_
     refine St.slots (Γ' := [(2, _), (3, _), (35, _), (36, _), (37, .slice (some ⟨g5, 0, none⟩) l3.length c7), (38, _), (39, .slice (some ⟨g5, 0, none⟩) l3.length c7), (40, _), (41, .slice (some ⟨g5, 0, none⟩) l3.length c7), (42, _), (43, _), (44, _), (45, .slice (some ⟨g5, 0, none⟩) l3.length c7), (46, _), (47, _), (48, _), (49, _)]) ⟨rfl, rfl, rfl, rfl, sl_len hl3, rfl, sl_len hl3, rfl, sl_len hl3, rfl, rfl, rfl, sl_len hl3, rfl, rfl, rfl, rfl, trivial⟩ ?_
     refine St.asrt (F' := .res (OwnC (codL l_T_Image) 41 (some ⟨g5, 0, none⟩) c7 l3) :: .ro (SlL eu8 A18 c18 x4.Data) :: .ro (SlL eu8 A17 c17 x3.Data) :: .ro (SlL eu8 A15 c15 o2.2.1) :: .res (Box g2 26 [.slice (some ⟨g5, 0, none⟩) l3.length c7, .slice A14 r4.2.length c14]) :: .res (Box gb1 59 [.slice A15 o2.2.1.length c15, .int .i64 o2.2.2]) :: .res (OwnL e_Need 67 A14 c14 r4.2) :: .res (OwnC (codL l_T_Image) 41 A6 c6 o1.1) :: .res (Box g1 26 [.slice A6 o1.1.length c6, .slice none 0 0]) :: R) (fun _ w => by rw [setE_len hl3]; exact w) ?_
     refine St.xk (fun _ w => ((.d (.d (.d (.k (.d (.k (.k (.k (.k .z))))))))) : Keep _ _).sat w) ?_
     refine St.xdone ?_
     refine St.thenN ?_
     refine St.prune (Γ' := [(2, _), (3, _)]) ⟨rfl, rfl, trivial⟩ (.k (.d (.d (.k (.k (.k (.k (.k (.k .z))))))))) ?_
     refine St.seq ?_
     refine St.region ?_
     refine St.loadB 0 rfl rfl (.tail _ (.tail _ (.head _))) rfl rfl ?_
     refine St.store 0 rfl rfl rfl rfl rfl rfl (.s (.s (.s (.s (.s (.s .z)))))) rfl ?_
     refine St.done ?_
     refine St.thenN ?_
     refine St.prune (Γ' := [(2, _)]) ⟨rfl, trivial⟩ (.k (.k (.k (.d (.k (.k (.d .z))))))) ?_
     refine St.ret ?_
     repeat (first | refine St.thenR ?_ | refine St.blkR ?_)
     refine St.asrt (fun _ w => (w.front (.s .z)).meltC) ?_
     refine St.asrt (fun _ w => (w.front (.s (.s (.s (.s .z))))).meltL) ?_
     injection h with h
     subst h
     exact St.finR Try.results10 (.cell rfl (.tail _ (.tail _ (.head _))) rfl .nil) rfl [.ro (SlL eu8 A15 c15 o2.2.1), .ro (Sl (codL l_T_Image) (some ⟨g5, 0, none⟩) c7 l3), .ro (SlL e_Need A14 c14 r4.2), .res (Box gb1 59 [.slice A15 o2.2.1.length c15, .int .i64 o2.2.2])] ⟨A15, c15, (some ⟨g5, 0, none⟩), c7, A14, c14, rfl, rfl⟩ (fun _ w => ((.k (.k (.k (.k (.d (.d (.d (.d .z)))))))) : Keep _ _).sat (Sat.dup (G := [.ro (SlL eu8 A15 c15 o2.2.1), .ro (Sl (codL l_T_Image) (some ⟨g5, 0, none⟩) c7 l3), .ro (SlL e_Need A14 c14 r4.2)]) rfl ⟨(.tail _ (.tail _ (.tail _ (.tail _ (.head _))))), (.tail _ (.tail _ (.head _))), (.tail _ (.head _)), trivial⟩ (w.front (.s (.s (.s (.s .z)))))))
   ·replace h := bif_f hb4 h
    refine St.skip ?_
    refine St.thenN ?_
    refine St.prune (Γ' := [(2, _), (3, _)]) ⟨rfl, rfl, trivial⟩ (.k (.k (.k (.k (.k (.k (.k .z))))))) ?_
    refine St.seq ?_
    refine St.region ?_
    refine St.loadB 0 rfl rfl (.tail _ (.head _)) rfl rfl ?_
    refine St.store 0 rfl rfl rfl rfl rfl rfl (.s (.s (.s (.s (.s (.s .z)))))) rfl ?_
    refine St.done ?_
    refine St.thenN ?_
    refine St.prune (Γ' := [(2, _)]) ⟨rfl, trivial⟩ (.k (.k (.d (.k (.k (.k (.d .z))))))) ?_
    refine St.ret ?_
    repeat (first | refine St.thenR ?_ | refine St.blkR ?_)
    refine St.asrt (fun _ w => (w.front (.s (.s (.s (.s .z))))).meltC) ?_
    refine St.asrt (fun _ w => (w.front (.s (.s (.s (.s .z))))).meltL) ?_
    injection h with h
    subst h
    exact St.finR Try.results10 (.cell rfl (.tail _ (.tail _ (.head _))) rfl .nil) rfl [.ro (SlL eu8 A15 c15 o2.2.1), .ro (Sl (codL l_T_Image) A7 c7 o1.2.1), .ro (SlL e_Need A14 c14 r4.2), .res (Box gb1 59 [.slice A15 o2.2.1.length c15, .int .i64 o2.2.2])] ⟨A15, c15, A7, c7, A14, c14, rfl, rfl⟩ (fun _ w => ((.k (.k (.k (.k (.d (.d (.d (.d .z)))))))) : Keep _ _).sat (Sat.dup (G := [.ro (SlL eu8 A15 c15 o2.2.1), .ro (Sl (codL l_T_Image) A7 c7 o1.2.1), .ro (SlL e_Need A14 c14 r4.2)]) rfl ⟨(.tail _ (.tail _ (.tail _ (.tail _ (.head _))))), (.tail _ (.tail _ (.head _))), (.tail _ (.head _)), trivial⟩ (w.front (.s (.s (.s (.s .z)))))))

theorem ent45 : Ent Try.prog 45 := ⟨_, Try.func45, by kernel_rfl, by kernel_rfl⟩

noncomputable def m_ref27_Name (s_p0 : ByteArray) : Option Bool :=
 bnd ((bif decide ((s_p0.size : Int) < 1) then (some true) else (bif decide ((s_p0.size : Int) > 16) then (some true) else (bnd (eltS s_p0 0) fun y1 => bif decide (y1 < 97) then (some true) else (some (decide (y1 > 122))))) : Option Bool)) fun o1 => bif o1 then (some false) else (bnd (loopM (τ := Bool ⊕ Unit) (fun (s1 : Int) => bif decide (s1 < (s_p0.size : Int)) then (bnd ((bnd (eltS s_p0 s1) fun y2 => bif decide (y2 ≥ 97) then (bif decide (y2 ≤ 122) then (some false) else (bif decide (y2 ≥ 48) then (bif decide (y2 ≤ 57) then (some false) else (some (!(y2 == 45)))) else (some (!(y2 == 45))))) else (bif decide (y2 ≥ 48) then (bif decide (y2 ≤ 57) then (some false) else (some (!(y2 == 45)))) else (some (!(y2 == 45)))) : Option Bool)) fun o4 => bif o4 then (some (.done (.inl false))) else (some (.next (IntKind.wrap .i64 (s1 + 1))))) else (some (.done (.inr ())))) 0) fun o2 => retOr o2 fun o3 => some true)

set_option maxHeartbeats 4000000 in
theorem c_ref27_Name {s_p0 : ByteArray} {r : Bool} (h : m_ref27_Name s_p0 = some r) :
  Fun Try.prog 45 [.string s_p0] [] (Val (.bool r)) := by
 unfold m_ref27_Name at h
 refine Fun.intro Try.func45 rfl rfl rfl fun w R => ?_
 refine St.seq ?_
 refine St.region ?_
 refine St.p rfl rfl ?_
 refine St.done ?_
 refine St.thenN ?_
 refine St.prune (Γ' := [(0, _)]) ⟨rfl, trivial⟩ .z ?_
 refine St.seq ?_
 refine St.seq ?_
 obtain ⟨o1, hj1, h⟩ := bnd_e h
 refine St.cutE (fun (e1 : Unit) => [(0, .string s_p0), (21, .bool o1)]) (fun e1 => R) ?_ ?_
 ·refine St.region ?_
  iterate 4 refine St.p rfl rfl ?_
  refine St.gSplit (dj := 7) _ rfl (fun hb1 => ?_) (fun hb1 => ?_)
  ·replace hj1 := bif_t hb1 hj1
   refine St.gOff (dj := 7) rfl rfl rfl rfl ?_
   refine St.gOff (dj := 7) rfl rfl rfl rfl ?_
   refine St.gOff (dj := 7) rfl rfl rfl rfl ?_
   refine St.p rfl rfl ?_
   refine St.p rfl rfl ?_
   refine St.gOff (dj := 12) rfl rfl rfl rfl ?_
   refine St.gOff (dj := 12) rfl rfl rfl rfl ?_
   refine St.gOff (dj := 12) rfl rfl rfl rfl ?_
   refine St.p rfl rfl ?_
   refine St.p rfl rfl ?_
   refine St.gOff (dj := 17) rfl rfl rfl rfl ?_
   refine St.gOff (dj := 17) rfl rfl rfl rfl ?_
   refine St.gOff (dj := 17) rfl rfl rfl rfl ?_
   refine St.p rfl rfl ?_
   refine St.done ?_
   injection hj1 with hj1
   subst hj1
   refine St.thenN ?_
   exact St.hereE () ⟨rfl, rfl, trivial⟩ (fun _ w => (.z : Keep _ _).sat w)
  ·replace hj1 := bif_f hb1 hj1
   refine St.gOn (dj := 7) rfl rfl ?_
   refine St.p rfl rfl ?_
   refine St.gOn (dj := 7) rfl rfl ?_
   refine St.p rfl rfl ?_
   refine St.gOn (dj := 7) rfl rfl ?_
   iterate 3 refine St.p rfl rfl ?_
   refine St.gSplit (dj := 12) _ rfl (fun hb2 => ?_) (fun hb2 => ?_)
   ·replace hj1 := bif_t hb2 hj1
    refine St.gOff (dj := 12) rfl rfl rfl rfl ?_
    refine St.gOff (dj := 12) rfl rfl rfl rfl ?_
    refine St.gOff (dj := 12) rfl rfl rfl rfl ?_
    refine St.p rfl rfl ?_
    refine St.p rfl rfl ?_
    refine St.gOff (dj := 17) rfl rfl rfl rfl ?_
    refine St.gOff (dj := 17) rfl rfl rfl rfl ?_
    refine St.gOff (dj := 17) rfl rfl rfl rfl ?_
    refine St.p rfl rfl ?_
    refine St.done ?_
    injection hj1 with hj1
    subst hj1
    refine St.thenN ?_
    exact St.hereE () ⟨rfl, rfl, trivial⟩ (fun _ w => (.z : Keep _ _).sat w)
   ·replace hj1 := bif_f hb2 hj1
    refine St.gOn (dj := 12) rfl rfl ?_
    refine St.p rfl rfl ?_
    refine St.gOn (dj := 12) rfl rfl ?_
    obtain ⟨y1, hy1, hj1⟩ := bnd_e hj1
    refine St.eltS rfl rfl rfl rfl rfl hy1 ?_
    refine St.gOn (dj := 12) rfl rfl ?_
    iterate 3 refine St.p rfl rfl ?_
    refine St.gSplit (dj := 17) _ rfl (fun hb3 => ?_) (fun hb3 => ?_)
    ·replace hj1 := bif_t hb3 hj1
     refine St.gOff (dj := 17) rfl rfl rfl rfl ?_
     refine St.gOff (dj := 17) rfl rfl rfl rfl ?_
     refine St.gOff (dj := 17) rfl rfl rfl rfl ?_
     refine St.p rfl rfl ?_
     refine St.done ?_
     injection hj1 with hj1
     subst hj1
     refine St.thenN ?_
     exact St.hereE () ⟨rfl, rfl, trivial⟩ (fun _ w => (.z : Keep _ _).sat w)
    ·replace hj1 := bif_f hb3 hj1
     refine St.gOn (dj := 17) rfl rfl ?_
     refine St.p rfl rfl ?_
     refine St.gOn (dj := 17) rfl rfl ?_
     refine St.eltS rfl rfl rfl rfl rfl hy1 ?_
     refine St.gOn (dj := 17) rfl rfl ?_
     refine St.p rfl rfl ?_
     refine St.p rfl rfl ?_
     refine St.done ?_
     injection hj1 with hj1
     subst hj1
     refine St.thenN ?_
     exact St.hereE () ⟨rfl, rfl, trivial⟩ (fun _ w => (.z : Keep _ _).sat w)
 ·rintro e1
  refine St.cond _ rfl (fun hb4 => ?_) (fun hb4 => ?_)
  ·replace h := bif_t hb4 h
   refine St.seq ?_
   refine St.region ?_
   refine St.p rfl rfl ?_
   refine St.done ?_
   refine St.thenN ?_
   refine St.prune (Γ' := [(2, _)]) ⟨rfl, trivial⟩ .z ?_
   refine St.ret ?_
   repeat (first | refine St.thenR ?_ | refine St.blkR ?_)
   injection h with h
   subst h
   exact St.finR Try.results45 (.tmp rfl .nil) rfl [] ⟨rfl, rfl⟩ (fun _ w => (.z : Keep _ _).sat w)
  ·replace h := bif_f hb4 h
   refine St.skip ?_
   refine St.thenN ?_
   refine St.prune (Γ' := [(0, _)]) ⟨rfl, trivial⟩ .z ?_
   refine St.seq ?_
   refine St.seq ?_
   refine St.region ?_
   refine St.p rfl rfl ?_
   refine St.done ?_
   refine St.thenN ?_
   obtain ⟨o2, hl1, h⟩ := bnd_e h
   refine St.cutI (fun (o3 : Unit) (e3 : Unit) => []) (fun o3 e3 => R) (fun o3 => o2 = .inr o3) ?_ ?_
   ·refine St.block ?_
    refine St.loop hl1 (fun (s1 : Int) (e2 : Unit) => [(0, .string s_p0), (3, .int .i64 s1)]) (fun s1 e2 => R) (fun _ _ => True) () trivial ⟨rfl, rfl, trivial⟩ (fun _ w => (.z : Keep _ _).sat w) ?_
    rintro s1 e2 - hit1
    obtain ⟨st1, hm1, hd1⟩ := iter_e hit1
    have h1 := hm1
    refine St.seq ?_
    refine St.seq ?_
    refine St.region ?_
    iterate 4 refine St.p rfl rfl ?_
    refine St.done ?_
    refine St.thenN ?_
    refine St.prune (Γ' := [(0, _), (3, _), (25, _)]) ⟨rfl, rfl, rfl, trivial⟩ .z ?_
    refine St.cond _ rfl (fun hb5 => ?_) (fun hb5 => ?_)
    ·replace h1 := bif_t hb5 h1
     refine St.skip ?_
     refine St.thenN ?_
     refine St.prune (Γ' := [(0, _), (3, _)]) ⟨rfl, rfl, trivial⟩ .z ?_
     refine St.seq ?_
     refine St.block ?_
     refine St.seq ?_
     obtain ⟨o4, hj2, h1⟩ := bnd_e h1
     refine St.cutE (fun (e4 : Unit) => [(0, .string s_p0), (3, .int .i64 s1), (56, .bool o4)]) (fun e4 => R) ?_ ?_
     ·refine St.region ?_
      refine St.p rfl rfl ?_
      refine St.p rfl rfl ?_
      obtain ⟨y2, hy2, hj2⟩ := bnd_e hj2
      refine St.eltS rfl rfl rfl rfl rfl hy2 ?_
      refine St.p rfl rfl ?_
      refine St.p rfl rfl ?_
      refine St.gSplit (dj := 32) _ rfl (fun hb6 => ?_) (fun hb6 => ?_)
      ·replace hj2 := bif_t hb6 hj2
       refine St.gOn (dj := 32) rfl rfl ?_
       refine St.p rfl rfl ?_
       refine St.gOn (dj := 32) rfl rfl ?_
       refine St.p rfl rfl ?_
       refine St.gOn (dj := 32) rfl rfl ?_
       refine St.eltS rfl rfl rfl rfl rfl hy2 ?_
       refine St.gOn (dj := 32) rfl rfl ?_
       iterate 3 refine St.p rfl rfl ?_
       refine St.gSplit (dj := 38) _ rfl (fun hb7 => ?_) (fun hb7 => ?_)
       ·replace hj2 := bif_t hb7 hj2
        refine St.gOff (dj := 38) rfl rfl rfl rfl ?_
        refine St.gOff (dj := 38) rfl rfl rfl rfl ?_
        refine St.gOff (dj := 38) rfl rfl rfl rfl ?_
        refine St.gOff (dj := 38) rfl rfl rfl rfl ?_
        refine St.gOff (dj := 38) rfl rfl rfl rfl ?_
        refine St.gOff (dj := 43) rfl rfl rfl rfl ?_
        refine St.gOff (dj := 43) rfl rfl rfl rfl ?_
        refine St.gOff (dj := 43) rfl rfl rfl rfl ?_
        refine St.gOff (dj := 43) rfl rfl rfl rfl ?_
        refine St.gOff (dj := 38) rfl rfl rfl rfl ?_
        refine St.p rfl rfl ?_
        refine St.p rfl rfl ?_
        refine St.gOff (dj := 50) rfl rfl rfl rfl ?_
        refine St.gOff (dj := 50) rfl rfl rfl rfl ?_
        refine St.gOff (dj := 50) rfl rfl rfl rfl ?_
        refine St.gOff (dj := 50) rfl rfl rfl rfl ?_
        refine St.p rfl rfl ?_
        refine St.p rfl rfl ?_
        refine St.done ?_
        injection hj2 with hj2
        subst hj2
        refine St.thenN ?_
        exact St.hereE () ⟨rfl, rfl, rfl, trivial⟩ (fun _ w => (.z : Keep _ _).sat w)
       ·replace hj2 := bif_f hb7 hj2
        refine St.gOn (dj := 38) rfl rfl ?_
        refine St.p rfl rfl ?_
        refine St.gOn (dj := 38) rfl rfl ?_
        refine St.p rfl rfl ?_
        refine St.gOn (dj := 38) rfl rfl ?_
        refine St.eltS rfl rfl rfl rfl rfl hy2 ?_
        refine St.gOn (dj := 38) rfl rfl ?_
        refine St.p rfl rfl ?_
        refine St.gOn (dj := 38) rfl rfl ?_
        refine St.p rfl rfl ?_
        refine St.gSplit (dj := 43) _ rfl (fun hb8 => ?_) (fun hb8 => ?_)
        ·replace hj2 := bif_t hb8 hj2
         refine St.gOn (dj := 43) rfl rfl ?_
         refine St.p rfl rfl ?_
         refine St.gOn (dj := 43) rfl rfl ?_
         refine St.p rfl rfl ?_
         refine St.gOn (dj := 43) rfl rfl ?_
         refine St.eltS rfl rfl rfl rfl rfl hy2 ?_
         refine St.gOn (dj := 43) rfl rfl ?_
         refine St.p rfl rfl ?_
         refine St.gOn (dj := 38) rfl rfl ?_
         iterate 3 refine St.p rfl rfl ?_
         refine St.gSplit (dj := 50) _ rfl (fun hb9 => ?_) (fun hb9 => ?_)
         ·replace hj2 := bif_t hb9 hj2
          refine St.gOff (dj := 50) rfl rfl rfl rfl ?_
          refine St.gOff (dj := 50) rfl rfl rfl rfl ?_
          refine St.gOff (dj := 50) rfl rfl rfl rfl ?_
          refine St.gOff (dj := 50) rfl rfl rfl rfl ?_
          refine St.p rfl rfl ?_
          refine St.p rfl rfl ?_
          refine St.done ?_
          injection hj2 with hj2
          subst hj2
          refine St.thenN ?_
          exact St.hereE () ⟨rfl, rfl, rfl, trivial⟩ (fun _ w => (.z : Keep _ _).sat w)
         ·replace hj2 := bif_f hb9 hj2
          refine St.gOn (dj := 50) rfl rfl ?_
          refine St.p rfl rfl ?_
          refine St.gOn (dj := 50) rfl rfl ?_
          refine St.p rfl rfl ?_
          refine St.gOn (dj := 50) rfl rfl ?_
          refine St.eltS rfl rfl rfl rfl rfl hy2 ?_
          refine St.gOn (dj := 50) rfl rfl ?_
          iterate 3 refine St.p rfl rfl ?_
          refine St.done ?_
          injection hj2 with hj2
          subst hj2
          refine St.thenN ?_
          exact St.hereE () ⟨rfl, rfl, rfl, trivial⟩ (fun _ w => (.z : Keep _ _).sat w)
        ·replace hj2 := bif_f hb8 hj2
         refine St.gOff (dj := 43) rfl rfl rfl rfl ?_
         refine St.gOff (dj := 43) rfl rfl rfl rfl ?_
         refine St.gOff (dj := 43) rfl rfl rfl rfl ?_
         refine St.gOff (dj := 43) rfl rfl rfl rfl ?_
         refine St.gOn (dj := 38) rfl rfl ?_
         iterate 3 refine St.p rfl rfl ?_
         refine St.gOn (dj := 50) rfl rfl ?_
         refine St.p rfl rfl ?_
         refine St.gOn (dj := 50) rfl rfl ?_
         refine St.p rfl rfl ?_
         refine St.gOn (dj := 50) rfl rfl ?_
         refine St.eltS rfl rfl rfl rfl rfl hy2 ?_
         refine St.gOn (dj := 50) rfl rfl ?_
         iterate 3 refine St.p rfl rfl ?_
         refine St.done ?_
         injection hj2 with hj2
         subst hj2
         refine St.thenN ?_
         exact St.hereE () ⟨rfl, rfl, rfl, trivial⟩ (fun _ w => (.z : Keep _ _).sat w)
      ·replace hj2 := bif_f hb6 hj2
       refine St.gOff (dj := 32) rfl rfl rfl rfl ?_
       refine St.gOff (dj := 32) rfl rfl rfl rfl ?_
       refine St.gOff (dj := 32) rfl rfl rfl rfl ?_
       refine St.gOff (dj := 32) rfl rfl rfl rfl ?_
       refine St.p rfl rfl ?_
       refine St.p rfl rfl ?_
       refine St.gOn (dj := 38) rfl rfl ?_
       refine St.p rfl rfl ?_
       refine St.gOn (dj := 38) rfl rfl ?_
       refine St.p rfl rfl ?_
       refine St.gOn (dj := 38) rfl rfl ?_
       refine St.eltS rfl rfl rfl rfl rfl hy2 ?_
       refine St.gOn (dj := 38) rfl rfl ?_
       refine St.p rfl rfl ?_
       refine St.gOn (dj := 38) rfl rfl ?_
       refine St.p rfl rfl ?_
       refine St.gSplit (dj := 43) _ rfl (fun hb10 => ?_) (fun hb10 => ?_)
       ·replace hj2 := bif_t hb10 hj2
        refine St.gOn (dj := 43) rfl rfl ?_
        refine St.p rfl rfl ?_
        refine St.gOn (dj := 43) rfl rfl ?_
        refine St.p rfl rfl ?_
        refine St.gOn (dj := 43) rfl rfl ?_
        refine St.eltS rfl rfl rfl rfl rfl hy2 ?_
        refine St.gOn (dj := 43) rfl rfl ?_
        refine St.p rfl rfl ?_
        refine St.gOn (dj := 38) rfl rfl ?_
        iterate 3 refine St.p rfl rfl ?_
        refine St.gSplit (dj := 50) _ rfl (fun hb11 => ?_) (fun hb11 => ?_)
        ·replace hj2 := bif_t hb11 hj2
         refine St.gOff (dj := 50) rfl rfl rfl rfl ?_
         refine St.gOff (dj := 50) rfl rfl rfl rfl ?_
         refine St.gOff (dj := 50) rfl rfl rfl rfl ?_
         refine St.gOff (dj := 50) rfl rfl rfl rfl ?_
         refine St.p rfl rfl ?_
         refine St.p rfl rfl ?_
         refine St.done ?_
         injection hj2 with hj2
         subst hj2
         refine St.thenN ?_
         exact St.hereE () ⟨rfl, rfl, rfl, trivial⟩ (fun _ w => (.z : Keep _ _).sat w)
        ·replace hj2 := bif_f hb11 hj2
         refine St.gOn (dj := 50) rfl rfl ?_
         refine St.p rfl rfl ?_
         refine St.gOn (dj := 50) rfl rfl ?_
         refine St.p rfl rfl ?_
         refine St.gOn (dj := 50) rfl rfl ?_
         refine St.eltS rfl rfl rfl rfl rfl hy2 ?_
         refine St.gOn (dj := 50) rfl rfl ?_
         iterate 3 refine St.p rfl rfl ?_
         refine St.done ?_
         injection hj2 with hj2
         subst hj2
         refine St.thenN ?_
         exact St.hereE () ⟨rfl, rfl, rfl, trivial⟩ (fun _ w => (.z : Keep _ _).sat w)
       ·replace hj2 := bif_f hb10 hj2
        refine St.gOff (dj := 43) rfl rfl rfl rfl ?_
        refine St.gOff (dj := 43) rfl rfl rfl rfl ?_
        refine St.gOff (dj := 43) rfl rfl rfl rfl ?_
        refine St.gOff (dj := 43) rfl rfl rfl rfl ?_
        refine St.gOn (dj := 38) rfl rfl ?_
        iterate 3 refine St.p rfl rfl ?_
        refine St.gOn (dj := 50) rfl rfl ?_
        refine St.p rfl rfl ?_
        refine St.gOn (dj := 50) rfl rfl ?_
        refine St.p rfl rfl ?_
        refine St.gOn (dj := 50) rfl rfl ?_
        refine St.eltS rfl rfl rfl rfl rfl hy2 ?_
        refine St.gOn (dj := 50) rfl rfl ?_
        iterate 3 refine St.p rfl rfl ?_
        refine St.done ?_
        injection hj2 with hj2
        subst hj2
        refine St.thenN ?_
        exact St.hereE () ⟨rfl, rfl, rfl, trivial⟩ (fun _ w => (.z : Keep _ _).sat w)
     ·rintro e4
      refine St.cond _ rfl (fun hb12 => ?_) (fun hb12 => ?_)
      ·replace h1 := bif_t hb12 h1
       refine St.seq ?_
       refine St.region ?_
       refine St.p rfl rfl ?_
       refine St.done ?_
       refine St.thenN ?_
       refine St.prune (Γ' := [(2, _)]) ⟨rfl, trivial⟩ .z ?_
       refine St.ret ?_
       repeat (first | refine St.thenR ?_ | refine St.blkR ?_)
       injection h1 with h1
       subst h1
       have ho := hd1 _ rfl
       subst ho
       have h : some _ = some _ := h
       injection h with h
       subst h
       exact St.finR Try.results45 (.tmp rfl .nil) rfl [] ⟨rfl, rfl⟩ (fun _ w => (.z : Keep _ _).sat w)
      ·replace h1 := bif_f hb12 h1
       refine St.skip ?_
       refine St.blkN ?_
       refine St.thenN ?_
       refine St.prune (Γ' := [(0, _), (3, _)]) ⟨rfl, rfl, trivial⟩ .z ?_
       refine St.region ?_
       iterate 3 refine St.p rfl rfl ?_
       refine St.done ?_
       injection h1 with h1
       subst h1
       refine St.thenN ?_
       exact St.again _ () hm1 trivial ⟨rfl, rfl, trivial⟩ (fun _ w => (.z : Keep _ _).sat w)
    ·replace h1 := bif_f hb5 h1
     refine St.exit ?_
     repeat (first | refine St.thenX ?_ | refine St.blkMiss rfl ?_)
     refine St.blkHit ?_
     injection h1 with h1
     subst h1
     have ho := hd1 _ rfl
     subst ho
     refine St.thenN ?_
     exact St.hereI () () rfl trivial (fun _ w => (.z : Keep _ _).sat w)
   ·rintro o3 e3 ho
    subst ho
    have h : _ = some _ := h
    refine St.seq ?_
    refine St.region ?_
    refine St.p rfl rfl ?_
    refine St.done ?_
    refine St.thenN ?_
    refine St.ret ?_
    repeat (first | refine St.thenR ?_ | refine St.blkR ?_)
    injection h with h
    subst h
    exact St.finR Try.results45 (.tmp rfl .nil) rfl [] ⟨rfl, rfl⟩ (fun _ w => (.z : Keep _ _).sat w)

theorem ent46 : Ent Try.prog 46 := ⟨_, Try.func46, by kernel_rfl, by kernel_rfl⟩

noncomputable def m_ref27_Valid (v_p0 : T_Version) : Option Bool :=
 bnd ((bif decide (v_p0.Major ≥ 0) then (bif decide (v_p0.Major ≤ 999) then (bif decide (v_p0.Minor ≥ 0) then (bif decide (v_p0.Minor ≤ 999) then (bif decide (v_p0.Patch ≥ 0) then (some (decide (v_p0.Patch ≤ 999))) else (some false)) else (some false)) else (some false)) else (some false)) else (some false) : Option Bool)) fun o1 => some o1

end Go.Proofs.Ytgnmhmnglbbamaa
