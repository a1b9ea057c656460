/-
  Models of functions of the program, and that the functions compute them.
  Conditions: none.
-/
import Derived.Test.YtcjhemblnemhfaaGen
namespace Go.Proofs.Ytcjhemblnemhfaa
open Go
set_option linter.unusedVariables false

theorem ent3 : Ent Try.prog 3 := ⟨_, Try.func3, by kernel_rfl, by kernel_rfl⟩

noncomputable def m_law29_BankPieces (codes : (List Int)) (n_p1 : Int) (by_p2 : Int) : Option Bool :=
  bnd (m_law29_awake) fun r1 => bif !r1 then (some false) else (bnd (m_field_New codes 60) fun r2 => bnd (m_bank_New (⟨⟨#[109, 101]⟩, (⟨1, 0, 0⟩ : T_Version), [1]⟩ : T_Image)) fun r3 => bnd (m_field_Codes_Bytes r2 20) fun r4 => bnd (app 1 ([2]) r4.2) fun l1 => bnd (remM (IntKind.wrap .i64 n_p1) (IntKind.wrap .i64 ((l1.length : Int) + 1))) fun q1 => bnd (m_bank_Write r3.1 (⟨⟨#[109, 101]⟩, (⟨2, 0, 0⟩ : T_Version), l1⟩ : T_Image) q1) fun r5 => bnd ((bif (r3.2 != 0) then (some true) else (some (r5.2 != 0)) : Option Bool)) fun o1 => bif o1 then (some false) else (bnd (m_bank_Switch r5.1) fun r6 => bnd ((bif (r6.2 != 46) then (bnd (elt [r5.1.Slots.e0, r5.1.Slots.e1] (IntKind.wrap .i64 (1 - r5.1.Running))) fun x1 => bnd (m_bundle_Sum x1.Image) fun r7 => some (r7 != 0)) else (some false) : Option Bool)) fun o2 => bif o2 then (some false) else (bnd (m_bundle_Sum (⟨⟨#[109, 101]⟩, (⟨2, 0, 0⟩ : T_Version), l1⟩ : T_Image)) fun r8 => bnd (m_bank_Finish r5.1 (IntKind.wrap .u32 (r8 + by_p2))) fun r9 => bnd ((bif (by_p2 != 0) then (bif (r9.2 != 5) then (some (q1 == (l1.length : Int))) else (some false)) else (some false) : Option Bool)) fun o3 => bif o3 then (some false) else (bnd (m_bundle_Sum (⟨⟨#[109, 101]⟩, (⟨2, 0, 0⟩ : T_Version), l1⟩ : T_Image)) fun r10 => bnd (m_bank_Finish r5.1 r10) fun r11 => bif decide (q1 < (l1.length : Int)) then (bnd (sub l1 0 q1) fun l2 => bnd ((bif (r11.2 == 5) then (some true) else (bif decide (q1 > 0) then (bnd (m_bundle_Sum (⟨⟨#[109, 101]⟩, (⟨2, 0, 0⟩ : T_Version), l2⟩ : T_Image)) fun r12 => bnd (m_bundle_Sum (⟨⟨#[109, 101]⟩, (⟨2, 0, 0⟩ : T_Version), l1⟩ : T_Image)) fun r13 => some (r12 == r13)) else (some false)) : Option Bool)) fun o4 => some o4) else (bnd (m_bank_Switch r11.1) fun r14 => bnd ((bif (r11.2 == 0) then (bif (r14.2 == 0) then (bif r14.1.Trial then (bnd (elt [r11.1.Slots.e0, r11.1.Slots.e1] (IntKind.wrap .i64 (1 - r11.1.Running))) fun x2 => bnd (m_ref28_SameImage x2.Image (⟨⟨#[109, 101]⟩, (⟨2, 0, 0⟩ : T_Version), l1⟩ : T_Image)) fun r15 => some r15) else (some false)) else (some false)) else (some false) : Option Bool)) fun o5 => some o5)))))

set_option maxHeartbeats 4000000 in
theorem c_law29_BankPieces {codes : (List Int)} {n_p1 : Int} {by_p2 : Int} {A1 : Option Addr} {c1 : Nat} {r : Bool} (h : m_law29_BankPieces codes n_p1 by_p2 = some r) :
    Fun Try.prog 3 [.slice A1 codes.length c1, .int .u8 n_p1, .int .u32 by_p2] [.ro (SlL eu8 A1 c1 codes)] (Val (.bool r)) := by
  unfold m_law29_BankPieces at h
  refine Fun.intro Try.func3 rfl rfl rfl fun w R => ?_
  refine St.seq ?_
  refine St.region ?_
  refine St.p rfl rfl ?_
  refine St.done ?_
  refine St.thenN ?_
  refine St.prune (Γ' := [(0, _), (1, _), (2, _)]) ⟨rfl, rfl, rfl, trivial⟩ (.k .z) ?_
  refine St.seq ?_
  refine St.seq ?_
  refine St.region ?_
  obtain ⟨r1, hr1, h⟩ := bnd_e h
  refine St.callV (c_law29_awake hr1) ent9 rfl rfl rfl rfl trivial ?_
  refine St.p rfl rfl ?_
  refine St.done ?_
  refine St.thenN ?_
  refine St.prune (Γ' := [(0, _), (1, _), (2, _), (24, _)]) ⟨rfl, rfl, rfl, rfl, trivial⟩ (.k .z) ?_
  refine St.cond _ rfl (fun hb1 => ?_) (fun hb1 => ?_)
  · replace h := bif_t hb1 h
    refine St.seq ?_
    refine St.region ?_
    refine St.p rfl rfl ?_
    refine St.done ?_
    refine St.thenN ?_
    refine St.prune (Γ' := [(6, _)]) ⟨rfl, trivial⟩ (.d .z) ?_
    refine St.ret ?_
    repeat (first | refine St.thenR ?_ | refine St.blkR ?_)
    injection h with h
    subst h
    exact St.finR Try.results3 (.tmp rfl .nil) rfl [] ⟨rfl, rfl⟩ (fun _ w => (.z : Keep _ _).sat w)
  · replace h := bif_f hb1 h
    refine St.skip ?_
    refine St.thenN ?_
    refine St.prune (Γ' := [(0, _), (1, _), (2, _)]) ⟨rfl, rfl, rfl, trivial⟩ (.k .z) ?_
    refine St.seq ?_
    refine St.region ?_
    refine St.p rfl rfl ?_
    obtain ⟨r2, hr2, h⟩ := bnd_e h
    refine St.call (c_field_New hr2) ent10 rfl rfl rfl (fun _ w => Sat.dup (G := [.ro (SlL eu8 A1 c1 codes)]) rfl ⟨(.head _), trivial⟩ w) ?_
    rintro _ _ ⟨g1, A2, c2, rfl, rfl⟩
    refine St.asrt (F' := .ro (SlL eu8 A2 c2 r2.L) :: .res (Box g1 63 [.slice A2 r2.L.length c2, .int .i64 r2.At]) :: .ro (SlL eu8 A1 c1 codes) :: R) (fun _ w => w) ?_
    refine St.p rfl rfl ?_
    refine St.done ?_
    refine St.thenN ?_
    refine St.prune (Γ' := [(1, _), (2, _), (7, _)]) ⟨rfl, rfl, rfl, trivial⟩ (.k (.k (.d .z))) ?_
    refine St.seq ?_
    refine St.region ?_
    refine St.p rfl rfl ?_
    refine St.buildSlice rfl rfl rfl rfl rfl rfl rfl rfl fun g2 => ?_
    refine St.p rfl rfl ?_
    refine St.asrt (fun _ w => (w.front .z).litL (E := eu8) (e := 5) [1] rfl rfl) ?_
    refine St.asrt (fun _ w => (w.front .z).meltL) ?_
    obtain ⟨r3, hr3, h⟩ := bnd_e h
    refine St.call (c_bank_New hr3) ent11 rfl rfl rfl (fun _ w => Sat.dup (G := [.ro (SlL eu8 (some ⟨g2, 0, none⟩) ([1] : List Int).length ([1]))]) rfl ⟨(.head _), trivial⟩ w) ?_
    rintro _ _ ⟨A3, c3, A4, c4, rfl, rfl⟩
    refine St.asrt (F' := .ro (SlL eu8 A3 c3 r3.1.Slots.e0.Image.Data) :: .ro (SlL eu8 A4 c4 r3.1.Slots.e1.Image.Data) :: .ro (SlL eu8 (some ⟨g2, 0, none⟩) ([1] : List Int).length ([1])) :: .ro (SlL eu8 A2 c2 r2.L) :: .res (Box g1 63 [.slice A2 r2.L.length c2, .int .i64 r2.At]) :: R) (fun _ w => w) ?_
    iterate 3 refine St.p rfl rfl ?_
    refine St.alloc rfl rfl fun g3 => ?_
    refine St.store 0 rfl rfl rfl rfl rfl rfl .z rfl ?_
    refine St.p rfl rfl ?_
    refine St.done ?_
    refine St.thenN ?_
    refine St.prune (Γ' := [(1, _), (2, _), (7, _), (8, _), (9, _)]) ⟨rfl, rfl, rfl, rfl, rfl, trivial⟩ (.k (.k (.k (.d (.k (.k .z)))))) ?_
    refine St.seq ?_
    refine St.region ?_
    refine St.p rfl rfl ?_
    refine St.buildSlice rfl rfl rfl rfl rfl rfl rfl rfl fun g4 => ?_
    refine St.p rfl rfl ?_
    obtain ⟨r4, hr4, h⟩ := bnd_e h
    refine St.call (c_field_Codes_Bytes hr4) ent12 rfl rfl rfl (fun _ w => Sat.dup (G := [.ro (SlL eu8 A2 c2 r2.L)]) rfl ⟨(.tail _ (.tail _ (.tail _ (.tail _ (.tail _ (.head _)))))), trivial⟩ (w.front (.s (.s (.s (.s (.s .z))))))) ?_
    rintro _ _ ⟨A5, c5, A6, c6, rfl, rfl⟩
    refine St.asrt (F' := .ro (SlL eu8 A5 c5 r4.1.L) :: .res (Box g1 63 [.slice A5 r4.1.L.length c5, .int .i64 r4.1.At]) :: .res (OwnL eu8 5 A6 c6 r4.2) :: .res (Box g4 5 [.int .u8 2]) :: .res (Box g3 35 (bx_T_Device r3.1 A3 c3 A4 c4)) :: .ro (SlL eu8 A3 c3 r3.1.Slots.e0.Image.Data) :: .ro (SlL eu8 A4 c4 r3.1.Slots.e1.Image.Data) :: .ro (SlL eu8 A2 c2 r2.L) :: R) (fun _ w => w) ?_
    refine St.asrt (fun _ w => (w.front (.s (.s .z))).meltL) ?_
    refine St.asrt (fun _ w => (w.front (.s (.s (.s .z)))).litL (E := eu8) (e := 5) [2] rfl rfl) ?_
    obtain ⟨l1, hl1, h⟩ := bnd_e h
    refine St.app (E := eu8) hl1 rfl rfl rfl .z rfl rfl rfl rfl rfl rfl rfl rfl (srcL (.tail _ (.head _))) rfl rfl fun A7 c7 => ?_
    refine St.p rfl rfl ?_
    refine St.alloc rfl rfl fun g5 => ?_
    refine St.store 0 rfl rfl rfl rfl rfl rfl .z rfl ?_
    refine St.done ?_
    refine St.thenN ?_
    refine St.prune (Γ' := [(1, _), (2, _), (8, _), (9, _), (10, _)]) ⟨rfl, rfl, rfl, rfl, rfl, trivial⟩ (.k (.k (.d (.d (.d (.k (.k (.k (.d .z))))))))) ?_
    refine St.seq ?_
    refine St.region ?_
    iterate 3 refine St.p rfl rfl ?_
    refine St.loadB 4 rfl rfl (.head _) rfl rfl ?_
    refine St.p rfl rfl ?_
    refine St.p rfl rfl ?_
    obtain ⟨q1, hq1, h⟩ := bnd_e h
    refine St.rem rfl rfl rfl hq1 ?_
    refine St.p rfl rfl ?_
    refine St.done ?_
    refine St.thenN ?_
    refine St.prune (Γ' := [(2, _), (8, _), (9, _), (10, _), (11, _)]) ⟨rfl, rfl, rfl, rfl, rfl, trivial⟩ (.k (.k (.k (.k (.k .z))))) ?_
    refine St.seq ?_
    refine St.region ?_
    refine St.loadB 0 rfl rfl (.tail _ (.tail _ (.head _))) rfl rfl ?_
    refine St.loadB 0 rfl rfl (.head _) rfl rfl ?_
    refine St.p rfl rfl ?_
    refine St.asrt (fun _ w => (w.front (.s .z)).meltL) ?_
    obtain ⟨r5, hr5, h⟩ := bnd_e h
    refine St.call (c_bank_Write hr5) ent13 rfl rfl rfl (fun _ w => Sat.dup (G := [.ro (SlL eu8 A3 c3 r3.1.Slots.e0.Image.Data), .ro (SlL eu8 A4 c4 r3.1.Slots.e1.Image.Data), .ro (SlL eu8 A7 c7 l1)]) rfl ⟨(.tail _ (.tail _ (.tail _ (.head _)))), (.tail _ (.tail _ (.tail _ (.tail _ (.head _))))), (.head _), trivial⟩ w) ?_
    rintro _ _ ⟨A8, c8, A9, c9, rfl, rfl⟩
    refine St.asrt (F' := .ro (SlL eu8 A8 c8 r5.1.Slots.e0.Image.Data) :: .ro (SlL eu8 A9 c9 r5.1.Slots.e1.Image.Data) :: .ro (SlL eu8 A7 c7 l1) :: .res (Box g5 30 [.string (⟨#[109, 101]⟩), .int .i64 2, .int .i64 0, .int .i64 0, .slice A7 l1.length c7]) :: .res (Box g3 35 (bx_T_Device r3.1 A3 c3 A4 c4)) :: .ro (SlL eu8 A3 c3 r3.1.Slots.e0.Image.Data) :: .ro (SlL eu8 A4 c4 r3.1.Slots.e1.Image.Data) :: R) (fun _ w => w) ?_
    iterate 3 refine St.p rfl rfl ?_
    refine St.alloc rfl rfl fun g6 => ?_
    refine St.store 0 rfl rfl rfl rfl rfl rfl .z rfl ?_
    refine St.p rfl rfl ?_
    refine St.done ?_
    refine St.thenN ?_
    refine St.prune (Γ' := [(2, _), (9, _), (10, _), (11, _), (12, _), (13, _)]) ⟨rfl, rfl, rfl, rfl, rfl, rfl, trivial⟩ (.k (.k (.k (.k (.k (.d (.d (.d .z)))))))) ?_
    refine St.seq ?_
    refine St.seq ?_
    obtain ⟨o1, hj1, h⟩ := bnd_e h
    refine St.cutE (fun (e1 : Unit) => [(2, .int .u32 by_p2), (10, .pointer (some ⟨g5, 0, none⟩)), (11, .int .i64 q1), (12, .pointer (some ⟨g6, 0, none⟩)), (59, .bool o1)]) (fun e1 => .res (Box g6 35 (bx_T_Device r5.1 A8 c8 A9 c9)) :: .ro (SlL eu8 A8 c8 r5.1.Slots.e0.Image.Data) :: .ro (SlL eu8 A9 c9 r5.1.Slots.e1.Image.Data) :: .ro (SlL eu8 A7 c7 l1) :: .res (Box g5 30 [.string (⟨#[109, 101]⟩), .int .i64 2, .int .i64 0, .int .i64 0, .slice A7 l1.length c7]) :: R) ?_ ?_
    · refine St.region ?_
      iterate 3 refine St.p rfl rfl ?_
      refine St.gSplit (dj := 56) _ rfl (fun hb2 => ?_) (fun hb2 => ?_)
      · replace hj1 := bif_t hb2 hj1
        refine St.gOff (dj := 56) rfl rfl rfl rfl ?_
        refine St.gOff (dj := 56) rfl rfl rfl rfl ?_
        refine St.p rfl rfl ?_
        refine St.done ?_
        injection hj1 with hj1
        subst hj1
        refine St.thenN ?_
        exact St.hereE () ⟨rfl, rfl, rfl, rfl, rfl, trivial⟩ (fun _ w => ((.k (.k (.k (.k (.k .z))))) : Keep _ _).sat w)
      · replace hj1 := bif_f hb2 hj1
        refine St.gOn (dj := 56) rfl rfl ?_
        refine St.p rfl rfl ?_
        refine St.gOn (dj := 56) rfl rfl ?_
        refine St.p rfl rfl ?_
        refine St.p rfl rfl ?_
        refine St.done ?_
        injection hj1 with hj1
        subst hj1
        refine St.thenN ?_
        exact St.hereE () ⟨rfl, rfl, rfl, rfl, rfl, trivial⟩ (fun _ w => ((.k (.k (.k (.k (.k .z))))) : Keep _ _).sat w)
    · rintro e1
      refine St.cond _ rfl (fun hb3 => ?_) (fun hb3 => ?_)
      · replace h := bif_t hb3 h
        refine St.seq ?_
        refine St.region ?_
        refine St.p rfl rfl ?_
        refine St.done ?_
        refine St.thenN ?_
        refine St.prune (Γ' := [(6, _)]) ⟨rfl, trivial⟩ (.d (.d (.d (.d (.d .z))))) ?_
        refine St.ret ?_
        repeat (first | refine St.thenR ?_ | refine St.blkR ?_)
        injection h with h
        subst h
        exact St.finR Try.results3 (.tmp rfl .nil) rfl [] ⟨rfl, rfl⟩ (fun _ w => (.z : Keep _ _).sat w)
      · replace h := bif_f hb3 h
        refine St.skip ?_
        refine St.thenN ?_
        refine St.prune (Γ' := [(2, _), (10, _), (11, _), (12, _)]) ⟨rfl, rfl, rfl, rfl, trivial⟩ (.k (.k (.k (.k (.k .z))))) ?_
        refine St.seq ?_
        refine St.seq ?_
        refine St.region ?_
        refine St.loadB 0 rfl rfl (.head _) rfl rfl ?_
        obtain ⟨r6, hr6, h⟩ := bnd_e h
        refine St.call (c_bank_Switch hr6) ent14 rfl rfl rfl (fun _ w => Sat.dup (G := [.ro (SlL eu8 A8 c8 r5.1.Slots.e0.Image.Data), .ro (SlL eu8 A9 c9 r5.1.Slots.e1.Image.Data)]) rfl ⟨(.tail _ (.head _)), (.tail _ (.tail _ (.head _))), trivial⟩ w) ?_
        rintro _ _ ⟨A10, c10, A11, c11, rfl, rfl⟩
        refine St.asrt (F' := .ro (SlL eu8 A10 c10 r6.1.Slots.e0.Image.Data) :: .ro (SlL eu8 A11 c11 r6.1.Slots.e1.Image.Data) :: .res (Box g6 35 (bx_T_Device r5.1 A8 c8 A9 c9)) :: .ro (SlL eu8 A8 c8 r5.1.Slots.e0.Image.Data) :: .ro (SlL eu8 A9 c9 r5.1.Slots.e1.Image.Data) :: .ro (SlL eu8 A7 c7 l1) :: .res (Box g5 30 [.string (⟨#[109, 101]⟩), .int .i64 2, .int .i64 0, .int .i64 0, .slice A7 l1.length c7]) :: R) (fun _ w => w) ?_
        iterate 3 refine St.p rfl rfl ?_
        refine St.alloc rfl rfl fun g7 => ?_
        refine St.store 0 rfl rfl rfl rfl rfl rfl .z rfl ?_
        refine St.p rfl rfl ?_
        refine St.done ?_
        refine St.thenN ?_
        refine St.prune (Γ' := [(2, _), (10, _), (11, _), (12, _), (15, _)]) ⟨rfl, rfl, rfl, rfl, rfl, trivial⟩ (.d (.d (.d (.k (.k (.k (.k (.k .z)))))))) ?_
        refine St.seq ?_
        obtain ⟨o2, hj2, h⟩ := bnd_e h
        refine St.cutE (fun (e2 : Unit) => [(2, .int .u32 by_p2), (10, .pointer (some ⟨g5, 0, none⟩)), (11, .int .i64 q1), (12, .pointer (some ⟨g6, 0, none⟩)), (77, .bool o2)]) (fun e2 => .res (Box g6 35 (bx_T_Device r5.1 A8 c8 A9 c9)) :: .ro (SlL eu8 A8 c8 r5.1.Slots.e0.Image.Data) :: .ro (SlL eu8 A9 c9 r5.1.Slots.e1.Image.Data) :: .ro (SlL eu8 A7 c7 l1) :: .res (Box g5 30 [.string (⟨#[109, 101]⟩), .int .i64 2, .int .i64 0, .int .i64 0, .slice A7 l1.length c7]) :: R) ?_ ?_
        · refine St.region ?_
          iterate 3 refine St.p rfl rfl ?_
          refine St.gSplit (dj := 67) _ rfl (fun hb4 => ?_) (fun hb4 => ?_)
          · replace hj2 := bif_t hb4 hj2
            refine St.gOn (dj := 67) rfl rfl ?_
            refine St.p rfl rfl ?_
            refine St.gOn (dj := 67) rfl rfl ?_
            refine St.loadB 14 rfl rfl (.head _) rfl rfl ?_
            refine St.gOn (dj := 67) rfl rfl ?_
            refine St.p rfl rfl ?_
            refine St.gOn (dj := 67) rfl rfl ?_
            refine St.p rfl rfl ?_
            refine St.gOn (dj := 67) rfl rfl ?_
            obtain ⟨x1, hx1, hj2⟩ := bnd_e hj2
            refine St.ixP (sz := 6) hx1 rfl rfl rfl rfl rfl rfl rfl rfl ?_
            refine St.gOn (dj := 67) rfl rfl ?_
            refine St.p rfl rfl ?_
            refine St.gOn (dj := 67) rfl rfl ?_
            refine St.ldP (ls := l_T_Slot) 0 [.string r5.1.Name] [.int .i64 r5.1.Active, .int .i64 r5.1.Running, .bool r5.1.Trial] [(r5.1.Slots.e0, ((A8, c8), ())), (r5.1.Slots.e1, ((A9, c9), ()))] (fun ex => .agg (bx_T_Image x1.Image ex.1.1 ex.1.2).toArray) hx1 rfl rfl (.head _) rfl rfl rfl ⟨(.tail _ (.head _)), (.tail _ (.tail _ (.head _))), trivial⟩ rfl (fun _ => rfl) fun ex1 => ?_
            obtain ⟨⟨A12, c12⟩, _⟩ := ex1
            refine St.asrt (F' := .ro (SlL eu8 A12 c12 x1.Image.Data) :: .res (Box g6 35 (bx_T_Device r5.1 A8 c8 A9 c9)) :: .ro (SlL eu8 A8 c8 r5.1.Slots.e0.Image.Data) :: .ro (SlL eu8 A9 c9 r5.1.Slots.e1.Image.Data) :: .ro (SlL eu8 A7 c7 l1) :: .res (Box g5 30 [.string (⟨#[109, 101]⟩), .int .i64 2, .int .i64 0, .int .i64 0, .slice A7 l1.length c7]) :: R) (fun _ w => w) ?_
            refine St.gOn (dj := 67) rfl rfl ?_
            obtain ⟨r7, hr7, hj2⟩ := bnd_e hj2
            refine St.callV (c_bundle_Sum hr7) ent15 rfl rfl rfl rfl ⟨(.head _), trivial⟩ ?_
            refine St.gOn (dj := 67) rfl rfl ?_
            refine St.p rfl rfl ?_
            refine St.p rfl rfl ?_
            refine St.done ?_
            injection hj2 with hj2
            subst hj2
            refine St.thenN ?_
            exact St.hereE () ⟨rfl, rfl, rfl, rfl, rfl, trivial⟩ (fun _ w => ((.d (.k (.k (.k (.k (.k .z)))))) : Keep _ _).sat w)
          · replace hj2 := bif_f hb4 hj2
            refine St.gOff (dj := 67) rfl rfl rfl rfl ?_
            refine St.gOff (dj := 67) rfl rfl rfl rfl ?_
            refine St.gOff (dj := 67) rfl rfl rfl rfl ?_
            refine St.gOff (dj := 67) rfl rfl rfl rfl ?_
            refine St.gOff (dj := 67) rfl rfl rfl rfl ?_
            refine St.gOff (dj := 67) rfl rfl rfl rfl ?_
            refine St.gOff (dj := 67) rfl rfl rfl rfl ?_
            refine St.gOff (dj := 67) rfl rfl rfl rfl ?_
            refine St.gOff (dj := 67) rfl rfl rfl rfl ?_
            refine St.p rfl rfl ?_
            refine St.done ?_
            injection hj2 with hj2
            subst hj2
            refine St.thenN ?_
            exact St.hereE () ⟨rfl, rfl, rfl, rfl, rfl, trivial⟩ (fun _ w => ((.k (.k (.k (.k (.k .z))))) : Keep _ _).sat w)
        · rintro e2
          refine St.cond _ rfl (fun hb5 => ?_) (fun hb5 => ?_)
          · replace h := bif_t hb5 h
            refine St.seq ?_
            refine St.region ?_
            refine St.p rfl rfl ?_
            refine St.done ?_
            refine St.thenN ?_
            refine St.prune (Γ' := [(6, _)]) ⟨rfl, trivial⟩ (.d (.d (.d (.d (.d .z))))) ?_
            refine St.ret ?_
            repeat (first | refine St.thenR ?_ | refine St.blkR ?_)
            injection h with h
            subst h
            exact St.finR Try.results3 (.tmp rfl .nil) rfl [] ⟨rfl, rfl⟩ (fun _ w => (.z : Keep _ _).sat w)
          · replace h := bif_f hb5 h
            refine St.skip ?_
            refine St.thenN ?_
            refine St.prune (Γ' := [(2, _), (10, _), (11, _), (12, _)]) ⟨rfl, rfl, rfl, rfl, trivial⟩ (.k (.k (.k (.k (.k .z))))) ?_
            refine St.seq ?_
            refine St.seq ?_
            obtain ⟨r8, hr8, h⟩ := bnd_e h
            obtain ⟨r9, hr9, h⟩ := bnd_e h
            refine St.regionX (iL [(.fl, 0), (.fl, 1), (.qc, 2), (.fl, 3), (.fl, 4)] (.alt (iL [(.ef, 5), (.fl, 6), (.fl, 7), (.fl, 8)] (iL [(.ef, 9)] (iL [(.ef, 10), (.fl, 11)] .nil))) (iL [(.ef, 9)] (iL [(.ef, 5), (.fl, 6), (.fl, 7), (.fl, 8)] (iL [(.ef, 10), (.fl, 11)] .nil))))) (.res (Box g6 35 (bx_T_Device r5.1 A8 c8 A9 c9)) :: .ro (SlL eu8 A8 c8 r5.1.Slots.e0.Image.Data) :: .ro (SlL eu8 A9 c9 r5.1.Slots.e1.Image.Data) :: .ro (SlL eu8 A7 c7 l1) :: .res (Box g5 30 [.string (⟨#[109, 101]⟩), .int .i64 2, .int .i64 0, .int .i64 0, .slice A7 l1.length c7]) :: R) mixed (by kernel_rfl) (fun _ w => ((.k (.k (.k (.k (.k .z))))) : Keep _ _).sat w) ?_
            refine St.share (Y := ?Ynd1_0) (fun (e : Option Addr × Nat × Option Addr × Nat × Nat) => [(2, .int .u32 by_p2), (10, .pointer (some ⟨g5, 0, none⟩)), (11, .int .i64 q1), (12, .pointer (some ⟨g6, 0, none⟩)), (16, .pointer (some ⟨e.2.2.2.2, 0, none⟩)), (78, .tuple #[.agg (bx_T_Device r9.1 e.1 e.2.1 e.2.2.1 e.2.2.2.1).toArray, .int .i64 r9.2]), (79, .agg (bx_T_Device r5.1 A8 c8 A9 c9).toArray), (80, .agg #[.string (⟨#[109, 101]⟩), .int .i64 2, .int .i64 0, .int .i64 0, .slice A7 l1.length c7]), (81, .int .u32 r8), (82, .int .u32 by_p2), (83, .int .u32 (IntKind.wrap .u32 (r8 + by_p2))), (84, .tuple #[.agg (bx_T_Device r9.1 e.1 e.2.1 e.2.2.1 e.2.2.2.1).toArray, .int .i64 r9.2]), (85, .agg (bx_T_Device r9.1 e.1 e.2.1 e.2.2.1 e.2.2.2.1).toArray), (86, .int .i64 r9.2)]) (fun e => .res (Box e.2.2.2.2 35 [.string (⟨#[]⟩), .string (⟨#[]⟩), .int .i64 0, .int .i64 0, .int .i64 0, .slice none 0 0, .int .u32 0, .string (⟨#[]⟩), .int .i64 0, .int .i64 0, .int .i64 0, .slice none 0 0, .int .u32 0, .int .i64 0, .int .i64 0, .bool false]) :: .ro (SlL eu8 e.1 e.2.1 r9.1.Slots.e0.Image.Data) :: .ro (SlL eu8 e.2.2.1 e.2.2.2.1 r9.1.Slots.e1.Image.Data) :: .res (Box g6 35 (bx_T_Device r5.1 A8 c8 A9 c9)) :: .ro (SlL eu8 A8 c8 r5.1.Slots.e0.Image.Data) :: .ro (SlL eu8 A9 c9 r5.1.Slots.e1.Image.Data) :: .ro (SlL eu8 A7 c7 l1) :: .res (Box g5 30 [.string (⟨#[109, 101]⟩), .int .i64 2, .int .i64 0, .int .i64 0, .slice A7 l1.length c7]) :: R) (fun hnd1_0 => ?mnd1_0) ?tnd1_0
            case mnd1_0 =>
              refine St.xfl (fun _ h => h) (Rd.loadB 0 rfl (.head _) rfl rfl) rfl ?_
              refine St.xfl (fun _ h => h) (Rd.loadB 0 rfl (.tail _ (.tail _ (.tail _ (.tail _ (.head _))))) rfl rfl) rfl ?_
              refine St.xqc (fun _ h => h) (c_bundle_Sum hr8) ent15 rfl rfl rfl rfl ⟨(.tail _ (.tail _ (.tail _ (.head _)))), trivial⟩ ?_
              refine St.xfl (fun _ h => h) (Rd.p rfl) rfl ?_
              refine St.xfl (fun _ h => h) (Rd.p rfl) rfl ?_
              refine St.xalt ?_ ?_
              · refine St.xef ?_
                refine St.call (c_bank_Finish hr9) ent16 rfl rfl rfl (fun _ w => Sat.dup (G := [.ro (SlL eu8 A8 c8 r5.1.Slots.e0.Image.Data), .ro (SlL eu8 A9 c9 r5.1.Slots.e1.Image.Data)]) rfl ⟨(.tail _ (.head _)), (.tail _ (.tail _ (.head _))), trivial⟩ w) ?_
                rintro _ _ ⟨A13, c13, A14, c14, rfl, rfl⟩
                refine St.asrt (F' := .ro (SlL eu8 A13 c13 r9.1.Slots.e0.Image.Data) :: .ro (SlL eu8 A14 c14 r9.1.Slots.e1.Image.Data) :: .res (Box g6 35 (bx_T_Device r5.1 A8 c8 A9 c9)) :: .ro (SlL eu8 A8 c8 r5.1.Slots.e0.Image.Data) :: .ro (SlL eu8 A9 c9 r5.1.Slots.e1.Image.Data) :: .ro (SlL eu8 A7 c7 l1) :: .res (Box g5 30 [.string (⟨#[109, 101]⟩), .int .i64 2, .int .i64 0, .int .i64 0, .slice A7 l1.length c7]) :: R) (fun _ w => w) ?_
                refine St.xk (fun _ w => ((.d (.d (.k (.k (.k (.k (.k .z))))))) : Keep _ _).sat w) ?_
                refine St.xfl (fun _ h => h) (Rd.p rfl) rfl ?_
                refine St.xfl (fun _ h => h) (Rd.p rfl) rfl ?_
                refine St.xfl (fun _ h => h) (Rd.p rfl) rfl ?_
                refine St.xef ?_
                refine St.alloc rfl rfl fun g8 => ?_
                refine St.xk (fun _ w => ((.d (.d (.d (.k (.k (.k (.k (.k .z)))))))) : Keep _ _).sat w) ?_
                refine hnd1_0 _ _ (A13, c13, A14, c14, g8) ?_ ?_
                · exact ⟨rfl, rfl, rfl, rfl, rfl, rfl, rfl, rfl, rfl, rfl, rfl, rfl, rfl, rfl, trivial⟩
                · exact fun _ w => ((.k (.k (.k (.k (.k (.k (.k (.k .z)))))))) : Keep _ _).sat w
              · refine St.xef ?_
                refine St.alloc rfl rfl fun g8 => ?_
                refine St.xk (fun _ w => ((.d (.k (.k (.k (.k (.k .z)))))) : Keep _ _).sat w) ?_
                refine St.xef ?_
                refine St.call (c_bank_Finish hr9) ent16 rfl rfl rfl (fun _ w => Sat.dup (G := [.ro (SlL eu8 A8 c8 r5.1.Slots.e0.Image.Data), .ro (SlL eu8 A9 c9 r5.1.Slots.e1.Image.Data)]) rfl ⟨(.tail _ (.tail _ (.head _))), (.tail _ (.tail _ (.tail _ (.head _)))), trivial⟩ w) ?_
                rintro _ _ ⟨A13, c13, A14, c14, rfl, rfl⟩
                refine St.asrt (F' := .ro (SlL eu8 A13 c13 r9.1.Slots.e0.Image.Data) :: .ro (SlL eu8 A14 c14 r9.1.Slots.e1.Image.Data) :: .res (Box g8 35 [.string (⟨#[]⟩), .string (⟨#[]⟩), .int .i64 0, .int .i64 0, .int .i64 0, .slice none 0 0, .int .u32 0, .string (⟨#[]⟩), .int .i64 0, .int .i64 0, .int .i64 0, .slice none 0 0, .int .u32 0, .int .i64 0, .int .i64 0, .bool false]) :: .res (Box g6 35 (bx_T_Device r5.1 A8 c8 A9 c9)) :: .ro (SlL eu8 A8 c8 r5.1.Slots.e0.Image.Data) :: .ro (SlL eu8 A9 c9 r5.1.Slots.e1.Image.Data) :: .ro (SlL eu8 A7 c7 l1) :: .res (Box g5 30 [.string (⟨#[109, 101]⟩), .int .i64 2, .int .i64 0, .int .i64 0, .slice A7 l1.length c7]) :: R) (fun _ w => w) ?_
                refine St.xk (fun _ w => ((.d (.d (.d (.k (.k (.k (.k (.k .z)))))))) : Keep _ _).sat w) ?_
                refine St.xfl (fun _ h => h) (Rd.p rfl) rfl ?_
                refine St.xfl (fun _ h => h) (Rd.p rfl) rfl ?_
                refine St.xfl (fun _ h => h) (Rd.p rfl) rfl ?_
                refine hnd1_0 _ _ (A13, c13, A14, c14, g8) ?_ ?_
                · exact ⟨rfl, rfl, rfl, rfl, rfl, rfl, rfl, rfl, rfl, rfl, rfl, rfl, rfl, rfl, trivial⟩
                · exact fun _ w => ((.k (.k (.k (.k (.k (.k (.k (.k .z)))))))) : Keep _ _).sat ((((((((w.front (.s (.s (.s (.s (.s (.s (.s .z)))))))).front (.s (.s (.s (.s (.s (.s (.s .z)))))))).front (.s (.s (.s (.s (.s (.s (.s .z)))))))).front (.s (.s (.s (.s (.s (.s (.s .z)))))))).front (.s (.s (.s (.s (.s (.s (.s .z)))))))).front (.s (.s (.s (.s (.s (.s .z))))))).front (.s (.s (.s (.s (.s (.s .z))))))).front (.s (.s (.s (.s (.s (.s (.s .z))))))))
            case tnd1_0 =>
              rintro ⟨A13, c13, A14, c14, g8⟩
              refine St.asrt (F' := .res (Box g8 35 [.string (⟨#[]⟩), .string (⟨#[]⟩), .int .i64 0, .int .i64 0, .int .i64 0, .slice none 0 0, .int .u32 0, .string (⟨#[]⟩), .int .i64 0, .int .i64 0, .int .i64 0, .slice none 0 0, .int .u32 0, .int .i64 0, .int .i64 0, .bool false]) :: .ro (SlL eu8 A13 c13 r9.1.Slots.e0.Image.Data) :: .ro (SlL eu8 A14 c14 r9.1.Slots.e1.Image.Data) :: .res (Box g6 35 (bx_T_Device r5.1 A8 c8 A9 c9)) :: .ro (SlL eu8 A8 c8 r5.1.Slots.e0.Image.Data) :: .ro (SlL eu8 A9 c9 r5.1.Slots.e1.Image.Data) :: .ro (SlL eu8 A7 c7 l1) :: .res (Box g5 30 [.string (⟨#[109, 101]⟩), .int .i64 2, .int .i64 0, .int .i64 0, .slice A7 l1.length c7]) :: R) (fun _ w => w) ?_
              refine St.xef ?_
              refine St.store 0 rfl rfl rfl rfl rfl rfl .z rfl ?_
              refine St.xk (fun _ w => ((.d (.d (.d (.k (.k (.k (.k (.k .z)))))))) : Keep _ _).sat w) ?_
              refine St.xfl (fun _ h => h) (Rd.p rfl) rfl ?_
              refine St.xdone ?_
              refine St.thenN ?_
              refine St.prune (Γ' := [(2, _), (10, _), (11, _), (12, _), (17, _)]) ⟨rfl, rfl, rfl, rfl, rfl, trivial⟩ (.d (.d (.d (.k (.k (.k (.k (.k .z)))))))) ?_
              refine St.seq ?_
              obtain ⟨o3, hj3, h⟩ := bnd_e h
              refine St.cutE (fun (e3 : Unit) => [(10, .pointer (some ⟨g5, 0, none⟩)), (11, .int .i64 q1), (12, .pointer (some ⟨g6, 0, none⟩)), (99, .bool o3)]) (fun e3 => .res (Box g6 35 (bx_T_Device r5.1 A8 c8 A9 c9)) :: .ro (SlL eu8 A8 c8 r5.1.Slots.e0.Image.Data) :: .ro (SlL eu8 A9 c9 r5.1.Slots.e1.Image.Data) :: .ro (SlL eu8 A7 c7 l1) :: .res (Box g5 30 [.string (⟨#[109, 101]⟩), .int .i64 2, .int .i64 0, .int .i64 0, .slice A7 l1.length c7]) :: R) ?_ ?_
              · refine St.region ?_
                iterate 3 refine St.p rfl rfl ?_
                refine St.gSplit (dj := 89) _ rfl (fun hb6 => ?_) (fun hb6 => ?_)
                · replace hj3 := bif_t hb6 hj3
                  refine St.gOn (dj := 89) rfl rfl ?_
                  refine St.p rfl rfl ?_
                  refine St.gOn (dj := 89) rfl rfl ?_
                  iterate 3 refine St.p rfl rfl ?_
                  refine St.gSplit (dj := 93) _ rfl (fun hb7 => ?_) (fun hb7 => ?_)
                  · replace hj3 := bif_t hb7 hj3
                    refine St.gOn (dj := 93) rfl rfl ?_
                    refine St.p rfl rfl ?_
                    refine St.gOn (dj := 93) rfl rfl ?_
                    refine St.p rfl rfl ?_
                    refine St.gOn (dj := 93) rfl rfl ?_
                    refine St.loadB 4 rfl rfl (.tail _ (.tail _ (.tail _ (.tail _ (.head _))))) rfl rfl ?_
                    refine St.gOn (dj := 93) rfl rfl ?_
                    refine St.p rfl rfl ?_
                    refine St.gOn (dj := 93) rfl rfl ?_
                    refine St.p rfl rfl ?_
                    refine St.p rfl rfl ?_
                    refine St.done ?_
                    injection hj3 with hj3
                    subst hj3
                    refine St.thenN ?_
                    exact St.hereE () ⟨rfl, rfl, rfl, rfl, trivial⟩ (fun _ w => ((.k (.k (.k (.k (.k .z))))) : Keep _ _).sat w)
                  · replace hj3 := bif_f hb7 hj3
                    refine St.gOff (dj := 93) rfl rfl rfl rfl ?_
                    refine St.gOff (dj := 93) rfl rfl rfl rfl ?_
                    refine St.gOff (dj := 93) rfl rfl rfl rfl ?_
                    refine St.gOff (dj := 93) rfl rfl rfl rfl ?_
                    refine St.gOff (dj := 93) rfl rfl rfl rfl ?_
                    refine St.p rfl rfl ?_
                    refine St.done ?_
                    injection hj3 with hj3
                    subst hj3
                    refine St.thenN ?_
                    exact St.hereE () ⟨rfl, rfl, rfl, rfl, trivial⟩ (fun _ w => ((.k (.k (.k (.k (.k .z))))) : Keep _ _).sat w)
                · replace hj3 := bif_f hb6 hj3
                  refine St.gOff (dj := 89) rfl rfl rfl rfl ?_
                  refine St.gOff (dj := 89) rfl rfl rfl rfl ?_
                  refine St.p rfl rfl ?_
                  refine St.p rfl rfl ?_
                  refine St.gOff (dj := 93) rfl rfl rfl rfl ?_
                  refine St.gOff (dj := 93) rfl rfl rfl rfl ?_
                  refine St.gOff (dj := 93) rfl rfl rfl rfl ?_
                  refine St.gOff (dj := 93) rfl rfl rfl rfl ?_
                  refine St.gOff (dj := 93) rfl rfl rfl rfl ?_
                  refine St.p rfl rfl ?_
                  refine St.done ?_
                  injection hj3 with hj3
                  subst hj3
                  refine St.thenN ?_
                  exact St.hereE () ⟨rfl, rfl, rfl, rfl, trivial⟩ (fun _ w => ((.k (.k (.k (.k (.k .z))))) : Keep _ _).sat w)
              · rintro e3
                refine St.cond _ rfl (fun hb8 => ?_) (fun hb8 => ?_)
                · replace h := bif_t hb8 h
                  refine St.seq ?_
                  refine St.region ?_
                  refine St.p rfl rfl ?_
                  refine St.done ?_
                  refine St.thenN ?_
                  refine St.prune (Γ' := [(6, _)]) ⟨rfl, trivial⟩ (.d (.d (.d (.d (.d .z))))) ?_
                  refine St.ret ?_
                  repeat (first | refine St.thenR ?_ | refine St.blkR ?_)
                  injection h with h
                  subst h
                  exact St.finR Try.results3 (.tmp rfl .nil) rfl [] ⟨rfl, rfl⟩ (fun _ w => (.z : Keep _ _).sat w)
                · replace h := bif_f hb8 h
                  refine St.skip ?_
                  refine St.thenN ?_
                  refine St.prune (Γ' := [(10, _), (11, _), (12, _)]) ⟨rfl, rfl, rfl, trivial⟩ (.k (.k (.k (.k (.k .z))))) ?_
                  refine St.seq ?_
                  obtain ⟨r10, hr10, h⟩ := bnd_e h
                  obtain ⟨r11, hr11, h⟩ := bnd_e h
                  refine St.regionX (iL [(.fl, 0), (.fl, 1), (.qc, 2)] (.alt (iL [(.ef, 3), (.fl, 4), (.fl, 5), (.fl, 6)] (iL [(.ef, 7)] (iL [(.ef, 8), (.fl, 9)] .nil))) (iL [(.ef, 7)] (iL [(.ef, 3), (.fl, 4), (.fl, 5), (.fl, 6)] (iL [(.ef, 8), (.fl, 9)] .nil))))) (.res (Box g6 35 (bx_T_Device r5.1 A8 c8 A9 c9)) :: .ro (SlL eu8 A8 c8 r5.1.Slots.e0.Image.Data) :: .ro (SlL eu8 A9 c9 r5.1.Slots.e1.Image.Data) :: .ro (SlL eu8 A7 c7 l1) :: .res (Box g5 30 [.string (⟨#[109, 101]⟩), .int .i64 2, .int .i64 0, .int .i64 0, .slice A7 l1.length c7]) :: R) mixed (by kernel_rfl) (fun _ w => ((.k (.k (.k (.k (.k .z))))) : Keep _ _).sat w) ?_
                  refine St.share (Y := ?Ynd2_0) (fun (e : Option Addr × Nat × Option Addr × Nat × Nat) => [(10, .pointer (some ⟨g5, 0, none⟩)), (11, .int .i64 q1), (12, .pointer (some ⟨g6, 0, none⟩)), (18, .pointer (some ⟨e.2.2.2.2, 0, none⟩)), (100, .tuple #[.agg (bx_T_Device r11.1 e.1 e.2.1 e.2.2.1 e.2.2.2.1).toArray, .int .i64 r11.2]), (101, .agg (bx_T_Device r5.1 A8 c8 A9 c9).toArray), (102, .agg #[.string (⟨#[109, 101]⟩), .int .i64 2, .int .i64 0, .int .i64 0, .slice A7 l1.length c7]), (103, .int .u32 r10), (104, .tuple #[.agg (bx_T_Device r11.1 e.1 e.2.1 e.2.2.1 e.2.2.2.1).toArray, .int .i64 r11.2]), (105, .agg (bx_T_Device r11.1 e.1 e.2.1 e.2.2.1 e.2.2.2.1).toArray), (106, .int .i64 r11.2)]) (fun e => .res (Box e.2.2.2.2 35 [.string (⟨#[]⟩), .string (⟨#[]⟩), .int .i64 0, .int .i64 0, .int .i64 0, .slice none 0 0, .int .u32 0, .string (⟨#[]⟩), .int .i64 0, .int .i64 0, .int .i64 0, .slice none 0 0, .int .u32 0, .int .i64 0, .int .i64 0, .bool false]) :: .ro (SlL eu8 e.1 e.2.1 r11.1.Slots.e0.Image.Data) :: .ro (SlL eu8 e.2.2.1 e.2.2.2.1 r11.1.Slots.e1.Image.Data) :: .res (Box g6 35 (bx_T_Device r5.1 A8 c8 A9 c9)) :: .ro (SlL eu8 A8 c8 r5.1.Slots.e0.Image.Data) :: .ro (SlL eu8 A9 c9 r5.1.Slots.e1.Image.Data) :: .ro (SlL eu8 A7 c7 l1) :: .res (Box g5 30 [.string (⟨#[109, 101]⟩), .int .i64 2, .int .i64 0, .int .i64 0, .slice A7 l1.length c7]) :: R) (fun hnd2_0 => ?mnd2_0) ?tnd2_0
                  case mnd2_0 =>
                    refine St.xfl (fun _ h => h) (Rd.loadB 0 rfl (.head _) rfl rfl) rfl ?_
                    refine St.xfl (fun _ h => h) (Rd.loadB 0 rfl (.tail _ (.tail _ (.tail _ (.tail _ (.head _))))) rfl rfl) rfl ?_
                    refine St.xqc (fun _ h => h) (c_bundle_Sum hr10) ent15 rfl rfl rfl rfl ⟨(.tail _ (.tail _ (.tail _ (.head _)))), trivial⟩ ?_
                    refine St.xalt ?_ ?_
                    · refine St.xef ?_
                      refine St.call (c_bank_Finish hr11) ent16 rfl rfl rfl (fun _ w => Sat.dup (G := [.ro (SlL eu8 A8 c8 r5.1.Slots.e0.Image.Data), .ro (SlL eu8 A9 c9 r5.1.Slots.e1.Image.Data)]) rfl ⟨(.tail _ (.head _)), (.tail _ (.tail _ (.head _))), trivial⟩ w) ?_
                      rintro _ _ ⟨A15, c15, A16, c16, rfl, rfl⟩
                      refine St.asrt (F' := .ro (SlL eu8 A15 c15 r11.1.Slots.e0.Image.Data) :: .ro (SlL eu8 A16 c16 r11.1.Slots.e1.Image.Data) :: .res (Box g6 35 (bx_T_Device r5.1 A8 c8 A9 c9)) :: .ro (SlL eu8 A8 c8 r5.1.Slots.e0.Image.Data) :: .ro (SlL eu8 A9 c9 r5.1.Slots.e1.Image.Data) :: .ro (SlL eu8 A7 c7 l1) :: .res (Box g5 30 [.string (⟨#[109, 101]⟩), .int .i64 2, .int .i64 0, .int .i64 0, .slice A7 l1.length c7]) :: R) (fun _ w => w) ?_
                      refine St.xk (fun _ w => ((.d (.d (.k (.k (.k (.k (.k .z))))))) : Keep _ _).sat w) ?_
                      refine St.xfl (fun _ h => h) (Rd.p rfl) rfl ?_
                      refine St.xfl (fun _ h => h) (Rd.p rfl) rfl ?_
                      refine St.xfl (fun _ h => h) (Rd.p rfl) rfl ?_
                      refine St.xef ?_
                      refine St.alloc rfl rfl fun g9 => ?_
                      refine St.xk (fun _ w => ((.d (.d (.d (.k (.k (.k (.k (.k .z)))))))) : Keep _ _).sat w) ?_
                      refine hnd2_0 _ _ (A15, c15, A16, c16, g9) ?_ ?_
                      · exact ⟨rfl, rfl, rfl, rfl, rfl, rfl, rfl, rfl, rfl, rfl, rfl, trivial⟩
                      · exact fun _ w => ((.k (.k (.k (.k (.k (.k (.k (.k .z)))))))) : Keep _ _).sat w
                    · refine St.xef ?_
                      refine St.alloc rfl rfl fun g9 => ?_
                      refine St.xk (fun _ w => ((.d (.k (.k (.k (.k (.k .z)))))) : Keep _ _).sat w) ?_
                      refine St.xef ?_
                      refine St.call (c_bank_Finish hr11) ent16 rfl rfl rfl (fun _ w => Sat.dup (G := [.ro (SlL eu8 A8 c8 r5.1.Slots.e0.Image.Data), .ro (SlL eu8 A9 c9 r5.1.Slots.e1.Image.Data)]) rfl ⟨(.tail _ (.tail _ (.head _))), (.tail _ (.tail _ (.tail _ (.head _)))), trivial⟩ w) ?_
                      rintro _ _ ⟨A15, c15, A16, c16, rfl, rfl⟩
                      refine St.asrt (F' := .ro (SlL eu8 A15 c15 r11.1.Slots.e0.Image.Data) :: .ro (SlL eu8 A16 c16 r11.1.Slots.e1.Image.Data) :: .res (Box g9 35 [.string (⟨#[]⟩), .string (⟨#[]⟩), .int .i64 0, .int .i64 0, .int .i64 0, .slice none 0 0, .int .u32 0, .string (⟨#[]⟩), .int .i64 0, .int .i64 0, .int .i64 0, .slice none 0 0, .int .u32 0, .int .i64 0, .int .i64 0, .bool false]) :: .res (Box g6 35 (bx_T_Device r5.1 A8 c8 A9 c9)) :: .ro (SlL eu8 A8 c8 r5.1.Slots.e0.Image.Data) :: .ro (SlL eu8 A9 c9 r5.1.Slots.e1.Image.Data) :: .ro (SlL eu8 A7 c7 l1) :: .res (Box g5 30 [.string (⟨#[109, 101]⟩), .int .i64 2, .int .i64 0, .int .i64 0, .slice A7 l1.length c7]) :: R) (fun _ w => w) ?_
                      refine St.xk (fun _ w => ((.d (.d (.d (.k (.k (.k (.k (.k .z)))))))) : Keep _ _).sat w) ?_
                      refine St.xfl (fun _ h => h) (Rd.p rfl) rfl ?_
                      refine St.xfl (fun _ h => h) (Rd.p rfl) rfl ?_
                      refine St.xfl (fun _ h => h) (Rd.p rfl) rfl ?_
                      refine hnd2_0 _ _ (A15, c15, A16, c16, g9) ?_ ?_
                      · exact ⟨rfl, rfl, rfl, rfl, rfl, rfl, rfl, rfl, rfl, rfl, rfl, trivial⟩
                      · exact fun _ w => ((.k (.k (.k (.k (.k (.k (.k (.k .z)))))))) : Keep _ _).sat ((((((((w.front (.s (.s (.s (.s (.s (.s (.s .z)))))))).front (.s (.s (.s (.s (.s (.s (.s .z)))))))).front (.s (.s (.s (.s (.s (.s (.s .z)))))))).front (.s (.s (.s (.s (.s (.s (.s .z)))))))).front (.s (.s (.s (.s (.s (.s (.s .z)))))))).front (.s (.s (.s (.s (.s (.s .z))))))).front (.s (.s (.s (.s (.s (.s .z))))))).front (.s (.s (.s (.s (.s (.s (.s .z))))))))
                  case tnd2_0 =>
                    rintro ⟨A15, c15, A16, c16, g9⟩
                    refine St.asrt (F' := .res (Box g9 35 [.string (⟨#[]⟩), .string (⟨#[]⟩), .int .i64 0, .int .i64 0, .int .i64 0, .slice none 0 0, .int .u32 0, .string (⟨#[]⟩), .int .i64 0, .int .i64 0, .int .i64 0, .slice none 0 0, .int .u32 0, .int .i64 0, .int .i64 0, .bool false]) :: .ro (SlL eu8 A15 c15 r11.1.Slots.e0.Image.Data) :: .ro (SlL eu8 A16 c16 r11.1.Slots.e1.Image.Data) :: .res (Box g6 35 (bx_T_Device r5.1 A8 c8 A9 c9)) :: .ro (SlL eu8 A8 c8 r5.1.Slots.e0.Image.Data) :: .ro (SlL eu8 A9 c9 r5.1.Slots.e1.Image.Data) :: .ro (SlL eu8 A7 c7 l1) :: .res (Box g5 30 [.string (⟨#[109, 101]⟩), .int .i64 2, .int .i64 0, .int .i64 0, .slice A7 l1.length c7]) :: R) (fun _ w => w) ?_
                    refine St.xef ?_
                    refine St.store 0 rfl rfl rfl rfl rfl rfl .z rfl ?_
                    refine St.xk (fun _ w => ((.d (.d (.d (.k (.k (.k (.k (.k .z)))))))) : Keep _ _).sat w) ?_
                    refine St.xfl (fun _ h => h) (Rd.p rfl) rfl ?_
                    refine St.xdone ?_
                    refine St.thenN ?_
                    refine St.prune (Γ' := [(10, _), (11, _), (18, _), (19, _)]) ⟨rfl, rfl, rfl, rfl, trivial⟩ (.k (.k (.k (.d (.d (.d (.k (.k .z)))))))) ?_
                    refine St.seq ?_
                    refine St.seq ?_
                    refine St.region ?_
                    refine St.p rfl rfl ?_
                    refine St.p rfl rfl ?_
                    refine St.loadB 4 rfl rfl (.tail _ (.tail _ (.tail _ (.tail _ (.head _))))) rfl rfl ?_
                    refine St.p rfl rfl ?_
                    refine St.p rfl rfl ?_
                    refine St.done ?_
                    refine St.thenN ?_
                    refine St.prune (Γ' := [(10, _), (11, _), (18, _), (19, _), (111, _)]) ⟨rfl, rfl, rfl, rfl, rfl, trivial⟩ (.k (.k (.k (.k (.k .z))))) ?_
                    refine St.cond _ rfl (fun hb9 => ?_) (fun hb9 => ?_)
                    · replace h := bif_t hb9 h
                      refine St.seq ?_
                      refine St.region ?_
                      refine St.loadB 0 rfl rfl (.tail _ (.tail _ (.tail _ (.tail _ (.head _))))) rfl rfl ?_
                      refine St.alloc rfl rfl fun g10 => ?_
                      refine St.store 0 rfl rfl rfl rfl rfl rfl .z rfl ?_
                      refine St.done ?_
                      refine St.thenN ?_
                      refine St.prune (Γ' := [(10, _), (11, _), (19, _), (20, _)]) ⟨rfl, rfl, rfl, rfl, trivial⟩ (.k (.d (.d (.d (.k (.k .z)))))) ?_
                      refine St.seq ?_
                      refine St.region ?_
                      refine St.p rfl rfl ?_
                      refine St.loadB 4 rfl rfl (.tail _ (.tail _ (.head _))) rfl rfl ?_
                      refine St.p rfl rfl ?_
                      obtain ⟨l2, hl2, h⟩ := bnd_e h
                      refine St.sub (E := (cod eu8)) rfl rfl (.tail _ (.head _)) rfl rfl rfl rfl rfl rfl rfl hl2 fun A17 c17 => ?_
                      refine St.p rfl rfl ?_
                      refine St.store 4 rfl rfl rfl rfl rfl rfl (.s .z) rfl ?_
                      refine St.done ?_
                      refine St.thenN ?_
                      refine St.prune (Γ' := [(10, _), (11, _), (19, _), (20, _)]) ⟨rfl, rfl, rfl, rfl, trivial⟩ (.k (.k (.k (.k .z)))) ?_
                      refine St.seq ?_
                      obtain ⟨o4, hj4, h⟩ := bnd_e h
                      refine St.cutE (fun (e4 : Unit) => [(6, .bool o4)]) (fun e4 => R) ?_ ?_
                      · refine St.regionF mixed (by kernel_rfl) ?_
                        iterate 3 refine St.p rfl rfl ?_
                        refine St.gSplit (dj := 120) _ rfl (fun hb10 => ?_) (fun hb10 => ?_)
                        · replace hj4 := bif_t hb10 hj4
                          refine St.gOff (dj := 120) rfl rfl rfl rfl ?_
                          refine St.gOff (dj := 120) rfl rfl rfl rfl ?_
                          refine St.gOff (dj := 120) rfl rfl rfl rfl ?_
                          refine St.gOff (dj := 123) rfl rfl rfl rfl ?_
                          refine St.gOff (dj := 123) rfl rfl rfl rfl ?_
                          refine St.gOff (dj := 123) rfl rfl rfl rfl ?_
                          refine St.gOff (dj := 123) rfl rfl rfl rfl ?_
                          refine St.gOff (dj := 123) rfl rfl rfl rfl ?_
                          refine St.gOff (dj := 120) rfl rfl rfl rfl ?_
                          refine St.p rfl rfl ?_
                          refine St.p rfl rfl ?_
                          refine St.doneQ ?_
                          injection hj4 with hj4
                          subst hj4
                          refine St.thenN ?_
                          exact St.hereE () ⟨rfl, trivial⟩ (fun _ w => ((.d (.d (.d (.d .z)))) : Keep _ _).sat w)
                        · replace hj4 := bif_f hb10 hj4
                          refine St.gOn (dj := 120) rfl rfl ?_
                          refine St.p rfl rfl ?_
                          refine St.gOn (dj := 120) rfl rfl ?_
                          refine St.p rfl rfl ?_
                          refine St.gOn (dj := 120) rfl rfl ?_
                          refine St.p rfl rfl ?_
                          refine St.gSplit (dj := 123) _ rfl (fun hb11 => ?_) (fun hb11 => ?_)
                          · replace hj4 := bif_t hb11 hj4
                            refine St.gOn (dj := 123) rfl rfl ?_
                            refine St.loadB 0 rfl rfl (.head _) rfl rfl ?_
                            refine St.gOn (dj := 123) rfl rfl ?_
                            obtain ⟨r12, hr12, hj4⟩ := bnd_e hj4
                            refine St.callV (c_bundle_Sum hr12) ent15 rfl rfl rfl rfl ⟨(.tail _ (.head _)), trivial⟩ ?_
                            refine St.gOn (dj := 123) rfl rfl ?_
                            refine St.loadB 0 rfl rfl (.tail _ (.tail _ (.tail _ (.head _)))) rfl rfl ?_
                            refine St.gOn (dj := 123) rfl rfl ?_
                            obtain ⟨r13, hr13, hj4⟩ := bnd_e hj4
                            refine St.callV (c_bundle_Sum hr13) ent15 rfl rfl rfl rfl ⟨(.tail _ (.tail _ (.head _))), trivial⟩ ?_
                            refine St.gOn (dj := 123) rfl rfl ?_
                            refine St.p rfl rfl ?_
                            refine St.gOn (dj := 120) rfl rfl ?_
                            iterate 3 refine St.p rfl rfl ?_
                            refine St.doneQ ?_
                            injection hj4 with hj4
                            subst hj4
                            refine St.thenN ?_
                            exact St.hereE () ⟨rfl, trivial⟩ (fun _ w => ((.d (.d (.d (.d .z)))) : Keep _ _).sat w)
                          · replace hj4 := bif_f hb11 hj4
                            refine St.gOff (dj := 123) rfl rfl rfl rfl ?_
                            refine St.gOff (dj := 123) rfl rfl rfl rfl ?_
                            refine St.gOff (dj := 123) rfl rfl rfl rfl ?_
                            refine St.gOff (dj := 123) rfl rfl rfl rfl ?_
                            refine St.gOff (dj := 123) rfl rfl rfl rfl ?_
                            refine St.gOn (dj := 120) rfl rfl ?_
                            iterate 3 refine St.p rfl rfl ?_
                            refine St.doneQ ?_
                            injection hj4 with hj4
                            subst hj4
                            refine St.thenN ?_
                            exact St.hereE () ⟨rfl, trivial⟩ (fun _ w => ((.d (.d (.d (.d .z)))) : Keep _ _).sat w)
                      · rintro e4
                        refine St.ret ?_
                        repeat (first | refine St.thenR ?_ | refine St.blkR ?_)
                        injection h with h
                        subst h
                        exact St.finR Try.results3 (.tmp rfl .nil) rfl [] ⟨rfl, rfl⟩ (fun _ w => (.z : Keep _ _).sat w)
                    · replace h := bif_f hb9 h
                      refine St.skip ?_
                      refine St.thenN ?_
                      refine St.prune (Γ' := [(10, _), (18, _), (19, _)]) ⟨rfl, rfl, rfl, trivial⟩ (.k (.k (.k (.k (.k .z))))) ?_
                      refine St.seq ?_
                      refine St.region ?_
                      refine St.loadB 0 rfl rfl (.head _) rfl rfl ?_
                      obtain ⟨r14, hr14, h⟩ := bnd_e h
                      refine St.call (c_bank_Switch hr14) ent14 rfl rfl rfl (fun _ w => Sat.dup (G := [.ro (SlL eu8 A15 c15 r11.1.Slots.e0.Image.Data), .ro (SlL eu8 A16 c16 r11.1.Slots.e1.Image.Data)]) rfl ⟨(.tail _ (.head _)), (.tail _ (.tail _ (.head _))), trivial⟩ w) ?_
                      rintro _ _ ⟨A18, c18, A19, c19, rfl, rfl⟩
                      refine St.asrt (F' := .ro (SlL eu8 A18 c18 r14.1.Slots.e0.Image.Data) :: .ro (SlL eu8 A19 c19 r14.1.Slots.e1.Image.Data) :: .res (Box g9 35 (bx_T_Device r11.1 A15 c15 A16 c16)) :: .ro (SlL eu8 A15 c15 r11.1.Slots.e0.Image.Data) :: .ro (SlL eu8 A16 c16 r11.1.Slots.e1.Image.Data) :: .ro (SlL eu8 A7 c7 l1) :: .res (Box g5 30 [.string (⟨#[109, 101]⟩), .int .i64 2, .int .i64 0, .int .i64 0, .slice A7 l1.length c7]) :: R) (fun _ w => w) ?_
                      iterate 3 refine St.p rfl rfl ?_
                      refine St.alloc rfl rfl fun g11 => ?_
                      refine St.store 0 rfl rfl rfl rfl rfl rfl .z rfl ?_
                      refine St.p rfl rfl ?_
                      refine St.done ?_
                      refine St.thenN ?_
                      refine St.prune (Γ' := [(10, _), (18, _), (19, _), (21, _), (22, _)]) ⟨rfl, rfl, rfl, rfl, rfl, trivial⟩ (.k (.k (.k (.k (.k (.k (.k (.k .z)))))))) ?_
                      refine St.seq ?_
                      obtain ⟨o5, hj5, h⟩ := bnd_e h
                      refine St.cutE (fun (e5 : Unit) => [(6, .bool o5)]) (fun e5 => R) ?_ ?_
                      · refine St.regionF mixed (by kernel_rfl) ?_
                        iterate 3 refine St.p rfl rfl ?_
                        refine St.gSplit (dj := 138) _ rfl (fun hb12 => ?_) (fun hb12 => ?_)
                        · replace hj5 := bif_t hb12 hj5
                          refine St.gOn (dj := 138) rfl rfl ?_
                          refine St.p rfl rfl ?_
                          refine St.gOn (dj := 138) rfl rfl ?_
                          iterate 3 refine St.p rfl rfl ?_
                          refine St.gSplit (dj := 142) _ rfl (fun hb13 => ?_) (fun hb13 => ?_)
                          · replace hj5 := bif_t hb13 hj5
                            refine St.gOn (dj := 142) rfl rfl ?_
                            refine St.p rfl rfl ?_
                            refine St.gOn (dj := 142) rfl rfl ?_
                            refine St.loadB 15 rfl rfl (.head _) rfl rfl ?_
                            refine St.p rfl rfl ?_
                            refine St.p rfl rfl ?_
                            refine St.gSplit (dj := 146) _ rfl (fun hb14 => ?_) (fun hb14 => ?_)
                            · replace hj5 := bif_t hb14 hj5
                              refine St.gOn (dj := 146) rfl rfl ?_
                              refine St.p rfl rfl ?_
                              refine St.gOn (dj := 146) rfl rfl ?_
                              refine St.loadB 14 rfl rfl (.tail _ (.tail _ (.tail _ (.head _)))) rfl rfl ?_
                              refine St.gOn (dj := 146) rfl rfl ?_
                              refine St.p rfl rfl ?_
                              refine St.gOn (dj := 146) rfl rfl ?_
                              refine St.p rfl rfl ?_
                              refine St.gOn (dj := 146) rfl rfl ?_
                              obtain ⟨x2, hx2, hj5⟩ := bnd_e hj5
                              refine St.ixP (sz := 6) hx2 rfl rfl rfl rfl rfl rfl rfl rfl ?_
                              refine St.gOn (dj := 146) rfl rfl ?_
                              refine St.p rfl rfl ?_
                              refine St.gOn (dj := 146) rfl rfl ?_
                              refine St.ldP (ls := l_T_Slot) 0 [.string r11.1.Name] [.int .i64 r11.1.Active, .int .i64 r11.1.Running, .bool r11.1.Trial] [(r11.1.Slots.e0, ((A15, c15), ())), (r11.1.Slots.e1, ((A16, c16), ()))] (fun ex => .agg (bx_T_Image x2.Image ex.1.1 ex.1.2).toArray) hx2 rfl rfl (.tail _ (.tail _ (.tail _ (.head _)))) rfl rfl rfl ⟨(.tail _ (.tail _ (.tail _ (.tail _ (.head _))))), (.tail _ (.tail _ (.tail _ (.tail _ (.tail _ (.head _)))))), trivial⟩ rfl (fun _ => rfl) fun ex2 => ?_
                              obtain ⟨⟨A20, c20⟩, _⟩ := ex2
                              refine St.asrt (F' := .ro (SlL eu8 A20 c20 x2.Image.Data) :: .res (Box g11 35 (bx_T_Device r14.1 A18 c18 A19 c19)) :: .ro (SlL eu8 A18 c18 r14.1.Slots.e0.Image.Data) :: .ro (SlL eu8 A19 c19 r14.1.Slots.e1.Image.Data) :: .res (Box g9 35 (bx_T_Device r11.1 A15 c15 A16 c16)) :: .ro (SlL eu8 A15 c15 r11.1.Slots.e0.Image.Data) :: .ro (SlL eu8 A16 c16 r11.1.Slots.e1.Image.Data) :: .ro (SlL eu8 A7 c7 l1) :: .res (Box g5 30 [.string (⟨#[109, 101]⟩), .int .i64 2, .int .i64 0, .int .i64 0, .slice A7 l1.length c7]) :: R) (fun _ w => w) ?_
                              refine St.gOn (dj := 146) rfl rfl ?_
                              refine St.loadB 0 rfl rfl (.tail _ (.tail _ (.tail _ (.tail _ (.tail _ (.tail _ (.tail _ (.tail _ (.head _))))))))) rfl rfl ?_
                              refine St.gOn (dj := 146) rfl rfl ?_
                              obtain ⟨r15, hr15, hj5⟩ := bnd_e hj5
                              refine St.callV (c_ref28_SameImage hr15) ent17 rfl rfl rfl rfl ⟨(.head _), (.tail _ (.tail _ (.tail _ (.tail _ (.tail _ (.tail _ (.tail _ (.head _)))))))), trivial⟩ ?_
                              refine St.p rfl rfl ?_
                              refine St.p rfl rfl ?_
                              refine St.doneQ ?_
                              injection hj5 with hj5
                              subst hj5
                              refine St.thenN ?_
                              exact St.hereE () ⟨rfl, trivial⟩ (fun _ w => ((.d (.d (.d (.d (.d (.d (.d (.d (.d .z))))))))) : Keep _ _).sat w)
                            · replace hj5 := bif_f hb14 hj5
                              refine St.gOff (dj := 146) rfl rfl rfl rfl ?_
                              refine St.gOff (dj := 146) rfl rfl rfl rfl ?_
                              refine St.gOff (dj := 146) rfl rfl rfl rfl ?_
                              refine St.gOff (dj := 146) rfl rfl rfl rfl ?_
                              refine St.gOff (dj := 146) rfl rfl rfl rfl ?_
                              refine St.gOff (dj := 146) rfl rfl rfl rfl ?_
                              refine St.gOff (dj := 146) rfl rfl rfl rfl ?_
                              refine St.gOff (dj := 146) rfl rfl rfl rfl ?_
                              refine St.gOff (dj := 146) rfl rfl rfl rfl ?_
                              refine St.p rfl rfl ?_
                              refine St.p rfl rfl ?_
                              refine St.doneQ ?_
                              injection hj5 with hj5
                              subst hj5
                              refine St.thenN ?_
                              exact St.hereE () ⟨rfl, trivial⟩ (fun _ w => ((.d (.d (.d (.d (.d (.d (.d (.d .z)))))))) : Keep _ _).sat w)
                          · replace hj5 := bif_f hb13 hj5
                            refine St.gOff (dj := 142) rfl rfl rfl rfl ?_
                            refine St.gOff (dj := 142) rfl rfl rfl rfl ?_
                            refine St.p rfl rfl ?_
                            refine St.p rfl rfl ?_
                            refine St.gOff (dj := 146) rfl rfl rfl rfl ?_
                            refine St.gOff (dj := 146) rfl rfl rfl rfl ?_
                            refine St.gOff (dj := 146) rfl rfl rfl rfl ?_
                            refine St.gOff (dj := 146) rfl rfl rfl rfl ?_
                            refine St.gOff (dj := 146) rfl rfl rfl rfl ?_
                            refine St.gOff (dj := 146) rfl rfl rfl rfl ?_
                            refine St.gOff (dj := 146) rfl rfl rfl rfl ?_
                            refine St.gOff (dj := 146) rfl rfl rfl rfl ?_
                            refine St.gOff (dj := 146) rfl rfl rfl rfl ?_
                            refine St.p rfl rfl ?_
                            refine St.p rfl rfl ?_
                            refine St.doneQ ?_
                            injection hj5 with hj5
                            subst hj5
                            refine St.thenN ?_
                            exact St.hereE () ⟨rfl, trivial⟩ (fun _ w => ((.d (.d (.d (.d (.d (.d (.d (.d .z)))))))) : Keep _ _).sat w)
                        · replace hj5 := bif_f hb12 hj5
                          refine St.gOff (dj := 138) rfl rfl rfl rfl ?_
                          refine St.gOff (dj := 138) rfl rfl rfl rfl ?_
                          refine St.p rfl rfl ?_
                          refine St.p rfl rfl ?_
                          refine St.gOff (dj := 142) rfl rfl rfl rfl ?_
                          refine St.gOff (dj := 142) rfl rfl rfl rfl ?_
                          refine St.p rfl rfl ?_
                          refine St.p rfl rfl ?_
                          refine St.gOff (dj := 146) rfl rfl rfl rfl ?_
                          refine St.gOff (dj := 146) rfl rfl rfl rfl ?_
                          refine St.gOff (dj := 146) rfl rfl rfl rfl ?_
                          refine St.gOff (dj := 146) rfl rfl rfl rfl ?_
                          refine St.gOff (dj := 146) rfl rfl rfl rfl ?_
                          refine St.gOff (dj := 146) rfl rfl rfl rfl ?_
                          refine St.gOff (dj := 146) rfl rfl rfl rfl ?_
                          refine St.gOff (dj := 146) rfl rfl rfl rfl ?_
                          refine St.gOff (dj := 146) rfl rfl rfl rfl ?_
                          refine St.p rfl rfl ?_
                          refine St.p rfl rfl ?_
                          refine St.doneQ ?_
                          injection hj5 with hj5
                          subst hj5
                          refine St.thenN ?_
                          exact St.hereE () ⟨rfl, trivial⟩ (fun _ w => ((.d (.d (.d (.d (.d (.d (.d (.d .z)))))))) : Keep _ _).sat w)
                      · rintro e5
                        refine St.ret ?_
                        repeat (first | refine St.thenR ?_ | refine St.blkR ?_)
                        injection h with h
                        subst h
                        exact St.finR Try.results3 (.tmp rfl .nil) rfl [] ⟨rfl, rfl⟩ (fun _ w => (.z : Keep _ _).sat w)

end Go.Proofs.Ytcjhemblnemhfaa
