/-
  Models of functions of the program, and that the functions compute them.
  Conditions: none.
-/
import Derived.Test.YtnolaefjmjgfbaaGen2
namespace Go.Proofs.Ytnolaefjmjgfbaa
open Go
set_option linter.unusedVariables false

theorem c_law19_InventoryEvents {l_p0 : (List T_Difference)} {n_p1 : (List Int)} {A1 : Option Addr} {c1 : Nat} {A2 : Option Addr} {c2 : Nat} {r : Bool} (h : m_law19_InventoryEvents l_p0 n_p1 = some r) :
    Fun Try.prog 7 [.slice A1 l_p0.length c1, .slice A2 n_p1.length c2] [.ro (SlL e_Difference A1 c1 l_p0), .ro (SlL ei64 A2 c2 n_p1)] (Val (.bool r)) := by
  unfold m_law19_InventoryEvents at h
  refine Fun.intro Try.func7 rfl rfl rfl fun w R => ?_
  refine St.seq ?_
  refine St.region ?_
  refine St.p rfl rfl ?_
  refine St.done ?_
  refine St.thenN ?_
  refine St.prune (Γ' := [(0, _), (1, _)]) ⟨rfl, rfl, trivial⟩ (.k (.k .z)) ?_
  refine St.seq ?_
  refine St.seq ?_
  obtain ⟨o1, hj1, h⟩ := bnd_e h
  refine St.cutE (fun (e1 : Unit) => [(0, .slice A1 l_p0.length c1), (1, .slice A2 n_p1.length c2), (22, .bool o1)]) (fun e1 => .ro (SlL e_Difference A1 c1 l_p0) :: .ro (SlL ei64 A2 c2 n_p1) :: R) ?_ ?_
  · refine St.region ?_
    iterate 4 refine St.p rfl rfl ?_
    refine St.gSplit (dj := 18) _ rfl (fun hb1 => ?_) (fun hb1 => ?_)
    · replace hj1 := bif_t hb1 hj1
      refine St.gOff (dj := 18) rfl rfl rfl rfl ?_
      refine St.gOff (dj := 18) rfl rfl rfl rfl ?_
      refine St.gOff (dj := 18) rfl rfl rfl rfl ?_
      refine St.p rfl rfl ?_
      refine St.done ?_
      injection hj1 with hj1
      subst hj1
      refine St.thenN ?_
      exact St.hereE () ⟨rfl, rfl, rfl, trivial⟩ (fun _ w => ((.k (.k .z)) : Keep _ _).sat w)
    · replace hj1 := bif_f hb1 hj1
      refine St.gOn (dj := 18) rfl rfl ?_
      refine St.p rfl rfl ?_
      refine St.gOn (dj := 18) rfl rfl ?_
      obtain ⟨r1, hr1, hj1⟩ := bnd_e hj1
      refine St.callV (c_made_Light hr1) ent10 rfl rfl rfl rfl ⟨(.tail _ (.head _)), trivial⟩ ?_
      refine St.gOn (dj := 18) rfl rfl ?_
      refine St.p rfl rfl ?_
      refine St.p rfl rfl ?_
      refine St.done ?_
      injection hj1 with hj1
      subst hj1
      refine St.thenN ?_
      exact St.hereE () ⟨rfl, rfl, rfl, trivial⟩ (fun _ w => ((.k (.k .z)) : Keep _ _).sat w)
  · rintro e1
    refine St.cond _ rfl (fun hb2 => ?_) (fun hb2 => ?_)
    · replace h := bif_t hb2 h
      refine St.seq ?_
      refine St.region ?_
      obtain ⟨r2, hr2, h⟩ := bnd_e h
      refine St.callV (c_law19_awake hr2) ent11 rfl rfl rfl rfl trivial ?_
      refine St.p rfl rfl ?_
      refine St.done ?_
      refine St.thenN ?_
      refine St.prune (Γ' := [(4, _)]) ⟨rfl, trivial⟩ (.d (.d .z)) ?_
      refine St.ret ?_
      repeat (first | refine St.thenR ?_ | refine St.blkR ?_)
      injection h with h
      subst h
      exact St.finR Try.results7 (.tmp rfl .nil) rfl [] ⟨rfl, rfl⟩ (fun _ w => (.z : Keep _ _).sat w)
    · replace h := bif_f hb2 h
      refine St.skip ?_
      refine St.thenN ?_
      refine St.prune (Γ' := [(0, _), (1, _)]) ⟨rfl, rfl, trivial⟩ (.k (.k .z)) ?_
      refine St.seq ?_
      refine St.region ?_
      refine St.p rfl rfl ?_
      obtain ⟨r3, hr3, h⟩ := bnd_e h
      refine St.call (c_made_Roll hr3) ent12 rfl rfl rfl (fun _ w => Sat.dup (G := [.ro (SlL ei64 A2 c2 n_p1)]) rfl ⟨(.tail _ (.head _)), trivial⟩ w) ?_
      rintro _ _ ⟨g1, A3, c3, rfl, rfl⟩
      refine St.asrt (F' := .ro (SlL ei64 A3 c3 r3.L) :: .res (Box g1 73 [.slice A3 r3.L.length c3, .int .i64 r3.At]) :: .ro (SlL e_Difference A1 c1 l_p0) :: .ro (SlL ei64 A2 c2 n_p1) :: R) (fun _ w => w) ?_
      refine St.p rfl rfl ?_
      refine St.done ?_
      refine St.thenN ?_
      refine St.prune (Γ' := [(0, _), (5, _)]) ⟨rfl, rfl, trivial⟩ (.k (.k (.k (.d .z)))) ?_
      refine St.seq ?_
      refine St.region ?_
      refine St.p rfl rfl ?_
      refine St.done ?_
      refine St.thenN ?_
      refine St.seq ?_
      refine St.seq ?_
      refine St.region ?_
      refine St.p rfl rfl ?_
      obtain ⟨r4, hr4, h⟩ := bnd_e h
      refine St.call (c_made_Dice_Next hr4) ent22 rfl rfl rfl (fun _ w => Sat.dup (G := [.ro (SlL ei64 A3 c3 r3.L)]) rfl ⟨(.tail _ (.head _)), trivial⟩ (w.front (.s .z))) ?_
      rintro _ _ ⟨A4, c4, rfl, rfl⟩
      refine St.asrt (F' := .ro (SlL ei64 A4 c4 r4.1.L) :: .res (Box g1 73 [.slice A4 r4.1.L.length c4, .int .i64 r4.1.At]) :: .ro (SlL ei64 A3 c3 r3.L) :: .ro (SlL e_Difference A1 c1 l_p0) :: R) (fun _ w => w) ?_
      refine St.p rfl rfl ?_
      refine St.done ?_
      refine St.thenN ?_
      refine St.prune (Γ' := [(0, _), (5, _), (6, _), (7, _)]) ⟨rfl, rfl, rfl, rfl, trivial⟩ (.k (.k (.d (.k .z)))) ?_
      refine St.asrt (fun _ w => w.nilL e_Difference 40) ?_
      obtain ⟨o2, hl1, h⟩ := bnd_e h
      refine St.cutE (fun (e3 : Option Addr × Nat × Option Addr × Nat) => [(0, .slice A1 l_p0.length c1), (6, .slice e3.1 o2.1.length e3.2.1)]) (fun e3 => .res (OwnL e_Difference 40 e3.1 e3.2.1 o2.1) :: .ro (SlL e_Difference A1 c1 l_p0) :: R) ?_ ?_
      · refine St.block ?_
        refine St.loop hl1 (fun (s1 : List T_Difference × Int × List Int × Int) (e2 : Option Addr × Nat × Option Addr × Nat) => [(0, .slice A1 l_p0.length c1), (5, .pointer (some ⟨g1, 0, none⟩)), (6, .slice e2.1 s1.1.length e2.2.1), (7, .int .i64 s1.2.1)]) (fun s1 e2 => .ro (SlL ei64 e2.2.2.1 e2.2.2.2 s1.2.2.1) :: .res (OwnL e_Difference 40 e2.1 e2.2.1 s1.1) :: .res (Box g1 73 [.slice e2.2.2.1 s1.2.2.1.length e2.2.2.2, .int .i64 s1.2.2.2]) :: .ro (SlL e_Difference A1 c1 l_p0) :: R) (fun _ _ => True) (none, 0, A4, c4) trivial ⟨rfl, rfl, rfl, rfl, trivial⟩ (fun _ w => ((.k (.k (.k (.k .z)))) : Keep _ _).sat ((((w.front (.s (.s (.s .z)))).front (.s (.s (.s .z)))).front (.s (.s .z))).front (.s (.s (.s .z))))) ?_
        rintro s1 ⟨A5, c5, A6, c6⟩ - hit1
        obtain ⟨st1, hm1, hd1⟩ := iter_e hit1
        have h1 := hm1
        refine St.seq ?_
        refine St.seq ?_
        refine St.region ?_
        refine St.p rfl rfl ?_
        refine St.p rfl rfl ?_
        refine St.done ?_
        refine St.thenN ?_
        refine St.prune (Γ' := [(0, _), (5, _), (6, _), (7, _), (29, _)]) ⟨rfl, rfl, rfl, rfl, rfl, trivial⟩ (.k (.k (.k (.k .z)))) ?_
        refine St.cond _ rfl (fun hb3 => ?_) (fun hb3 => ?_)
        · replace h1 := bif_t hb3 h1
          refine St.skip ?_
          refine St.thenN ?_
          refine St.prune (Γ' := [(0, _), (5, _), (6, _), (7, _)]) ⟨rfl, rfl, rfl, rfl, trivial⟩ (.k (.k (.k (.k .z)))) ?_
          refine St.seq ?_
          refine St.block ?_
          refine St.seq ?_
          refine St.region ?_
          refine St.p rfl rfl ?_
          obtain ⟨r5, hr5, h1⟩ := bnd_e h1
          refine St.call (c_made_Dice_Next hr5) ent22 rfl rfl rfl (fun _ w => Sat.dup (G := [.ro (SlL ei64 A6 c6 s1.2.2.1)]) rfl ⟨(.tail _ (.head _)), trivial⟩ (w.front (.s (.s .z)))) ?_
          rintro _ _ ⟨A9, c9, rfl, rfl⟩
          refine St.asrt (F' := .ro (SlL ei64 A9 c9 r5.1.L) :: .res (Box g1 73 [.slice A9 r5.1.L.length c9, .int .i64 r5.1.At]) :: .ro (SlL ei64 A6 c6 s1.2.2.1) :: .res (OwnL e_Difference 40 A5 c5 s1.1) :: .ro (SlL e_Difference A1 c1 l_p0) :: R) (fun _ w => w) ?_
          refine St.p rfl rfl ?_
          refine St.p rfl rfl ?_
          obtain ⟨r6, hr6, h1⟩ := bnd_e h1
          refine St.call (c_made_Dice_Next hr6) ent22 rfl rfl rfl (fun _ w => Sat.dup (G := [.ro (SlL ei64 A9 c9 r5.1.L)]) rfl ⟨(.tail _ (.head _)), trivial⟩ (w.front (.s .z))) ?_
          rintro _ _ ⟨A10, c10, rfl, rfl⟩
          refine St.asrt (F' := .ro (SlL ei64 A10 c10 r6.1.L) :: .res (Box g1 73 [.slice A10 r6.1.L.length c10, .int .i64 r6.1.At]) :: .ro (SlL ei64 A9 c9 r5.1.L) :: .ro (SlL ei64 A6 c6 s1.2.2.1) :: .res (OwnL e_Difference 40 A5 c5 s1.1) :: .ro (SlL e_Difference A1 c1 l_p0) :: R) (fun _ w => w) ?_
          refine St.p rfl rfl ?_
          obtain ⟨r7, hr7, h1⟩ := bnd_e h1
          refine St.call (c_made_Dice_Next hr7) ent22 rfl rfl rfl (fun _ w => Sat.dup (G := [.ro (SlL ei64 A10 c10 r6.1.L)]) rfl ⟨(.tail _ (.head _)), trivial⟩ (w.front (.s .z))) ?_
          rintro _ _ ⟨A11, c11, rfl, rfl⟩
          refine St.asrt (F' := .ro (SlL ei64 A11 c11 r7.1.L) :: .res (Box g1 73 [.slice A11 r7.1.L.length c11, .int .i64 r7.1.At]) :: .ro (SlL ei64 A10 c10 r6.1.L) :: .ro (SlL ei64 A9 c9 r5.1.L) :: .ro (SlL ei64 A6 c6 s1.2.2.1) :: .res (OwnL e_Difference 40 A5 c5 s1.1) :: .ro (SlL e_Difference A1 c1 l_p0) :: R) (fun _ w => w) ?_
          refine St.p rfl rfl ?_
          refine St.alloc rfl rfl fun g2 => ?_
          refine St.store 0 rfl rfl rfl rfl rfl rfl .z rfl ?_
          refine St.done ?_
          refine St.thenN ?_
          refine St.prune (Γ' := [(0, _), (5, _), (6, _), (7, _), (8, _)]) ⟨rfl, rfl, rfl, rfl, rfl, trivial⟩ (.k (.k (.k (.d (.d (.d (.k (.k .z)))))))) ?_
          refine St.seq ?_
          obtain ⟨o3, hj2, h1⟩ := bnd_e h1
          refine St.cutE (fun (e4 : Option Addr × Nat) => [(0, .slice A1 l_p0.length c1), (5, .pointer (some ⟨g1, 0, none⟩)), (6, .slice A5 s1.1.length c5), (7, .int .i64 s1.2.1), (8, .pointer (some ⟨g2, 0, none⟩))]) (fun e4 => .ro (SlL ei64 e4.1 e4.2 o3.2.1) :: .res (Box g2 40 [.int .i64 o3.1, .int .i64 r6.2, .int .i64 r7.2]) :: .res (Box g1 73 [.slice e4.1 o3.2.1.length e4.2, .int .i64 o3.2.2]) :: .res (OwnL e_Difference 40 A5 c5 s1.1) :: .ro (SlL e_Difference A1 c1 l_p0) :: R) ?_ ?_
          · refine St.seq ?_
            refine St.region ?_
            refine St.p rfl rfl ?_
            obtain ⟨r8, hr8, hj2⟩ := bnd_e hj2
            refine St.call (c_made_Dice_Bool hr8) ent23 rfl rfl rfl (fun _ w => Sat.dup (G := [.ro (SlL ei64 A11 c11 r7.1.L)]) rfl ⟨(.tail _ (.tail _ (.head _))), trivial⟩ (w.front (.s (.s .z)))) ?_
            rintro _ _ ⟨A13, c13, rfl, rfl⟩
            refine St.asrt (F' := .ro (SlL ei64 A13 c13 r8.1.L) :: .res (Box g1 73 [.slice A13 r8.1.L.length c13, .int .i64 r8.1.At]) :: .res (Box g2 40 [.int .i64 (IntKind.wrap .i64 (1 + r5.2)), .int .i64 r6.2, .int .i64 r7.2]) :: .ro (SlL ei64 A11 c11 r7.1.L) :: .res (OwnL e_Difference 40 A5 c5 s1.1) :: .ro (SlL e_Difference A1 c1 l_p0) :: R) (fun _ w => w) ?_
            refine St.done ?_
            refine St.thenN ?_
            refine St.prune (Γ' := [(0, _), (5, _), (6, _), (7, _), (8, _), (41, _)]) ⟨rfl, rfl, rfl, rfl, rfl, rfl, trivial⟩ (.k (.k (.k (.d (.k (.k .z)))))) ?_
            refine St.cond _ rfl (fun hb4 => ?_) (fun hb4 => ?_)
            · replace hj2 := bif_t hb4 hj2
              refine St.region ?_
              refine St.p rfl rfl ?_
              obtain ⟨r9, hr9, hj2⟩ := bnd_e hj2
              refine St.call (c_made_Dice_Next hr9) ent22 rfl rfl rfl (fun _ w => Sat.dup (G := [.ro (SlL ei64 A13 c13 r8.1.L)]) rfl ⟨(.tail _ (.head _)), trivial⟩ (w.front (.s .z))) ?_
              rintro _ _ ⟨A14, c14, rfl, rfl⟩
              refine St.asrt (F' := .ro (SlL ei64 A14 c14 r9.1.L) :: .res (Box g1 73 [.slice A14 r9.1.L.length c14, .int .i64 r9.1.At]) :: .ro (SlL ei64 A13 c13 r8.1.L) :: .res (Box g2 40 [.int .i64 (IntKind.wrap .i64 (1 + r5.2)), .int .i64 r6.2, .int .i64 r7.2]) :: .res (OwnL e_Difference 40 A5 c5 s1.1) :: .ro (SlL e_Difference A1 c1 l_p0) :: R) (fun _ w => w) ?_
              refine St.p rfl rfl ?_
              refine St.p rfl rfl ?_
              refine St.store 0 rfl rfl rfl rfl rfl rfl (.s (.s (.s .z))) rfl ?_
              refine St.done ?_
              injection hj2 with hj2
              subst hj2
              refine St.thenN ?_
              exact St.hereE (A14, c14) ⟨rfl, rfl, rfl, rfl, rfl, trivial⟩ (fun _ w => ((.k (.k (.k (.k (.k (.d .z)))))) : Keep _ _).sat (((((w.front (.s (.s (.s (.s (.s .z)))))).front (.s (.s (.s (.s (.s .z)))))).front (.s (.s (.s (.s .z))))).front (.s (.s (.s .z)))).front (.s (.s (.s (.s .z))))))
            · replace hj2 := bif_f hb4 hj2
              refine St.skip ?_
              injection hj2 with hj2
              subst hj2
              refine St.thenN ?_
              exact St.hereE (A13, c13) ⟨rfl, rfl, rfl, rfl, rfl, trivial⟩ (fun _ w => ((.k (.k (.k (.k (.k .z))))) : Keep _ _).sat (((((w.front (.s (.s (.s (.s .z))))).front (.s (.s (.s (.s .z))))).front (.s (.s (.s .z)))).front (.s (.s (.s (.s .z))))).front (.s (.s (.s (.s .z))))))
          · rintro ⟨A12, c12⟩
            refine St.seq ?_
            refine St.seq ?_
            refine St.region ?_
            refine St.p rfl rfl ?_
            obtain ⟨r10, hr10, h1⟩ := bnd_e h1
            refine St.call (c_made_Dice_Bool hr10) ent23 rfl rfl rfl (fun _ w => Sat.dup (G := [.ro (SlL ei64 A12 c12 o3.2.1)]) rfl ⟨(.tail _ (.head _)), trivial⟩ (w.front (.s (.s .z)))) ?_
            rintro _ _ ⟨A15, c15, rfl, rfl⟩
            refine St.asrt (F' := .ro (SlL ei64 A15 c15 r10.1.L) :: .res (Box g1 73 [.slice A15 r10.1.L.length c15, .int .i64 r10.1.At]) :: .ro (SlL ei64 A12 c12 o3.2.1) :: .res (Box g2 40 [.int .i64 o3.1, .int .i64 r6.2, .int .i64 r7.2]) :: .res (OwnL e_Difference 40 A5 c5 s1.1) :: .ro (SlL e_Difference A1 c1 l_p0) :: R) (fun _ w => w) ?_
            refine St.done ?_
            refine St.thenN ?_
            refine St.prune (Γ' := [(0, _), (5, _), (6, _), (7, _), (8, _), (47, _)]) ⟨rfl, rfl, rfl, rfl, rfl, rfl, trivial⟩ (.k (.k (.d (.k (.k (.k .z)))))) ?_
            refine St.cond _ rfl (fun hb5 => ?_) (fun hb5 => ?_)
            · replace h1 := bif_t hb5 h1
              refine St.region ?_
              refine St.p rfl rfl ?_
              obtain ⟨r11, hr11, h1⟩ := bnd_e h1
              refine St.call (c_made_Dice_Next hr11) ent22 rfl rfl rfl (fun _ w => Sat.dup (G := [.ro (SlL ei64 A15 c15 r10.1.L)]) rfl ⟨(.tail _ (.head _)), trivial⟩ (w.front (.s .z))) ?_
              rintro _ _ ⟨A16, c16, rfl, rfl⟩
              refine St.asrt (F' := .ro (SlL ei64 A16 c16 r11.1.L) :: .res (Box g1 73 [.slice A16 r11.1.L.length c16, .int .i64 r11.1.At]) :: .ro (SlL ei64 A15 c15 r10.1.L) :: .res (Box g2 40 [.int .i64 o3.1, .int .i64 r6.2, .int .i64 r7.2]) :: .res (OwnL e_Difference 40 A5 c5 s1.1) :: .ro (SlL e_Difference A1 c1 l_p0) :: R) (fun _ w => w) ?_
              refine St.p rfl rfl ?_
              refine St.p rfl rfl ?_
              refine St.store 1 rfl rfl rfl rfl rfl rfl (.s (.s (.s .z))) rfl ?_
              refine St.done ?_
              refine St.thenN ?_
              refine St.prune (Γ' := [(0, _), (5, _), (6, _), (7, _), (8, _)]) ⟨rfl, rfl, rfl, rfl, rfl, trivial⟩ (.k (.k (.k (.d (.k (.k .z)))))) ?_
              refine St.region ?_
              refine St.p rfl rfl ?_
              refine St.loadB 0 rfl rfl (.head _) rfl rfl ?_
              refine St.buildSlice rfl rfl rfl rfl rfl rfl rfl rfl fun g3 => ?_
              obtain ⟨l1, hl1, h1⟩ := bnd_e h1
              refine St.app (E := e_Difference) hl1 rfl rfl rfl (.s (.s (.s (.s .z)))) rfl rfl rfl rfl rfl rfl rfl rfl (srcB (.head _) rfl rfl) fun A17 c17 => ?_
              refine St.p rfl rfl ?_
              refine St.done ?_
              refine St.blkN ?_
              refine St.thenN ?_
              refine St.prune (Γ' := [(0, _), (5, _), (6, _), (7, _)]) ⟨rfl, rfl, rfl, rfl, trivial⟩ (.k (.d (.d (.k (.k (.k .z)))))) ?_
              refine St.region ?_
              iterate 3 refine St.p rfl rfl ?_
              refine St.done ?_
              injection h1 with h1
              subst h1
              refine St.thenN ?_
              exact St.again _ (A17, c17, A16, c16) hm1 trivial ⟨rfl, rfl, rfl, rfl, trivial⟩ (fun _ w => ((.k (.k (.k (.k .z)))) : Keep _ _).sat ((((w.front (.s (.s (.s .z)))).front (.s (.s (.s .z)))).front (.s (.s .z))).front (.s (.s (.s .z)))))
            · replace h1 := bif_f hb5 h1
              refine St.skip ?_
              refine St.thenN ?_
              refine St.prune (Γ' := [(0, _), (5, _), (6, _), (7, _), (8, _)]) ⟨rfl, rfl, rfl, rfl, rfl, trivial⟩ (.k (.k (.k (.k (.k .z))))) ?_
              refine St.region ?_
              refine St.p rfl rfl ?_
              refine St.loadB 0 rfl rfl (.tail _ (.tail _ (.head _))) rfl rfl ?_
              refine St.buildSlice rfl rfl rfl rfl rfl rfl rfl rfl fun g4 => ?_
              obtain ⟨l2, hl2, h1⟩ := bnd_e h1
              refine St.app (E := e_Difference) hl2 rfl rfl rfl (.s (.s (.s (.s .z)))) rfl rfl rfl rfl rfl rfl rfl rfl (srcB (.head _) rfl rfl) fun A18 c18 => ?_
              refine St.p rfl rfl ?_
              refine St.done ?_
              refine St.blkN ?_
              refine St.thenN ?_
              refine St.prune (Γ' := [(0, _), (5, _), (6, _), (7, _)]) ⟨rfl, rfl, rfl, rfl, trivial⟩ (.k (.d (.k (.k (.d (.k .z)))))) ?_
              refine St.region ?_
              iterate 3 refine St.p rfl rfl ?_
              refine St.done ?_
              injection h1 with h1
              subst h1
              refine St.thenN ?_
              exact St.again _ (A18, c18, A15, c15) hm1 trivial ⟨rfl, rfl, rfl, rfl, trivial⟩ (fun _ w => ((.k (.k (.k (.k .z)))) : Keep _ _).sat ((((w.front (.s (.s (.s .z)))).front (.s (.s (.s .z)))).front (.s (.s .z))).front (.s (.s (.s .z)))))
        · replace h1 := bif_f hb3 h1
          refine St.exit ?_
          repeat (first | refine St.thenX ?_ | refine St.blkMiss rfl ?_)
          refine St.blkHit ?_
          injection h1 with h1
          subst h1
          have ho := hd1 _ rfl
          subst ho
          refine St.thenN ?_
          exact St.hereE (A5, c5, A6, c6) ⟨rfl, rfl, trivial⟩ (fun _ w => ((.d (.k (.d (.k .z)))) : Keep _ _).sat w)
      · rintro ⟨A7, c7, A8, c8⟩
        refine St.seq ?_
        refine St.seq ?_
        refine St.region ?_
        refine St.p rfl rfl ?_
        refine St.p rfl rfl ?_
        refine St.buildSlice rfl rfl rfl rfl rfl rfl rfl rfl fun g5 => ?_
        refine St.p rfl rfl ?_
        refine St.p rfl rfl ?_
        refine St.done ?_
        refine St.thenN ?_
        refine St.prune (Γ' := [(58, _), (59, _), (60, _)]) ⟨rfl, rfl, rfl, trivial⟩ (.k (.k (.k .z))) ?_
        refine St.block ?_
        refine St.rounds 9 ?_
        refine St.round ?_
        refine St.seq ?_
        refine St.region ?_
        refine St.p rfl rfl ?_
        refine St.done ?_
        refine St.thenN ?_
        refine St.seq ?_
        refine St.condT rfl ?_
        refine St.skip ?_
        refine St.thenN ?_
        refine St.prune (Γ' := [(58, _), (59, _), (60, _)]) ⟨rfl, rfl, rfl, trivial⟩ (.k (.k (.k .z))) ?_
        refine St.seq ?_
        refine St.block ?_
        refine St.seq ?_
        refine St.region ?_
        refine St.ixB 0 rfl rfl rfl rfl rfl rfl rfl rfl rfl rfl ?_
        refine St.loadB 0 rfl rfl (.head _) rfl rfl ?_
        refine St.p rfl rfl ?_
        refine St.done ?_
        refine St.thenN ?_
        refine St.prune (Γ' := [(10, _), (58, _), (59, _), (60, _)]) ⟨rfl, rfl, rfl, rfl, trivial⟩ (.k (.k (.k .z))) ?_
        refine St.seq ?_
        refine St.region ?_
        refine St.p rfl rfl ?_
        obtain ⟨r12, hr12, h⟩ := bnd_e h
        refine St.call (c_inventory_Events hr12) ent24 rfl rfl rfl (fun _ w => Sat.dup (G := [.ro (SlL e_Difference A1 c1 l_p0)]) rfl ⟨(.tail _ (.tail _ (.head _))), trivial⟩ w) ?_
        rintro _ _ ⟨A19, c19, rfl, rfl⟩
        refine St.asrt (F' := .res (OwnL e_Event 83 A19 c19 r12.1) :: .res (Box g5 32 [.slice A1 l_p0.length c1, .slice A7 o2.1.length c7]) :: .res (OwnL e_Difference 40 A7 c7 o2.1) :: .ro (SlL e_Difference A1 c1 l_p0) :: R) (fun _ w => w) ?_
        iterate 5 refine St.p rfl rfl ?_
        refine St.done ?_
        refine St.thenN ?_
        refine St.prune (Γ' := [(10, _), (11, _), (12, _), (58, _), (59, _), (60, _)]) ⟨rfl, rfl, rfl, rfl, rfl, rfl, trivial⟩ (.k (.k (.k (.k .z)))) ?_
        refine St.seq ?_
        refine St.region ?_
        refine St.p rfl rfl ?_
        obtain ⟨r13, hr13, h⟩ := bnd_e h
        refine St.call (c_ref19_Events hr13) ent25 rfl rfl rfl (fun _ w => Sat.dup (G := [.ro (SlL e_Difference A1 c1 l_p0)]) rfl ⟨(.tail _ (.tail _ (.tail _ (.head _)))), trivial⟩ w) ?_
        rintro _ _ ⟨A20, c20, rfl, rfl⟩
        refine St.asrt (F' := .res (OwnL e_Event 83 A20 c20 r13.1) :: .res (OwnL e_Event 83 A19 c19 r12.1) :: .res (Box g5 32 [.slice A1 l_p0.length c1, .slice A7 o2.1.length c7]) :: .res (OwnL e_Difference 40 A7 c7 o2.1) :: .ro (SlL e_Difference A1 c1 l_p0) :: R) (fun _ w => w) ?_
        iterate 5 refine St.p rfl rfl ?_
        refine St.done ?_
        refine St.thenN ?_
        refine St.prune (Γ' := [(11, _), (12, _), (13, _), (14, _), (58, _), (59, _), (60, _)]) ⟨rfl, rfl, rfl, rfl, rfl, rfl, rfl, trivial⟩ (.k (.k (.k (.k (.k .z))))) ?_
        refine St.seq ?_
        obtain ⟨o4, hj3, h⟩ := bnd_e h
        refine St.cutE (fun (e5 : Unit) => [(58, .slice (some ⟨g5, 0, none⟩) 2 2), (59, .int .i64 ((2 : Nat) : Int)), (60, .int .i64 0), (82, .bool o4)]) (fun e5 => .res (Box g5 32 [.slice A1 l_p0.length c1, .slice A7 o2.1.length c7]) :: .res (OwnL e_Difference 40 A7 c7 o2.1) :: .ro (SlL e_Difference A1 c1 l_p0) :: R) ?_ ?_
        · refine St.region ?_
          iterate 4 refine St.p rfl rfl ?_
          refine St.gSplit (dj := 77) _ rfl (fun hb6 => ?_) (fun hb6 => ?_)
          · replace hj3 := bif_t hb6 hj3
            refine St.gOff (dj := 77) rfl rfl rfl rfl ?_
            refine St.gOff (dj := 77) rfl rfl rfl rfl ?_
            refine St.gOff (dj := 77) rfl rfl rfl rfl ?_
            refine St.gOff (dj := 77) rfl rfl rfl rfl ?_
            refine St.p rfl rfl ?_
            refine St.done ?_
            injection hj3 with hj3
            subst hj3
            refine St.thenN ?_
            exact St.hereE () ⟨rfl, rfl, rfl, rfl, trivial⟩ (fun _ w => ((.d (.d (.k (.k (.k .z))))) : Keep _ _).sat w)
          · replace hj3 := bif_f hb6 hj3
            refine St.gOn (dj := 77) rfl rfl ?_
            refine St.p rfl rfl ?_
            refine St.gOn (dj := 77) rfl rfl ?_
            refine St.p rfl rfl ?_
            refine St.gOn (dj := 77) rfl rfl ?_
            refine St.asrt (fun _ w => (w.front (.s .z)).meltL) ?_
            refine St.asrt (fun _ w => (w.front (.s .z)).meltL) ?_
            obtain ⟨r14, hr14, hj3⟩ := bnd_e hj3
            refine St.callV (c_ref07_SameList hr14) ent26 rfl rfl rfl rfl ⟨(.tail _ (.head _)), (.head _), trivial⟩ ?_
            refine St.gOn (dj := 77) rfl rfl ?_
            refine St.p rfl rfl ?_
            refine St.p rfl rfl ?_
            refine St.done ?_
            injection hj3 with hj3
            subst hj3
            refine St.thenN ?_
            exact St.hereE () ⟨rfl, rfl, rfl, rfl, trivial⟩ (fun _ w => ((.d (.d (.k (.k (.k .z))))) : Keep _ _).sat w)
        · rintro e5
          refine St.cond _ rfl (fun hb7 => ?_) (fun hb7 => ?_)
          · replace h := bif_t hb7 h
            refine St.seq ?_
            refine St.region ?_
            refine St.p rfl rfl ?_
            refine St.done ?_
            refine St.thenN ?_
            refine St.prune (Γ' := [(4, _)]) ⟨rfl, trivial⟩ (.d (.d (.d .z))) ?_
            refine St.ret ?_
            repeat (first | refine St.thenR ?_ | refine St.blkR ?_)
            injection h with h
            subst h
            exact St.finR Try.results7 (.tmp rfl .nil) rfl [] ⟨rfl, rfl⟩ (fun _ w => (.z : Keep _ _).sat w)
          · replace h := bif_f hb7 h
            refine St.skip ?_
            refine St.blkN ?_
            refine St.thenN ?_
            refine St.prune (Γ' := [(58, _), (59, _), (60, _)]) ⟨rfl, rfl, rfl, trivial⟩ (.k (.k (.k .z))) ?_
            refine St.region ?_
            refine St.p rfl rfl ?_
            refine St.p rfl rfl ?_
            refine St.done ?_
            refine St.thenN ?_
            refine St.round ?_
            refine St.prune (Γ' := [(58, _), (59, _), (60, _)]) ⟨rfl, rfl, rfl, trivial⟩ (.k (.k (.k .z))) ?_
            refine St.seq ?_
            refine St.region ?_
            refine St.p rfl rfl ?_
            refine St.done ?_
            refine St.thenN ?_
            refine St.seq ?_
            refine St.condT rfl ?_
            refine St.skip ?_
            refine St.thenN ?_
            refine St.prune (Γ' := [(58, _), (59, _), (60, _)]) ⟨rfl, rfl, rfl, trivial⟩ (.k (.k (.k .z))) ?_
            refine St.seq ?_
            refine St.block ?_
            refine St.seq ?_
            refine St.region ?_
            refine St.ixB 1 rfl rfl rfl rfl rfl rfl rfl rfl rfl rfl ?_
            refine St.loadB 1 rfl rfl (.head _) rfl rfl ?_
            refine St.p rfl rfl ?_
            refine St.done ?_
            refine St.thenN ?_
            refine St.prune (Γ' := [(10, _), (58, _), (59, _), (60, _)]) ⟨rfl, rfl, rfl, rfl, trivial⟩ (.k (.k (.k .z))) ?_
            refine St.seq ?_
            refine St.region ?_
            refine St.p rfl rfl ?_
            refine St.asrt (fun _ w => (w.front (.s .z)).meltL) ?_
            obtain ⟨r15, hr15, h⟩ := bnd_e h
            refine St.call (c_inventory_Events hr15) ent24 rfl rfl rfl (fun _ w => Sat.dup (G := [.ro (SlL e_Difference A7 c7 o2.1)]) rfl ⟨(.head _), trivial⟩ w) ?_
            rintro _ _ ⟨A21, c21, rfl, rfl⟩
            refine St.asrt (F' := .res (OwnL e_Event 83 A21 c21 r15.1) :: .ro (SlL e_Difference A7 c7 o2.1) :: .res (Box g5 32 [.slice A1 l_p0.length c1, .slice A7 o2.1.length c7]) :: .ro (SlL e_Difference A1 c1 l_p0) :: R) (fun _ w => w) ?_
            iterate 5 refine St.p rfl rfl ?_
            refine St.done ?_
            refine St.thenN ?_
            refine St.prune (Γ' := [(10, _), (11, _), (12, _), (58, _), (59, _), (60, _)]) ⟨rfl, rfl, rfl, rfl, rfl, rfl, trivial⟩ (.k (.k (.k (.k .z)))) ?_
            refine St.seq ?_
            refine St.region ?_
            refine St.p rfl rfl ?_
            obtain ⟨r16, hr16, h⟩ := bnd_e h
            refine St.call (c_ref19_Events hr16) ent25 rfl rfl rfl (fun _ w => Sat.dup (G := [.ro (SlL e_Difference A7 c7 o2.1)]) rfl ⟨(.tail _ (.head _)), trivial⟩ w) ?_
            rintro _ _ ⟨A22, c22, rfl, rfl⟩
            refine St.asrt (F' := .res (OwnL e_Event 83 A22 c22 r16.1) :: .res (OwnL e_Event 83 A21 c21 r15.1) :: .ro (SlL e_Difference A7 c7 o2.1) :: .res (Box g5 32 [.slice A1 l_p0.length c1, .slice A7 o2.1.length c7]) :: .ro (SlL e_Difference A1 c1 l_p0) :: R) (fun _ w => w) ?_
            iterate 5 refine St.p rfl rfl ?_
            refine St.done ?_
            refine St.thenN ?_
            refine St.prune (Γ' := [(11, _), (12, _), (13, _), (14, _), (58, _), (59, _), (60, _)]) ⟨rfl, rfl, rfl, rfl, rfl, rfl, rfl, trivial⟩ (.k (.k (.k (.k (.k .z))))) ?_
            refine St.seq ?_
            obtain ⟨o5, hj4, h⟩ := bnd_e h
            refine St.cutE (fun (e6 : Unit) => [(58, .slice (some ⟨g5, 0, none⟩) 2 2), (59, .int .i64 ((2 : Nat) : Int)), (60, .int .i64 1), (82, .bool o5)]) (fun e6 => .ro (SlL e_Difference A7 c7 o2.1) :: .res (Box g5 32 [.slice A1 l_p0.length c1, .slice A7 o2.1.length c7]) :: .ro (SlL e_Difference A1 c1 l_p0) :: R) ?_ ?_
            · refine St.region ?_
              iterate 4 refine St.p rfl rfl ?_
              refine St.gSplit (dj := 77) _ rfl (fun hb8 => ?_) (fun hb8 => ?_)
              · replace hj4 := bif_t hb8 hj4
                refine St.gOff (dj := 77) rfl rfl rfl rfl ?_
                refine St.gOff (dj := 77) rfl rfl rfl rfl ?_
                refine St.gOff (dj := 77) rfl rfl rfl rfl ?_
                refine St.gOff (dj := 77) rfl rfl rfl rfl ?_
                refine St.p rfl rfl ?_
                refine St.done ?_
                injection hj4 with hj4
                subst hj4
                refine St.thenN ?_
                exact St.hereE () ⟨rfl, rfl, rfl, rfl, trivial⟩ (fun _ w => ((.d (.d (.k (.k (.k .z))))) : Keep _ _).sat w)
              · replace hj4 := bif_f hb8 hj4
                refine St.gOn (dj := 77) rfl rfl ?_
                refine St.p rfl rfl ?_
                refine St.gOn (dj := 77) rfl rfl ?_
                refine St.p rfl rfl ?_
                refine St.gOn (dj := 77) rfl rfl ?_
                refine St.asrt (fun _ w => (w.front (.s .z)).meltL) ?_
                refine St.asrt (fun _ w => (w.front (.s .z)).meltL) ?_
                obtain ⟨r17, hr17, hj4⟩ := bnd_e hj4
                refine St.callV (c_ref07_SameList hr17) ent26 rfl rfl rfl rfl ⟨(.tail _ (.head _)), (.head _), trivial⟩ ?_
                refine St.gOn (dj := 77) rfl rfl ?_
                refine St.p rfl rfl ?_
                refine St.p rfl rfl ?_
                refine St.done ?_
                injection hj4 with hj4
                subst hj4
                refine St.thenN ?_
                exact St.hereE () ⟨rfl, rfl, rfl, rfl, trivial⟩ (fun _ w => ((.d (.d (.k (.k (.k .z))))) : Keep _ _).sat w)
            · rintro e6
              refine St.cond _ rfl (fun hb9 => ?_) (fun hb9 => ?_)
              · replace h := bif_t hb9 h
                refine St.seq ?_
                refine St.region ?_
                refine St.p rfl rfl ?_
                refine St.done ?_
                refine St.thenN ?_
                refine St.prune (Γ' := [(4, _)]) ⟨rfl, trivial⟩ (.d (.d (.d .z))) ?_
                refine St.ret ?_
                repeat (first | refine St.thenR ?_ | refine St.blkR ?_)
                injection h with h
                subst h
                exact St.finR Try.results7 (.tmp rfl .nil) rfl [] ⟨rfl, rfl⟩ (fun _ w => (.z : Keep _ _).sat w)
              · replace h := bif_f hb9 h
                refine St.skip ?_
                refine St.blkN ?_
                refine St.thenN ?_
                refine St.prune (Γ' := [(58, _), (59, _), (60, _)]) ⟨rfl, rfl, rfl, trivial⟩ (.k (.k (.k .z))) ?_
                refine St.region ?_
                refine St.p rfl rfl ?_
                refine St.p rfl rfl ?_
                refine St.done ?_
                refine St.thenN ?_
                refine St.round ?_
                refine St.prune (Γ' := [(58, _), (59, _), (60, _)]) ⟨rfl, rfl, rfl, trivial⟩ (.k (.k (.k .z))) ?_
                refine St.seq ?_
                refine St.region ?_
                refine St.p rfl rfl ?_
                refine St.done ?_
                refine St.thenN ?_
                refine St.seq ?_
                refine St.condF rfl ?_
                refine St.exit ?_
                repeat (first | refine St.thenX ?_ | refine St.blkMiss rfl ?_)
                refine St.blkHit ?_
                refine St.thenN ?_
                refine St.prune (Γ' := []) trivial (.d (.d (.d .z))) ?_
                refine St.seq ?_
                refine St.region ?_
                obtain ⟨r18, hr18, h⟩ := bnd_e h
                refine St.callV (c_law19_awake hr18) ent11 rfl rfl rfl rfl trivial ?_
                refine St.p rfl rfl ?_
                refine St.done ?_
                refine St.thenN ?_
                refine St.prune (Γ' := [(4, _)]) ⟨rfl, trivial⟩ .z ?_
                refine St.ret ?_
                repeat (first | refine St.thenR ?_ | refine St.blkR ?_)
                injection h with h
                subst h
                exact St.finR Try.results7 (.tmp rfl .nil) rfl [] ⟨rfl, rfl⟩ (fun _ w => (.z : Keep _ _).sat w)

theorem ent44 : Ent Try.prog 44 := ⟨_, Try.func44, by kernel_rfl, by kernel_rfl⟩

noncomputable def m_made_Dice_Byte (d_p0 : T_Dice) : Option (T_Dice × Int) :=
  bnd (m_made_Dice_Bool d_p0 3) fun r1 => bif r1.2 then (bnd (m_made_Dice_Next r1.1 8) fun r2 => bnd (elt ([0, 1, 127, 128, 254, 255, 15, 240]) r2.2) fun x1 => some (r2.1, x1)) else (bnd (m_made_Dice_Next r1.1 256) fun r3 => some (r3.1, IntKind.wrap .u8 r3.2))

theorem c_made_Dice_Byte {d_p0 : T_Dice} {A1 : Option Addr} {c1 : Nat} {gb1 : Nat} {r : (T_Dice × Int)} (h : m_made_Dice_Byte d_p0 = some r) :
    Fun Try.prog 44 [.pointer (some ⟨gb1, 0, none⟩)] [.ro (SlL ei64 A1 c1 d_p0.L), .res (Box gb1 73 [.slice A1 d_p0.L.length c1, .int .i64 d_p0.At])] (fun v_ F_ => ∃ (A1 : Option Addr) (c1 : Nat), v_ = .int .u8 r.2 ∧ F_ = [.ro (SlL ei64 A1 c1 r.1.L), .res (Box gb1 73 [.slice A1 r.1.L.length c1, .int .i64 r.1.At])]) := by
  unfold m_made_Dice_Byte at h
  refine Fun.intro Try.func44 rfl rfl rfl fun w R => ?_
  refine St.seq ?_
  refine St.region ?_
  refine St.p rfl rfl ?_
  refine St.done ?_
  refine St.thenN ?_
  refine St.prune (Γ' := [(0, _)]) ⟨rfl, trivial⟩ (.k (.k .z)) ?_
  refine St.seq ?_
  refine St.region ?_
  refine St.p rfl rfl ?_
  refine St.alloc rfl rfl fun g1 => ?_
  refine St.store 0 rfl rfl rfl rfl rfl rfl .z rfl ?_
  refine St.asrt (fun _ w => (w.front .z).litL (E := eu8) (e := 97) [0, 1, 127, 128, 254, 255, 15, 240] rfl rfl) ?_
  refine St.done ?_
  refine St.thenN ?_
  refine St.prune (Γ' := [(0, _), (3, _)]) ⟨rfl, rfl, trivial⟩ (.k (.k (.k .z))) ?_
  refine St.seq ?_
  refine St.seq ?_
  refine St.region ?_
  refine St.p rfl rfl ?_
  obtain ⟨r1, hr1, h⟩ := bnd_e h
  refine St.call (c_made_Dice_Bool hr1) ent23 rfl rfl rfl (fun _ w => Sat.dup (G := [.ro (SlL ei64 A1 c1 d_p0.L)]) rfl ⟨(.tail _ (.tail _ (.head _))), trivial⟩ (w.front (.s (.s .z)))) ?_
  rintro _ _ ⟨A2, c2, rfl, rfl⟩
  refine St.asrt (F' := .ro (SlL ei64 A2 c2 r1.1.L) :: .res (Box gb1 73 [.slice A2 r1.1.L.length c2, .int .i64 r1.1.At]) :: .res (OwnL eu8 97 (some ⟨g1, 0, none⟩) ([0, 1, 127, 128, 254, 255, 15, 240] : List Int).length ([0, 1, 127, 128, 254, 255, 15, 240])) :: .ro (SlL ei64 A1 c1 d_p0.L) :: R) (fun _ w => w) ?_
  refine St.done ?_
  refine St.thenN ?_
  refine St.prune (Γ' := [(0, _), (3, _), (6, _)]) ⟨rfl, rfl, rfl, trivial⟩ (.k (.k (.k (.d .z)))) ?_
  refine St.cond _ rfl (fun hb1 => ?_) (fun hb1 => ?_)
  · replace h := bif_t hb1 h
    refine St.seq ?_
    refine St.region ?_
    refine St.p rfl rfl ?_
    obtain ⟨r2, hr2, h⟩ := bnd_e h
    refine St.call (c_made_Dice_Next hr2) ent22 rfl rfl rfl (fun _ w => Sat.dup (G := [.ro (SlL ei64 A2 c2 r1.1.L)]) rfl ⟨(.tail _ (.head _)), trivial⟩ (w.front (.s .z))) ?_
    rintro _ _ ⟨A3, c3, rfl, rfl⟩
    refine St.asrt (F' := .ro (SlL ei64 A3 c3 r2.1.L) :: .res (Box gb1 73 [.slice A3 r2.1.L.length c3, .int .i64 r2.1.At]) :: .ro (SlL ei64 A2 c2 r1.1.L) :: .res (OwnL eu8 97 (some ⟨g1, 0, none⟩) ([0, 1, 127, 128, 254, 255, 15, 240] : List Int).length ([0, 1, 127, 128, 254, 255, 15, 240])) :: R) (fun _ w => w) ?_
    obtain ⟨x1, hx1, h⟩ := bnd_e h
    refine St.ixA (sz := 1) hx1 rfl rfl rfl rfl rfl rfl rfl rfl ?_
    refine St.ldO 0 hx1 rfl rfl (.tail _ (.tail _ (.tail _ (.head _)))) rfl rfl ?_
    refine St.p rfl rfl ?_
    refine St.done ?_
    refine St.thenN ?_
    refine St.prune (Γ' := [(2, _)]) ⟨rfl, trivial⟩ (.k (.k (.d (.d .z)))) ?_
    refine St.ret ?_
    repeat (first | refine St.thenR ?_ | refine St.blkR ?_)
    injection h with h
    subst h
    exact St.finR Try.results44 (.tmp rfl .nil) rfl [.ro (SlL ei64 A3 c3 r2.1.L), .res (Box gb1 73 [.slice A3 r2.1.L.length c3, .int .i64 r2.1.At])] ⟨A3, c3, rfl, rfl⟩ (fun _ w => ((.k (.k (.d .z))) : Keep _ _).sat (Sat.dup (G := [.ro (SlL ei64 A3 c3 r2.1.L)]) rfl ⟨(.tail _ (.head _)), trivial⟩ (w.front (.s .z))))
  · replace h := bif_f hb1 h
    refine St.skip ?_
    refine St.thenN ?_
    refine St.prune (Γ' := [(0, _)]) ⟨rfl, trivial⟩ (.k (.k (.d .z))) ?_
    refine St.seq ?_
    refine St.region ?_
    refine St.p rfl rfl ?_
    obtain ⟨r3, hr3, h⟩ := bnd_e h
    refine St.call (c_made_Dice_Next hr3) ent22 rfl rfl rfl (fun _ w => Sat.dup (G := [.ro (SlL ei64 A2 c2 r1.1.L)]) rfl ⟨(.tail _ (.head _)), trivial⟩ (w.front (.s .z))) ?_
    rintro _ _ ⟨A4, c4, rfl, rfl⟩
    refine St.asrt (F' := .ro (SlL ei64 A4 c4 r3.1.L) :: .res (Box gb1 73 [.slice A4 r3.1.L.length c4, .int .i64 r3.1.At]) :: .ro (SlL ei64 A2 c2 r1.1.L) :: R) (fun _ w => w) ?_
    refine St.p rfl rfl ?_
    refine St.p rfl rfl ?_
    refine St.done ?_
    refine St.thenN ?_
    refine St.prune (Γ' := [(2, _)]) ⟨rfl, trivial⟩ (.k (.k (.d .z))) ?_
    refine St.ret ?_
    repeat (first | refine St.thenR ?_ | refine St.blkR ?_)
    injection h with h
    subst h
    exact St.finR Try.results44 (.tmp rfl .nil) rfl [.ro (SlL ei64 A4 c4 r3.1.L), .res (Box gb1 73 [.slice A4 r3.1.L.length c4, .int .i64 r3.1.At])] ⟨A4, c4, rfl, rfl⟩ (fun _ w => ((.k (.k (.d .z))) : Keep _ _).sat (Sat.dup (G := [.ro (SlL ei64 A4 c4 r3.1.L)]) rfl ⟨(.tail _ (.head _)), trivial⟩ (w.front (.s .z))))

theorem ent29 : Ent Try.prog 29 := ⟨_, Try.func29, by kernel_rfl, by kernel_rfl⟩

noncomputable def m_made_Dice_Bytes (d_p0 : T_Dice) (n_p1 : Int) : Option (T_Dice × (List Int)) :=
  bnd (m_made_Dice_Next d_p0 (IntKind.wrap .i64 (n_p1 + 1))) fun r1 => bnd (loopM (τ := List Int × List Int × Int) (fun (s1 : List Int × Int × List Int × Int) => bif decide (s1.2.1 > 0) then (bnd (m_made_Dice_Byte (⟨s1.2.2.1, s1.2.2.2⟩ : T_Dice)) fun r2 => bnd (app 1 s1.1 ([r2.2])) fun l1 => some (.next (l1, IntKind.wrap .i64 (s1.2.1 - 1), r2.1.L, r2.1.At))) else (some (.done (s1.1, s1.2.2.1, s1.2.2.2)))) ([], r1.2, r1.1.L, r1.1.At)) fun o1 => some ((⟨o1.2.1, o1.2.2⟩ : T_Dice), o1.1)

theorem c_made_Dice_Bytes {d_p0 : T_Dice} {n_p1 : Int} {A1 : Option Addr} {c1 : Nat} {gb1 : Nat} {r : (T_Dice × (List Int))} (h : m_made_Dice_Bytes d_p0 n_p1 = some r) :
    Fun Try.prog 29 [.pointer (some ⟨gb1, 0, none⟩), .int .i64 n_p1] [.ro (SlL ei64 A1 c1 d_p0.L), .res (Box gb1 73 [.slice A1 d_p0.L.length c1, .int .i64 d_p0.At])] (fun v_ F_ => ∃ (A1 : Option Addr) (c1 : Nat) (A2 : Option Addr) (c2 : Nat), v_ = .slice A2 r.2.length c2 ∧ F_ = [.ro (SlL ei64 A1 c1 r.1.L), .res (Box gb1 73 [.slice A1 r.1.L.length c1, .int .i64 r.1.At]), .res (OwnL eu8 5 A2 c2 r.2)]) := by
  unfold m_made_Dice_Bytes at h
  refine Fun.intro Try.func29 rfl rfl rfl fun w R => ?_
  refine St.seq ?_
  refine St.region ?_
  refine St.p rfl rfl ?_
  refine St.done ?_
  refine St.thenN ?_
  refine St.prune (Γ' := [(0, _), (1, _)]) ⟨rfl, rfl, trivial⟩ (.k (.k .z)) ?_
  refine St.seq ?_
  refine St.region ?_
  refine St.p rfl rfl ?_
  refine St.done ?_
  refine St.thenN ?_
  refine St.seq ?_
  refine St.seq ?_
  refine St.region ?_
  iterate 3 refine St.p rfl rfl ?_
  obtain ⟨r1, hr1, h⟩ := bnd_e h
  refine St.call (c_made_Dice_Next hr1) ent22 rfl rfl rfl (fun _ w => Sat.dup (G := [.ro (SlL ei64 A1 c1 d_p0.L)]) rfl ⟨(.tail _ (.head _)), trivial⟩ (w.front (.s .z))) ?_
  rintro _ _ ⟨A2, c2, rfl, rfl⟩
  refine St.asrt (F' := .ro (SlL ei64 A2 c2 r1.1.L) :: .res (Box gb1 73 [.slice A2 r1.1.L.length c2, .int .i64 r1.1.At]) :: .ro (SlL ei64 A1 c1 d_p0.L) :: R) (fun _ w => w) ?_
  refine St.p rfl rfl ?_
  refine St.done ?_
  refine St.thenN ?_
  refine St.prune (Γ' := [(0, _), (5, _), (6, _)]) ⟨rfl, rfl, rfl, trivial⟩ (.k (.k (.d .z))) ?_
  refine St.asrt (fun _ w => w.nilL eu8 5) ?_
  obtain ⟨o1, hl1, h⟩ := bnd_e h
  refine St.cutE (fun (e2 : Option Addr × Nat × Option Addr × Nat) => [(5, .slice e2.1 o1.1.length e2.2.1)]) (fun e2 => .ro (SlL ei64 e2.2.2.1 e2.2.2.2 o1.2.1) :: .res (OwnL eu8 5 e2.1 e2.2.1 o1.1) :: .res (Box gb1 73 [.slice e2.2.2.1 o1.2.1.length e2.2.2.2, .int .i64 o1.2.2]) :: R) ?_ ?_
  · refine St.block ?_
    refine St.loop hl1 (fun (s1 : List Int × Int × List Int × Int) (e1 : Option Addr × Nat × Option Addr × Nat) => [(0, .pointer (some ⟨gb1, 0, none⟩)), (5, .slice e1.1 s1.1.length e1.2.1), (6, .int .i64 s1.2.1)]) (fun s1 e1 => .ro (SlL ei64 e1.2.2.1 e1.2.2.2 s1.2.2.1) :: .res (OwnL eu8 5 e1.1 e1.2.1 s1.1) :: .res (Box gb1 73 [.slice e1.2.2.1 s1.2.2.1.length e1.2.2.2, .int .i64 s1.2.2.2]) :: R) (fun _ _ => True) (none, 0, A2, c2) trivial ⟨rfl, rfl, rfl, trivial⟩ (fun _ w => ((.k (.k (.k .z))) : Keep _ _).sat (((w.front (.s (.s .z))).front (.s .z)).front (.s (.s .z)))) ?_
    rintro s1 ⟨A3, c3, A4, c4⟩ - hit1
    obtain ⟨st1, hm1, hd1⟩ := iter_e hit1
    have h1 := hm1
    refine St.seq ?_
    refine St.seq ?_
    refine St.region ?_
    refine St.p rfl rfl ?_
    refine St.p rfl rfl ?_
    refine St.done ?_
    refine St.thenN ?_
    refine St.prune (Γ' := [(0, _), (5, _), (6, _), (12, _)]) ⟨rfl, rfl, rfl, rfl, trivial⟩ (.k (.k (.k .z))) ?_
    refine St.cond _ rfl (fun hb1 => ?_) (fun hb1 => ?_)
    · replace h1 := bif_t hb1 h1
      refine St.skip ?_
      refine St.thenN ?_
      refine St.prune (Γ' := [(0, _), (5, _), (6, _)]) ⟨rfl, rfl, rfl, trivial⟩ (.k (.k (.k .z))) ?_
      refine St.seq ?_
      refine St.block ?_
      refine St.region ?_
      refine St.p rfl rfl ?_
      refine St.p rfl rfl ?_
      obtain ⟨r2, hr2, h1⟩ := bnd_e h1
      refine St.call (c_made_Dice_Byte hr2) ent44 rfl rfl rfl (fun _ w => Sat.dup (G := [.ro (SlL ei64 A4 c4 s1.2.2.1)]) rfl ⟨(.tail _ (.head _)), trivial⟩ (w.front (.s (.s .z)))) ?_
      rintro _ _ ⟨A7, c7, rfl, rfl⟩
      refine St.asrt (F' := .ro (SlL ei64 A7 c7 r2.1.L) :: .res (Box gb1 73 [.slice A7 r2.1.L.length c7, .int .i64 r2.1.At]) :: .ro (SlL ei64 A4 c4 s1.2.2.1) :: .res (OwnL eu8 5 A3 c3 s1.1) :: R) (fun _ w => w) ?_
      refine St.buildSlice rfl rfl rfl rfl rfl rfl rfl rfl fun g1 => ?_
      obtain ⟨l1, hl1, h1⟩ := bnd_e h1
      refine St.app (E := eu8) hl1 rfl rfl rfl (.s (.s (.s (.s .z)))) rfl rfl rfl rfl rfl rfl rfl rfl (srcB (.head _) rfl rfl) fun A8 c8 => ?_
      refine St.p rfl rfl ?_
      refine St.done ?_
      refine St.blkN ?_
      refine St.thenN ?_
      refine St.prune (Γ' := [(0, _), (5, _), (6, _)]) ⟨rfl, rfl, rfl, trivial⟩ (.k (.d (.k (.k (.d .z))))) ?_
      refine St.region ?_
      iterate 3 refine St.p rfl rfl ?_
      refine St.done ?_
      injection h1 with h1
      subst h1
      refine St.thenN ?_
      exact St.again _ (A8, c8, A7, c7) hm1 trivial ⟨rfl, rfl, rfl, trivial⟩ (fun _ w => ((.k (.k (.k .z))) : Keep _ _).sat (((w.front (.s (.s .z))).front (.s .z)).front (.s (.s .z))))
    · replace h1 := bif_f hb1 h1
      refine St.exit ?_
      repeat (first | refine St.thenX ?_ | refine St.blkMiss rfl ?_)
      refine St.blkHit ?_
      injection h1 with h1
      subst h1
      have ho := hd1 _ rfl
      subst ho
      refine St.thenN ?_
      exact St.hereE (A3, c3, A4, c4) ⟨rfl, trivial⟩ (fun _ w => ((.k (.k (.k .z))) : Keep _ _).sat w)
  · rintro ⟨A5, c5, A6, c6⟩
    refine St.seq ?_
    refine St.region ?_
    refine St.p rfl rfl ?_
    refine St.p rfl rfl ?_
    refine St.done ?_
    refine St.thenN ?_
    refine St.prune (Γ' := [(4, _)]) ⟨rfl, trivial⟩ (.k (.k (.k .z))) ?_
    refine St.ret ?_
    repeat (first | refine St.thenR ?_ | refine St.blkR ?_)
    injection h with h
    subst h
    exact St.finR Try.results29 (.tmp rfl .nil) rfl [.ro (SlL ei64 A6 c6 o1.2.1), .res (Box gb1 73 [.slice A6 o1.2.1.length c6, .int .i64 o1.2.2]), .res (OwnL eu8 5 A5 c5 o1.1)] ⟨A6, c6, A5, c5, rfl, rfl⟩ (fun _ w => ((.k (.k (.k (.d .z)))) : Keep _ _).sat (Sat.dup (G := [.ro (SlL ei64 A6 c6 o1.2.1)]) rfl ⟨(.tail _ (.tail _ (.head _))), trivial⟩ ((w.front (.s .z)).front (.s (.s .z)))))

theorem ent46 : Ent Try.prog 46 := ⟨_, Try.func46, by kernel_rfl, by kernel_rfl⟩

noncomputable def m_ref01_Same (a_p0 : (List Int)) (b_p1 : (List Int)) : Option Bool :=
  bif ((a_p0.length : Int) != (b_p1.length : Int)) then (some false) else (bnd (loopM (τ := Bool ⊕ Unit) (fun (s1 : Int) => bif decide (s1 < (a_p0.length : Int)) then (bnd (elt a_p0 s1) fun x1 => bnd (elt b_p1 s1) fun x2 => bif (x1 != x2) then (some (.done (.inl false))) else (some (.next (IntKind.wrap .i64 (s1 + 1))))) else (some (.done (.inr ())))) 0) fun o1 => retOr o1 fun o2 => some true)

theorem c_ref01_Same {a_p0 : (List Int)} {b_p1 : (List Int)} {A1 : Option Addr} {c1 : Nat} {A2 : Option Addr} {c2 : Nat} {r : Bool} (h : m_ref01_Same a_p0 b_p1 = some r) :
    Fun Try.prog 46 [.slice A1 a_p0.length c1, .slice A2 b_p1.length c2] [.ro (SlL eu8 A1 c1 a_p0), .ro (SlL eu8 A2 c2 b_p1)] (Val (.bool r)) := by
  unfold m_ref01_Same at h
  refine Fun.intro Try.func46 rfl rfl rfl fun w R => ?_
  refine St.seq ?_
  refine St.region ?_
  refine St.p rfl rfl ?_
  refine St.done ?_
  refine St.thenN ?_
  refine St.prune (Γ' := [(0, _), (1, _)]) ⟨rfl, rfl, trivial⟩ (.k (.k .z)) ?_
  refine St.seq ?_
  refine St.seq ?_
  refine St.region ?_
  iterate 5 refine St.p rfl rfl ?_
  refine St.done ?_
  refine St.thenN ?_
  refine St.prune (Γ' := [(0, _), (1, _), (10, _)]) ⟨rfl, rfl, rfl, trivial⟩ (.k (.k .z)) ?_
  refine St.cond _ rfl (fun hb1 => ?_) (fun hb1 => ?_)
  · replace h := bif_t hb1 h
    refine St.seq ?_
    refine St.region ?_
    refine St.p rfl rfl ?_
    refine St.done ?_
    refine St.thenN ?_
    refine St.prune (Γ' := [(4, _)]) ⟨rfl, trivial⟩ (.d (.d .z)) ?_
    refine St.ret ?_
    repeat (first | refine St.thenR ?_ | refine St.blkR ?_)
    injection h with h
    subst h
    exact St.finR Try.results46 (.tmp rfl .nil) rfl [] ⟨rfl, rfl⟩ (fun _ w => (.z : Keep _ _).sat w)
  · replace h := bif_f hb1 h
    refine St.skip ?_
    refine St.thenN ?_
    refine St.prune (Γ' := [(0, _), (1, _)]) ⟨rfl, rfl, trivial⟩ (.k (.k .z)) ?_
    refine St.seq ?_
    refine St.seq ?_
    refine St.region ?_
    refine St.p rfl rfl ?_
    refine St.done ?_
    refine St.thenN ?_
    obtain ⟨o1, hl1, h⟩ := bnd_e h
    refine St.cutI (fun (o2 : Unit) (e2 : Unit) => []) (fun o2 e2 => R) (fun o2 => o1 = .inr o2) ?_ ?_
    · refine St.block ?_
      refine St.loop hl1 (fun (s1 : Int) (e1 : Unit) => [(0, .slice A1 a_p0.length c1), (1, .slice A2 b_p1.length c2), (5, .int .i64 s1)]) (fun s1 e1 => .ro (SlL eu8 A1 c1 a_p0) :: .ro (SlL eu8 A2 c2 b_p1) :: R) (fun _ _ => True) () trivial ⟨rfl, rfl, rfl, trivial⟩ (fun _ w => ((.k (.k .z)) : Keep _ _).sat w) ?_
      rintro s1 e1 - hit1
      obtain ⟨st1, hm1, hd1⟩ := iter_e hit1
      have h1 := hm1
      refine St.seq ?_
      refine St.seq ?_
      refine St.region ?_
      iterate 4 refine St.p rfl rfl ?_
      refine St.done ?_
      refine St.thenN ?_
      refine St.prune (Γ' := [(0, _), (1, _), (5, _), (14, _)]) ⟨rfl, rfl, rfl, rfl, trivial⟩ (.k (.k .z)) ?_
      refine St.cond _ rfl (fun hb2 => ?_) (fun hb2 => ?_)
      · replace h1 := bif_t hb2 h1
        refine St.skip ?_
        refine St.thenN ?_
        refine St.prune (Γ' := [(0, _), (1, _), (5, _)]) ⟨rfl, rfl, rfl, trivial⟩ (.k (.k .z)) ?_
        refine St.seq ?_
        refine St.block ?_
        refine St.seq ?_
        refine St.regionF mixed (by kernel_rfl) ?_
        refine St.p rfl rfl ?_
        refine St.p rfl rfl ?_
        obtain ⟨x1, hx1, h1⟩ := bnd_e h1
        refine St.ixL hx1 rfl rfl rfl (.head _) rfl rfl rfl rfl rfl fun b1 ob1 => ?_
        refine St.load ob1 0 rfl rfl (.head _) rfl rfl ?_
        refine St.p rfl rfl ?_
        refine St.p rfl rfl ?_
        obtain ⟨x2, hx2, h1⟩ := bnd_e h1
        refine St.ixL hx2 rfl rfl rfl (.tail _ (.tail _ (.head _))) rfl rfl rfl rfl rfl fun b2 ob2 => ?_
        refine St.load ob2 0 rfl rfl (.head _) rfl rfl ?_
        refine St.p rfl rfl ?_
        refine St.doneQ ?_
        refine St.thenN ?_
        refine St.prune (Γ' := [(0, _), (1, _), (5, _), (25, _)]) ⟨rfl, rfl, rfl, rfl, trivial⟩ (.d (.d (.k (.k .z)))) ?_
        refine St.cond _ rfl (fun hb3 => ?_) (fun hb3 => ?_)
        · replace h1 := bif_t hb3 h1
          refine St.seq ?_
          refine St.region ?_
          refine St.p rfl rfl ?_
          refine St.done ?_
          refine St.thenN ?_
          refine St.prune (Γ' := [(4, _)]) ⟨rfl, trivial⟩ (.d (.d .z)) ?_
          refine St.ret ?_
          repeat (first | refine St.thenR ?_ | refine St.blkR ?_)
          injection h1 with h1
          subst h1
          have ho := hd1 _ rfl
          subst ho
          have h : some _ = some _ := h
          injection h with h
          subst h
          exact St.finR Try.results46 (.tmp rfl .nil) rfl [] ⟨rfl, rfl⟩ (fun _ w => (.z : Keep _ _).sat w)
        · replace h1 := bif_f hb3 h1
          refine St.skip ?_
          refine St.blkN ?_
          refine St.thenN ?_
          refine St.prune (Γ' := [(0, _), (1, _), (5, _)]) ⟨rfl, rfl, rfl, trivial⟩ (.k (.k .z)) ?_
          refine St.region ?_
          iterate 3 refine St.p rfl rfl ?_
          refine St.done ?_
          injection h1 with h1
          subst h1
          refine St.thenN ?_
          exact St.again _ () hm1 trivial ⟨rfl, rfl, rfl, trivial⟩ (fun _ w => ((.k (.k .z)) : Keep _ _).sat w)
      · replace h1 := bif_f hb2 h1
        refine St.exit ?_
        repeat (first | refine St.thenX ?_ | refine St.blkMiss rfl ?_)
        refine St.blkHit ?_
        injection h1 with h1
        subst h1
        have ho := hd1 _ rfl
        subst ho
        refine St.thenN ?_
        exact St.hereI () () rfl trivial (fun _ w => ((.d (.d .z)) : Keep _ _).sat w)
    · rintro o2 e2 ho
      subst ho
      have h : _ = some _ := h
      refine St.seq ?_
      refine St.region ?_
      refine St.p rfl rfl ?_
      refine St.done ?_
      refine St.thenN ?_
      refine St.ret ?_
      repeat (first | refine St.thenR ?_ | refine St.blkR ?_)
      injection h with h
      subst h
      exact St.finR Try.results46 (.tmp rfl .nil) rfl [] ⟨rfl, rfl⟩ (fun _ w => (.z : Keep _ _).sat w)

theorem ent42 : Ent Try.prog 42 := ⟨_, Try.func42, by kernel_rfl, by kernel_rfl⟩

noncomputable def m_ref01_Little (v_p0 : Int) (n_p1 : Int) : Option (List Int) :=
  bnd (loopM (τ := List Int) (fun (s1 : Int × List Int × Int) => bif decide (s1.2.2 < n_p1) then (bnd (app 1 s1.2.1 ([IntKind.wrap .u8 (s1.1.tmod 256)])) fun l1 => some (.next (IntKind.wrap .u64 (s1.1.tdiv 256), l1, IntKind.wrap .i64 (s1.2.2 + 1)))) else (some (.done s1.2.1))) (v_p0, [], 0)) fun o1 => some o1

theorem c_ref01_Little {v_p0 : Int} {n_p1 : Int} {r : (List Int)} (h : m_ref01_Little v_p0 n_p1 = some r) :
    Fun Try.prog 42 [.int .u64 v_p0, .int .i64 n_p1] [] (fun v_ F_ => ∃ (A1 : Option Addr) (c1 : Nat), v_ = .slice A1 r.length c1 ∧ F_ = [.res (OwnL eu8 5 A1 c1 r)]) := by
  unfold m_ref01_Little at h
  refine Fun.intro Try.func42 rfl rfl rfl fun w R => ?_
  refine St.seq ?_
  refine St.region ?_
  refine St.p rfl rfl ?_
  refine St.done ?_
  refine St.thenN ?_
  refine St.prune (Γ' := [(0, _), (1, _)]) ⟨rfl, rfl, trivial⟩ .z ?_
  refine St.seq ?_
  refine St.region ?_
  refine St.p rfl rfl ?_
  refine St.done ?_
  refine St.thenN ?_
  refine St.seq ?_
  refine St.seq ?_
  refine St.region ?_
  refine St.p rfl rfl ?_
  refine St.done ?_
  refine St.thenN ?_
  refine St.asrt (fun _ w => w.nilL eu8 5) ?_
  obtain ⟨o1, hl1, h⟩ := bnd_e h
  refine St.cutE (fun (e2 : Option Addr × Nat) => [(5, .slice e2.1 o1.length e2.2)]) (fun e2 => .res (OwnL eu8 5 e2.1 e2.2 o1) :: R) ?_ ?_
  · refine St.block ?_
    refine St.loop hl1 (fun (s1 : Int × List Int × Int) (e1 : Option Addr × Nat) => [(0, .int .u64 s1.1), (1, .int .i64 n_p1), (5, .slice e1.1 s1.2.1.length e1.2), (6, .int .i64 s1.2.2)]) (fun s1 e1 => .res (OwnL eu8 5 e1.1 e1.2 s1.2.1) :: R) (fun _ _ => True) (none, 0) trivial ⟨rfl, rfl, rfl, rfl, trivial⟩ (fun _ w => ((.k .z) : Keep _ _).sat w) ?_
    rintro s1 ⟨A1, c1⟩ - hit1
    obtain ⟨st1, hm1, hd1⟩ := iter_e hit1
    have h1 := hm1
    refine St.seq ?_
    refine St.seq ?_
    refine St.region ?_
    iterate 3 refine St.p rfl rfl ?_
    refine St.done ?_
    refine St.thenN ?_
    refine St.prune (Γ' := [(0, _), (1, _), (5, _), (6, _), (9, _)]) ⟨rfl, rfl, rfl, rfl, rfl, trivial⟩ (.k .z) ?_
    refine St.cond _ rfl (fun hb1 => ?_) (fun hb1 => ?_)
    · replace h1 := bif_t hb1 h1
      refine St.skip ?_
      refine St.thenN ?_
      refine St.prune (Γ' := [(0, _), (1, _), (5, _), (6, _)]) ⟨rfl, rfl, rfl, rfl, trivial⟩ (.k .z) ?_
      refine St.seq ?_
      refine St.block ?_
      refine St.seq ?_
      refine St.region ?_
      iterate 4 refine St.p rfl rfl ?_
      refine St.buildSlice rfl rfl rfl rfl rfl rfl rfl rfl fun g1 => ?_
      obtain ⟨l1, hl1, h1⟩ := bnd_e h1
      refine St.app (E := eu8) hl1 rfl rfl rfl (.s .z) rfl rfl rfl rfl rfl rfl rfl rfl (srcB (.head _) rfl rfl) fun A3 c3 => ?_
      refine St.p rfl rfl ?_
      refine St.done ?_
      refine St.thenN ?_
      refine St.prune (Γ' := [(0, _), (1, _), (5, _), (6, _)]) ⟨rfl, rfl, rfl, rfl, trivial⟩ (.k (.d .z)) ?_
      refine St.region ?_
      iterate 3 refine St.p rfl rfl ?_
      refine St.done ?_
      refine St.blkN ?_
      refine St.thenN ?_
      refine St.prune (Γ' := [(0, _), (1, _), (5, _), (6, _)]) ⟨rfl, rfl, rfl, rfl, trivial⟩ (.k .z) ?_
      refine St.region ?_
      iterate 3 refine St.p rfl rfl ?_
      refine St.done ?_
      injection h1 with h1
      subst h1
      refine St.thenN ?_
      exact St.again _ (A3, c3) hm1 trivial ⟨rfl, rfl, rfl, rfl, trivial⟩ (fun _ w => ((.k .z) : Keep _ _).sat w)
    · replace h1 := bif_f hb1 h1
      refine St.exit ?_
      repeat (first | refine St.thenX ?_ | refine St.blkMiss rfl ?_)
      refine St.blkHit ?_
      injection h1 with h1
      subst h1
      have ho := hd1 _ rfl
      subst ho
      refine St.thenN ?_
      exact St.hereE (A1, c1) ⟨rfl, trivial⟩ (fun _ w => ((.k .z) : Keep _ _).sat w)
  · rintro ⟨A2, c2⟩
    refine St.seq ?_
    refine St.region ?_
    refine St.p rfl rfl ?_
    refine St.p rfl rfl ?_
    refine St.done ?_
    refine St.thenN ?_
    refine St.prune (Γ' := [(4, _)]) ⟨rfl, trivial⟩ (.k .z) ?_
    refine St.ret ?_
    repeat (first | refine St.thenR ?_ | refine St.blkR ?_)
    injection h with h
    subst h
    exact St.finR Try.results42 (.tmp rfl .nil) rfl [.res (OwnL eu8 5 A2 c2 o1)] ⟨A2, c2, rfl, rfl⟩ (fun _ w => ((.k .z) : Keep _ _).sat w)

theorem ent43 : Ent Try.prog 43 := ⟨_, Try.func43, by kernel_rfl, by kernel_rfl⟩

noncomputable def m_ref01_Copy (b_p0 : (List Int)) : Option (List Int) :=
  bnd (loopM (τ := List Int) (fun (s1 : List Int × Int) => bif decide (s1.2 < (b_p0.length : Int)) then (bnd (elt b_p0 s1.2) fun x1 => bnd (app 1 s1.1 ([x1])) fun l1 => some (.next (l1, IntKind.wrap .i64 (s1.2 + 1)))) else (some (.done s1.1))) ([], 0)) fun o1 => some o1

theorem c_ref01_Copy {b_p0 : (List Int)} {A1 : Option Addr} {c1 : Nat} {r : (List Int)} (h : m_ref01_Copy b_p0 = some r) :
    Fun Try.prog 43 [.slice A1 b_p0.length c1] [.ro (SlL eu8 A1 c1 b_p0)] (fun v_ F_ => ∃ (A1 : Option Addr) (c1 : Nat), v_ = .slice A1 r.length c1 ∧ F_ = [.res (OwnL eu8 5 A1 c1 r)]) := by
  unfold m_ref01_Copy at h
  refine Fun.intro Try.func43 rfl rfl rfl fun w R => ?_
  refine St.seq ?_
  refine St.region ?_
  refine St.p rfl rfl ?_
  refine St.done ?_
  refine St.thenN ?_
  refine St.prune (Γ' := [(0, _)]) ⟨rfl, trivial⟩ (.k .z) ?_
  refine St.seq ?_
  refine St.region ?_
  refine St.p rfl rfl ?_
  refine St.done ?_
  refine St.thenN ?_
  refine St.seq ?_
  refine St.seq ?_
  refine St.region ?_
  refine St.p rfl rfl ?_
  refine St.done ?_
  refine St.thenN ?_
  refine St.asrt (fun _ w => w.nilL eu8 5) ?_
  obtain ⟨o1, hl1, h⟩ := bnd_e h
  refine St.cutE (fun (e2 : Option Addr × Nat) => [(3, .slice e2.1 o1.length e2.2)]) (fun e2 => .res (OwnL eu8 5 e2.1 e2.2 o1) :: R) ?_ ?_
  · refine St.block ?_
    refine St.loop hl1 (fun (s1 : List Int × Int) (e1 : Option Addr × Nat) => [(0, .slice A1 b_p0.length c1), (3, .slice e1.1 s1.1.length e1.2), (4, .int .i64 s1.2)]) (fun s1 e1 => .res (OwnL eu8 5 e1.1 e1.2 s1.1) :: .ro (SlL eu8 A1 c1 b_p0) :: R) (fun _ _ => True) (none, 0) trivial ⟨rfl, rfl, rfl, trivial⟩ (fun _ w => ((.k (.k .z)) : Keep _ _).sat w) ?_
    rintro s1 ⟨A2, c2⟩ - hit1
    obtain ⟨st1, hm1, hd1⟩ := iter_e hit1
    have h1 := hm1
    refine St.seq ?_
    refine St.seq ?_
    refine St.region ?_
    iterate 4 refine St.p rfl rfl ?_
    refine St.done ?_
    refine St.thenN ?_
    refine St.prune (Γ' := [(0, _), (3, _), (4, _), (8, _)]) ⟨rfl, rfl, rfl, rfl, trivial⟩ (.k (.k .z)) ?_
    refine St.cond _ rfl (fun hb1 => ?_) (fun hb1 => ?_)
    · replace h1 := bif_t hb1 h1
      refine St.skip ?_
      refine St.thenN ?_
      refine St.prune (Γ' := [(0, _), (3, _), (4, _)]) ⟨rfl, rfl, rfl, trivial⟩ (.k (.k .z)) ?_
      refine St.seq ?_
      refine St.block ?_
      refine St.region ?_
      iterate 3 refine St.p rfl rfl ?_
      obtain ⟨x1, hx1, h1⟩ := bnd_e h1
      refine St.ixL hx1 rfl rfl rfl (.tail _ (.head _)) rfl rfl rfl rfl rfl fun b1 ob1 => ?_
      refine St.load ob1 0 rfl rfl (.head _) rfl rfl ?_
      refine St.buildSlice rfl rfl rfl rfl rfl rfl rfl rfl fun g1 => ?_
      obtain ⟨l1, hl1, h1⟩ := bnd_e h1
      refine St.app (E := eu8) hl1 rfl rfl rfl (.s (.s .z)) rfl rfl rfl rfl rfl rfl rfl rfl (srcB (.head _) rfl rfl) fun A4 c4 => ?_
      refine St.p rfl rfl ?_
      refine St.done ?_
      refine St.blkN ?_
      refine St.thenN ?_
      refine St.prune (Γ' := [(0, _), (3, _), (4, _)]) ⟨rfl, rfl, rfl, trivial⟩ (.k (.d (.d (.k .z)))) ?_
      refine St.region ?_
      iterate 3 refine St.p rfl rfl ?_
      refine St.done ?_
      injection h1 with h1
      subst h1
      refine St.thenN ?_
      exact St.again _ (A4, c4) hm1 trivial ⟨rfl, rfl, rfl, trivial⟩ (fun _ w => ((.k (.k .z)) : Keep _ _).sat w)
    · replace h1 := bif_f hb1 h1
      refine St.exit ?_
      repeat (first | refine St.thenX ?_ | refine St.blkMiss rfl ?_)
      refine St.blkHit ?_
      injection h1 with h1
      subst h1
      have ho := hd1 _ rfl
      subst ho
      refine St.thenN ?_
      exact St.hereE (A2, c2) ⟨rfl, trivial⟩ (fun _ w => ((.k (.d .z)) : Keep _ _).sat w)
  · rintro ⟨A3, c3⟩
    refine St.seq ?_
    refine St.region ?_
    refine St.p rfl rfl ?_
    refine St.p rfl rfl ?_
    refine St.done ?_
    refine St.thenN ?_
    refine St.prune (Γ' := [(2, _)]) ⟨rfl, trivial⟩ (.k .z) ?_
    refine St.ret ?_
    repeat (first | refine St.thenR ?_ | refine St.blkR ?_)
    injection h with h
    subst h
    exact St.finR Try.results43 (.tmp rfl .nil) rfl [.res (OwnL eu8 5 A3 c3 o1)] ⟨A3, c3, rfl, rfl⟩ (fun _ w => ((.k .z) : Keep _ _).sat w)

theorem ent47 : Ent Try.prog 47 := ⟨_, Try.func47, by kernel_rfl, by kernel_rfl⟩

noncomputable def m_ref01_Number (b_p0 : (List Int)) : Option Int :=
  bnd (loopM (τ := Int) (fun (s1 : Int × Int) => bif decide (s1.2 ≥ 0) then (bnd (elt b_p0 s1.2) fun x1 => some (.next (IntKind.wrap .u64 ((IntKind.wrap .u64 (256 * s1.1)) + (IntKind.wrap .u64 x1)), IntKind.wrap .i64 (s1.2 - 1)))) else (some (.done s1.1))) (0, IntKind.wrap .i64 ((b_p0.length : Int) - 1))) fun o1 => some o1

theorem c_ref01_Number {b_p0 : (List Int)} {A1 : Option Addr} {c1 : Nat} {r : Int} (h : m_ref01_Number b_p0 = some r) :
    Fun Try.prog 47 [.slice A1 b_p0.length c1] [.ro (SlL eu8 A1 c1 b_p0)] (Val (.int .u64 r)) := by
  unfold m_ref01_Number at h
  refine Fun.intro Try.func47 rfl rfl rfl fun w R => ?_
  refine St.seq ?_
  refine St.region ?_
  refine St.p rfl rfl ?_
  refine St.done ?_
  refine St.thenN ?_
  refine St.prune (Γ' := [(0, _)]) ⟨rfl, trivial⟩ (.k .z) ?_
  refine St.seq ?_
  refine St.region ?_
  refine St.p rfl rfl ?_
  refine St.done ?_
  refine St.thenN ?_
  refine St.seq ?_
  refine St.seq ?_
  refine St.region ?_
  iterate 4 refine St.p rfl rfl ?_
  refine St.done ?_
  refine St.thenN ?_
  refine St.prune (Γ' := [(0, _), (3, _), (4, _)]) ⟨rfl, rfl, rfl, trivial⟩ (.k .z) ?_
  obtain ⟨o1, hl1, h⟩ := bnd_e h
  refine St.cutE (fun (e2 : Unit) => [(3, .int .u64 o1)]) (fun e2 => R) ?_ ?_
  · refine St.block ?_
    refine St.loop hl1 (fun (s1 : Int × Int) (e1 : Unit) => [(0, .slice A1 b_p0.length c1), (3, .int .u64 s1.1), (4, .int .i64 s1.2)]) (fun s1 e1 => .ro (SlL eu8 A1 c1 b_p0) :: R) (fun _ _ => True) () trivial ⟨rfl, rfl, rfl, trivial⟩ (fun _ w => ((.k .z) : Keep _ _).sat w) ?_
    rintro s1 e1 - hit1
    obtain ⟨st1, hm1, hd1⟩ := iter_e hit1
    have h1 := hm1
    refine St.seq ?_
    refine St.seq ?_
    refine St.region ?_
    refine St.p rfl rfl ?_
    refine St.p rfl rfl ?_
    refine St.done ?_
    refine St.thenN ?_
    refine St.prune (Γ' := [(0, _), (3, _), (4, _), (9, _)]) ⟨rfl, rfl, rfl, rfl, trivial⟩ (.k .z) ?_
    refine St.cond _ rfl (fun hb1 => ?_) (fun hb1 => ?_)
    · replace h1 := bif_t hb1 h1
      refine St.skip ?_
      refine St.thenN ?_
      refine St.prune (Γ' := [(0, _), (3, _), (4, _)]) ⟨rfl, rfl, rfl, trivial⟩ (.k .z) ?_
      refine St.seq ?_
      refine St.block ?_
      refine St.region ?_
      iterate 4 refine St.p rfl rfl ?_
      obtain ⟨x1, hx1, h1⟩ := bnd_e h1
      refine St.ixL hx1 rfl rfl rfl (.head _) rfl rfl rfl rfl rfl fun b1 ob1 => ?_
      refine St.load ob1 0 rfl rfl (.head _) rfl rfl ?_
      iterate 3 refine St.p rfl rfl ?_
      refine St.done ?_
      refine St.blkN ?_
      refine St.thenN ?_
      refine St.prune (Γ' := [(0, _), (3, _), (4, _)]) ⟨rfl, rfl, rfl, trivial⟩ (.d (.k .z)) ?_
      refine St.region ?_
      iterate 3 refine St.p rfl rfl ?_
      refine St.done ?_
      injection h1 with h1
      subst h1
      refine St.thenN ?_
      exact St.again _ () hm1 trivial ⟨rfl, rfl, rfl, trivial⟩ (fun _ w => ((.k .z) : Keep _ _).sat w)
    · replace h1 := bif_f hb1 h1
      refine St.exit ?_
      repeat (first | refine St.thenX ?_ | refine St.blkMiss rfl ?_)
      refine St.blkHit ?_
      injection h1 with h1
      subst h1
      have ho := hd1 _ rfl
      subst ho
      refine St.thenN ?_
      exact St.hereE () ⟨rfl, trivial⟩ (fun _ w => ((.d .z) : Keep _ _).sat w)
  · rintro e2
    refine St.seq ?_
    refine St.region ?_
    refine St.p rfl rfl ?_
    refine St.p rfl rfl ?_
    refine St.done ?_
    refine St.thenN ?_
    refine St.prune (Γ' := [(2, _)]) ⟨rfl, trivial⟩ .z ?_
    refine St.ret ?_
    repeat (first | refine St.thenR ?_ | refine St.blkR ?_)
    injection h with h
    subst h
    exact St.finR Try.results47 (.tmp rfl .nil) rfl [] ⟨rfl, rfl⟩ (fun _ w => (.z : Keep _ _).sat w)

theorem ent34 : Ent Try.prog 34 := ⟨_, Try.func34, by kernel_rfl, by kernel_rfl⟩

noncomputable def m_ref19_Same (a_p0 : (List T_Known)) (b_p1 : (List T_Known)) : Option Bool :=
  bif ((a_p0.length : Int) != (b_p1.length : Int)) then (some false) else (bnd (loopM (τ := Bool ⊕ Unit) (fun (s1 : Int) => bif decide (s1 < (a_p0.length : Int)) then (bnd (elt a_p0 s1) fun x1 => bnd (elt b_p1 s1) fun x2 => bif !((x1.Slot == x2.Slot) && ((x1.Good == x2.Good) && ((x1.Serial.toList == x2.Serial.toList) && ((x1.Sum == x2.Sum) && true)))) then (some (.done (.inl false))) else (some (.next (IntKind.wrap .i64 (s1 + 1))))) else (some (.done (.inr ())))) 0) fun o1 => retOr o1 fun o2 => some true)

theorem c_ref19_Same {a_p0 : (List T_Known)} {b_p1 : (List T_Known)} {A1 : Option Addr} {c1 : Nat} {A2 : Option Addr} {c2 : Nat} {r : Bool} (h : m_ref19_Same a_p0 b_p1 = some r) :
    Fun Try.prog 34 [.slice A1 a_p0.length c1, .slice A2 b_p1.length c2] [.ro (SlL e_Known A1 c1 a_p0), .ro (SlL e_Known A2 c2 b_p1)] (Val (.bool r)) := by
  unfold m_ref19_Same at h
  refine Fun.intro Try.func34 rfl rfl rfl fun w R => ?_
  refine St.seq ?_
  refine St.region ?_
  refine St.p rfl rfl ?_
  refine St.done ?_
  refine St.thenN ?_
  refine St.prune (Γ' := [(0, _), (1, _)]) ⟨rfl, rfl, trivial⟩ (.k (.k .z)) ?_
  refine St.seq ?_
  refine St.seq ?_
  refine St.region ?_
  iterate 5 refine St.p rfl rfl ?_
  refine St.done ?_
  refine St.thenN ?_
  refine St.prune (Γ' := [(0, _), (1, _), (10, _)]) ⟨rfl, rfl, rfl, trivial⟩ (.k (.k .z)) ?_
  refine St.cond _ rfl (fun hb1 => ?_) (fun hb1 => ?_)
  · replace h := bif_t hb1 h
    refine St.seq ?_
    refine St.region ?_
    refine St.p rfl rfl ?_
    refine St.done ?_
    refine St.thenN ?_
    refine St.prune (Γ' := [(4, _)]) ⟨rfl, trivial⟩ (.d (.d .z)) ?_
    refine St.ret ?_
    repeat (first | refine St.thenR ?_ | refine St.blkR ?_)
    injection h with h
    subst h
    exact St.finR Try.results34 (.tmp rfl .nil) rfl [] ⟨rfl, rfl⟩ (fun _ w => (.z : Keep _ _).sat w)
  · replace h := bif_f hb1 h
    refine St.skip ?_
    refine St.thenN ?_
    refine St.prune (Γ' := [(0, _), (1, _)]) ⟨rfl, rfl, trivial⟩ (.k (.k .z)) ?_
    refine St.seq ?_
    refine St.seq ?_
    refine St.region ?_
    refine St.p rfl rfl ?_
    refine St.done ?_
    refine St.thenN ?_
    obtain ⟨o1, hl1, h⟩ := bnd_e h
    refine St.cutI (fun (o2 : Unit) (e2 : Unit) => []) (fun o2 e2 => R) (fun o2 => o1 = .inr o2) ?_ ?_
    · refine St.block ?_
      refine St.loop hl1 (fun (s1 : Int) (e1 : Unit) => [(0, .slice A1 a_p0.length c1), (1, .slice A2 b_p1.length c2), (5, .int .i64 s1)]) (fun s1 e1 => .ro (SlL e_Known A1 c1 a_p0) :: .ro (SlL e_Known A2 c2 b_p1) :: R) (fun _ _ => True) () trivial ⟨rfl, rfl, rfl, trivial⟩ (fun _ w => ((.k (.k .z)) : Keep _ _).sat w) ?_
      rintro s1 e1 - hit1
      obtain ⟨st1, hm1, hd1⟩ := iter_e hit1
      have h1 := hm1
      refine St.seq ?_
      refine St.seq ?_
      refine St.region ?_
      iterate 4 refine St.p rfl rfl ?_
      refine St.done ?_
      refine St.thenN ?_
      refine St.prune (Γ' := [(0, _), (1, _), (5, _), (14, _)]) ⟨rfl, rfl, rfl, rfl, trivial⟩ (.k (.k .z)) ?_
      refine St.cond _ rfl (fun hb2 => ?_) (fun hb2 => ?_)
      · replace h1 := bif_t hb2 h1
        refine St.skip ?_
        refine St.thenN ?_
        refine St.prune (Γ' := [(0, _), (1, _), (5, _)]) ⟨rfl, rfl, rfl, trivial⟩ (.k (.k .z)) ?_
        refine St.seq ?_
        refine St.block ?_
        refine St.seq ?_
        refine St.regionF mixed (by kernel_rfl) ?_
        refine St.p rfl rfl ?_
        refine St.p rfl rfl ?_
        obtain ⟨x1, hx1, h1⟩ := bnd_e h1
        refine St.ixL hx1 rfl rfl rfl (.head _) rfl rfl rfl rfl rfl fun b1 ob1 => ?_
        refine St.load ob1 0 rfl rfl (.head _) rfl rfl ?_
        refine St.p rfl rfl ?_
        refine St.p rfl rfl ?_
        obtain ⟨x2, hx2, h1⟩ := bnd_e h1
        refine St.ixL hx2 rfl rfl rfl (.tail _ (.tail _ (.head _))) rfl rfl rfl rfl rfl fun b2 ob2 => ?_
        refine St.load ob2 0 rfl rfl (.head _) rfl rfl ?_
        refine St.p rfl rfl ?_
        refine St.doneQ ?_
        refine St.thenN ?_
        refine St.prune (Γ' := [(0, _), (1, _), (5, _), (25, _)]) ⟨rfl, rfl, rfl, rfl, trivial⟩ (.d (.d (.k (.k .z)))) ?_
        refine St.cond _ rfl (fun hb3 => ?_) (fun hb3 => ?_)
        · replace h1 := bif_t hb3 h1
          refine St.seq ?_
          refine St.region ?_
          refine St.p rfl rfl ?_
          refine St.done ?_
          refine St.thenN ?_
          refine St.prune (Γ' := [(4, _)]) ⟨rfl, trivial⟩ (.d (.d .z)) ?_
          refine St.ret ?_
          repeat (first | refine St.thenR ?_ | refine St.blkR ?_)
          injection h1 with h1
          subst h1
          have ho := hd1 _ rfl
          subst ho
          have h : some _ = some _ := h
          injection h with h
          subst h
          exact St.finR Try.results34 (.tmp rfl .nil) rfl [] ⟨rfl, rfl⟩ (fun _ w => (.z : Keep _ _).sat w)
        · replace h1 := bif_f hb3 h1
          refine St.skip ?_
          refine St.blkN ?_
          refine St.thenN ?_
          refine St.prune (Γ' := [(0, _), (1, _), (5, _)]) ⟨rfl, rfl, rfl, trivial⟩ (.k (.k .z)) ?_
          refine St.region ?_
          iterate 3 refine St.p rfl rfl ?_
          refine St.done ?_
          injection h1 with h1
          subst h1
          refine St.thenN ?_
          exact St.again _ () hm1 trivial ⟨rfl, rfl, rfl, trivial⟩ (fun _ w => ((.k (.k .z)) : Keep _ _).sat w)
      · replace h1 := bif_f hb2 h1
        refine St.exit ?_
        repeat (first | refine St.thenX ?_ | refine St.blkMiss rfl ?_)
        refine St.blkHit ?_
        injection h1 with h1
        subst h1
        have ho := hd1 _ rfl
        subst ho
        refine St.thenN ?_
        exact St.hereI () () rfl trivial (fun _ w => ((.d (.d .z)) : Keep _ _).sat w)
    · rintro o2 e2 ho
      subst ho
      have h : _ = some _ := h
      refine St.seq ?_
      refine St.region ?_
      refine St.p rfl rfl ?_
      refine St.done ?_
      refine St.thenN ?_
      refine St.ret ?_
      repeat (first | refine St.thenR ?_ | refine St.blkR ?_)
      injection h with h
      subst h
      exact St.finR Try.results34 (.tmp rfl .nil) rfl [] ⟨rfl, rfl⟩ (fun _ w => (.z : Keep _ _).sat w)

end Go.Proofs.Ytnolaefjmjgfbaa
