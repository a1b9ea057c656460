/-
  Models of functions of the program, and that the functions compute them.
  Conditions: none.
-/
import Derived.Test.YtcjhemblnemhfaaGen
namespace Go.Proofs.Ytcjhemblnemhfaa
open Go
set_option linter.unusedVariables false

theorem ent4 : Ent Try.prog 4 := ⟨_, Try.func4, by kernel_rfl, by kernel_rfl⟩

noncomputable def m_law29_BankErases (codes : (List Int)) : Option Bool :=
  bnd (m_law29_awake) fun r1 => bif !r1 then (some false) else (bnd (m_field_New codes 100) fun r2 => bnd (m_field_Codes_Device r2 (⟨#[112, 115, 117]⟩)) fun r3 => bnd (m_bank_Erase r3.2) fun r4 => bnd ((bif r3.2.Trial then (some true) else (some (r3.2.Running != r3.2.Active)) : Option Bool)) fun o1 => bif o1 then (some (r4.2 == 46)) else (bnd (m_bank_Switch r4.1) fun r5 => bnd ((bif (r4.2 == 0) then (bif (r5.2 == 46) then (bnd (elt [r4.1.Slots.e0, r4.1.Slots.e1] (IntKind.wrap .i64 (1 - r3.2.Running))) fun x1 => bif ((x1.Image.Data.length : Int) == 0) then (bif (x1.Sum == 0) then (bif (x1.Image.Name.toList == ((⟨#[]⟩) : ByteArray).toList) then (bnd (elt [r4.1.Slots.e0, r4.1.Slots.e1] r3.2.Running) fun x2 => bnd (elt [r3.2.Slots.e0, r3.2.Slots.e1] r3.2.Running) fun x3 => bif (x2.Sum == x3.Sum) then (bnd (m_ref28_SameImage x2.Image x3.Image) fun r6 => some r6) else (some false)) else (some false)) else (some false)) else (some false)) else (some false)) else (some false) : Option Bool)) fun o2 => some o2))

set_option maxHeartbeats 4000000 in
theorem c_law29_BankErases {codes : (List Int)} {A1 : Option Addr} {c1 : Nat} {r : Bool} (h : m_law29_BankErases codes = some r) :
    Fun Try.prog 4 [.slice A1 codes.length c1] [.ro (SlL eu8 A1 c1 codes)] (Val (.bool r)) := by
  unfold m_law29_BankErases at h
  refine Fun.intro Try.func4 rfl rfl rfl fun w R => ?_
  refine St.seq ?_
  refine St.region ?_
  refine St.p rfl rfl ?_
  refine St.done ?_
  refine St.thenN ?_
  refine St.prune (Γ' := [(0, _)]) ⟨rfl, trivial⟩ (.k .z) ?_
  refine St.seq ?_
  refine St.seq ?_
  refine St.region ?_
  obtain ⟨r1, hr1, h⟩ := bnd_e h
  refine St.callV (c_law29_awake hr1) ent9 rfl rfl rfl rfl trivial ?_
  refine St.p rfl rfl ?_
  refine St.done ?_
  refine St.thenN ?_
  refine St.prune (Γ' := [(0, _), (10, _)]) ⟨rfl, rfl, trivial⟩ (.k .z) ?_
  refine St.cond _ rfl (fun hb1 => ?_) (fun hb1 => ?_)
  · replace h := bif_t hb1 h
    refine St.seq ?_
    refine St.region ?_
    refine St.p rfl rfl ?_
    refine St.done ?_
    refine St.thenN ?_
    refine St.prune (Γ' := [(2, _)]) ⟨rfl, trivial⟩ (.d .z) ?_
    refine St.ret ?_
    repeat (first | refine St.thenR ?_ | refine St.blkR ?_)
    injection h with h
    subst h
    exact St.finR Try.results4 (.tmp rfl .nil) rfl [] ⟨rfl, rfl⟩ (fun _ w => (.z : Keep _ _).sat w)
  · replace h := bif_f hb1 h
    refine St.skip ?_
    refine St.thenN ?_
    refine St.prune (Γ' := [(0, _)]) ⟨rfl, trivial⟩ (.k .z) ?_
    refine St.seq ?_
    refine St.region ?_
    refine St.p rfl rfl ?_
    obtain ⟨r2, hr2, h⟩ := bnd_e h
    refine St.call (c_field_New hr2) ent10 rfl rfl rfl (fun _ w => Sat.dup (G := [.ro (SlL eu8 A1 c1 codes)]) rfl ⟨(.head _), trivial⟩ w) ?_
    rintro _ _ ⟨g1, A2, c2, rfl, rfl⟩
    refine St.asrt (F' := .ro (SlL eu8 A2 c2 r2.L) :: .res (Box g1 63 [.slice A2 r2.L.length c2, .int .i64 r2.At]) :: .ro (SlL eu8 A1 c1 codes) :: R) (fun _ w => w) ?_
    obtain ⟨r3, hr3, h⟩ := bnd_e h
    refine St.call (c_field_Codes_Device hr3) ent18 rfl rfl rfl (fun _ w => Sat.dup (G := [.ro (SlL eu8 A2 c2 r2.L)]) rfl ⟨(.tail _ (.head _)), trivial⟩ (w.front (.s .z))) ?_
    rintro _ _ ⟨A3, c3, A4, c4, A5, c5, rfl, rfl⟩
    refine St.asrt (F' := .ro (SlL eu8 A3 c3 r3.1.L) :: .ro (SlL eu8 A4 c4 r3.2.Slots.e0.Image.Data) :: .ro (SlL eu8 A5 c5 r3.2.Slots.e1.Image.Data) :: .res (Box g1 63 [.slice A3 r3.1.L.length c3, .int .i64 r3.1.At]) :: .ro (SlL eu8 A2 c2 r2.L) :: .ro (SlL eu8 A1 c1 codes) :: R) (fun _ w => w) ?_
    refine St.alloc rfl rfl fun g2 => ?_
    refine St.store 0 rfl rfl rfl rfl rfl rfl .z rfl ?_
    refine St.done ?_
    refine St.thenN ?_
    refine St.prune (Γ' := [(3, _)]) ⟨rfl, trivial⟩ (.k (.d (.k (.k (.d (.d (.d .z))))))) ?_
    refine St.seq ?_
    refine St.region ?_
    refine St.loadB 0 rfl rfl (.head _) rfl rfl ?_
    obtain ⟨r4, hr4, h⟩ := bnd_e h
    refine St.call (c_bank_Erase hr4) ent19 rfl rfl rfl (fun _ w => Sat.dup (G := [.ro (SlL eu8 A4 c4 r3.2.Slots.e0.Image.Data), .ro (SlL eu8 A5 c5 r3.2.Slots.e1.Image.Data)]) rfl ⟨(.tail _ (.head _)), (.tail _ (.tail _ (.head _))), trivial⟩ w) ?_
    rintro _ _ ⟨A6, c6, A7, c7, rfl, rfl⟩
    refine St.asrt (F' := .ro (SlL eu8 A6 c6 r4.1.Slots.e0.Image.Data) :: .ro (SlL eu8 A7 c7 r4.1.Slots.e1.Image.Data) :: .res (Box g2 35 (bx_T_Device r3.2 A4 c4 A5 c5)) :: .ro (SlL eu8 A4 c4 r3.2.Slots.e0.Image.Data) :: .ro (SlL eu8 A5 c5 r3.2.Slots.e1.Image.Data) :: R) (fun _ w => w) ?_
    iterate 3 refine St.p rfl rfl ?_
    refine St.alloc rfl rfl fun g3 => ?_
    refine St.store 0 rfl rfl rfl rfl rfl rfl .z rfl ?_
    refine St.p rfl rfl ?_
    refine St.done ?_
    refine St.thenN ?_
    refine St.prune (Γ' := [(3, _), (4, _), (5, _)]) ⟨rfl, rfl, rfl, trivial⟩ (.k (.k (.k (.k (.k (.k .z)))))) ?_
    refine St.seq ?_
    refine St.seq ?_
    obtain ⟨o1, hj1, h⟩ := bnd_e h
    refine St.cutE (fun (e1 : Unit) => [(3, .pointer (some ⟨g2, 0, none⟩)), (4, .pointer (some ⟨g3, 0, none⟩)), (5, .int .i64 r4.2), (27, .bool o1)]) (fun e1 => .res (Box g3 35 (bx_T_Device r4.1 A6 c6 A7 c7)) :: .ro (SlL eu8 A6 c6 r4.1.Slots.e0.Image.Data) :: .ro (SlL eu8 A7 c7 r4.1.Slots.e1.Image.Data) :: .res (Box g2 35 (bx_T_Device r3.2 A4 c4 A5 c5)) :: .ro (SlL eu8 A4 c4 r3.2.Slots.e0.Image.Data) :: .ro (SlL eu8 A5 c5 r3.2.Slots.e1.Image.Data) :: R) ?_ ?_
    · refine St.region ?_
      refine St.p rfl rfl ?_
      refine St.loadB 15 rfl rfl (.tail _ (.tail _ (.tail _ (.head _)))) rfl rfl ?_
      refine St.p rfl rfl ?_
      refine St.gSplit (dj := 21) _ rfl (fun hb2 => ?_) (fun hb2 => ?_)
      · replace hj1 := bif_t hb2 hj1
        refine St.gOff (dj := 21) rfl rfl rfl rfl ?_
        refine St.gOff (dj := 21) rfl rfl rfl rfl ?_
        refine St.gOff (dj := 21) rfl rfl rfl rfl ?_
        refine St.gOff (dj := 21) rfl rfl rfl rfl ?_
        refine St.gOff (dj := 21) rfl rfl rfl rfl ?_
        refine St.p rfl rfl ?_
        refine St.done ?_
        injection hj1 with hj1
        subst hj1
        refine St.thenN ?_
        exact St.hereE () ⟨rfl, rfl, rfl, rfl, trivial⟩ (fun _ w => ((.k (.k (.k (.k (.k (.k .z)))))) : Keep _ _).sat w)
      · replace hj1 := bif_f hb2 hj1
        refine St.gOn (dj := 21) rfl rfl ?_
        refine St.p rfl rfl ?_
        refine St.gOn (dj := 21) rfl rfl ?_
        refine St.loadB 14 rfl rfl (.tail _ (.tail _ (.tail _ (.head _)))) rfl rfl ?_
        refine St.gOn (dj := 21) rfl rfl ?_
        refine St.p rfl rfl ?_
        refine St.gOn (dj := 21) rfl rfl ?_
        refine St.loadB 13 rfl rfl (.tail _ (.tail _ (.tail _ (.head _)))) rfl rfl ?_
        refine St.gOn (dj := 21) rfl rfl ?_
        refine St.p rfl rfl ?_
        refine St.p rfl rfl ?_
        refine St.done ?_
        injection hj1 with hj1
        subst hj1
        refine St.thenN ?_
        exact St.hereE () ⟨rfl, rfl, rfl, rfl, trivial⟩ (fun _ w => ((.k (.k (.k (.k (.k (.k .z)))))) : Keep _ _).sat w)
    · rintro e1
      refine St.cond _ rfl (fun hb3 => ?_) (fun hb3 => ?_)
      · replace h := bif_t hb3 h
        refine St.seq ?_
        refine St.region ?_
        iterate 3 refine St.p rfl rfl ?_
        refine St.done ?_
        refine St.thenN ?_
        refine St.prune (Γ' := [(2, _)]) ⟨rfl, trivial⟩ (.d (.d (.d (.d (.d (.d .z)))))) ?_
        refine St.ret ?_
        repeat (first | refine St.thenR ?_ | refine St.blkR ?_)
        injection h with h
        subst h
        exact St.finR Try.results4 (.tmp rfl .nil) rfl [] ⟨rfl, rfl⟩ (fun _ w => (.z : Keep _ _).sat w)
      · replace h := bif_f hb3 h
        refine St.skip ?_
        refine St.thenN ?_
        refine St.prune (Γ' := [(3, _), (4, _), (5, _)]) ⟨rfl, rfl, rfl, trivial⟩ (.k (.k (.k (.k (.k (.k .z)))))) ?_
        refine St.seq ?_
        refine St.region ?_
        refine St.p rfl rfl ?_
        refine St.loadB 14 rfl rfl (.tail _ (.tail _ (.tail _ (.head _)))) rfl rfl ?_
        refine St.p rfl rfl ?_
        refine St.p rfl rfl ?_
        refine St.done ?_
        refine St.thenN ?_
        refine St.prune (Γ' := [(3, _), (4, _), (5, _), (6, _)]) ⟨rfl, rfl, rfl, rfl, trivial⟩ (.k (.k (.k (.k (.k (.k .z)))))) ?_
        refine St.seq ?_
        refine St.region ?_
        refine St.loadB 0 rfl rfl (.head _) rfl rfl ?_
        obtain ⟨r5, hr5, h⟩ := bnd_e h
        refine St.call (c_bank_Switch hr5) ent14 rfl rfl rfl (fun _ w => Sat.dup (G := [.ro (SlL eu8 A6 c6 r4.1.Slots.e0.Image.Data), .ro (SlL eu8 A7 c7 r4.1.Slots.e1.Image.Data)]) rfl ⟨(.tail _ (.head _)), (.tail _ (.tail _ (.head _))), trivial⟩ w) ?_
        rintro _ _ ⟨A8, c8, A9, c9, rfl, rfl⟩
        refine St.asrt (F' := .ro (SlL eu8 A8 c8 r5.1.Slots.e0.Image.Data) :: .ro (SlL eu8 A9 c9 r5.1.Slots.e1.Image.Data) :: .res (Box g3 35 (bx_T_Device r4.1 A6 c6 A7 c7)) :: .ro (SlL eu8 A6 c6 r4.1.Slots.e0.Image.Data) :: .ro (SlL eu8 A7 c7 r4.1.Slots.e1.Image.Data) :: .res (Box g2 35 (bx_T_Device r3.2 A4 c4 A5 c5)) :: .ro (SlL eu8 A4 c4 r3.2.Slots.e0.Image.Data) :: .ro (SlL eu8 A5 c5 r3.2.Slots.e1.Image.Data) :: R) (fun _ w => w) ?_
        iterate 3 refine St.p rfl rfl ?_
        refine St.alloc rfl rfl fun g4 => ?_
        refine St.store 0 rfl rfl rfl rfl rfl rfl .z rfl ?_
        refine St.p rfl rfl ?_
        refine St.done ?_
        refine St.thenN ?_
        refine St.prune (Γ' := [(3, _), (4, _), (5, _), (6, _), (8, _)]) ⟨rfl, rfl, rfl, rfl, rfl, trivial⟩ (.d (.d (.d (.k (.k (.k (.k (.k (.k .z))))))))) ?_
        refine St.seq ?_
        obtain ⟨o2, hj2, h⟩ := bnd_e h
        refine St.cutE (fun (e2 : Unit) => [(2, .bool o2)]) (fun e2 => R) ?_ ?_
        · refine St.regionF mixed (by kernel_rfl) ?_
          iterate 3 refine St.p rfl rfl ?_
          refine St.gSplit (dj := 40) _ rfl (fun hb4 => ?_) (fun hb4 => ?_)
          · replace hj2 := bif_t hb4 hj2
            refine St.gOn (dj := 40) rfl rfl ?_
            refine St.p rfl rfl ?_
            refine St.gOn (dj := 40) rfl rfl ?_
            iterate 3 refine St.p rfl rfl ?_
            refine St.gSplit (dj := 44) _ rfl (fun hb5 => ?_) (fun hb5 => ?_)
            · replace hj2 := bif_t hb5 hj2
              refine St.gOn (dj := 44) rfl rfl ?_
              refine St.p rfl rfl ?_
              refine St.gOn (dj := 44) rfl rfl ?_
              refine St.p rfl rfl ?_
              refine St.gOn (dj := 44) rfl rfl ?_
              obtain ⟨x1, hx1, hj2⟩ := bnd_e hj2
              refine St.ixP (sz := 6) hx1 rfl rfl rfl rfl rfl rfl rfl rfl ?_
              refine St.gOn (dj := 44) rfl rfl ?_
              refine St.p rfl rfl ?_
              refine St.gOn (dj := 44) rfl rfl ?_
              refine St.p rfl rfl ?_
              refine St.gOn (dj := 44) rfl rfl ?_
              refine St.ldP (ls := l_T_Slot) 4 [.string r4.1.Name] [.int .i64 r4.1.Active, .int .i64 r4.1.Running, .bool r4.1.Trial] [(r4.1.Slots.e0, ((A6, c6), ())), (r4.1.Slots.e1, ((A7, c7), ()))] (fun ex => .slice ex.1.1 x1.Image.Data.length ex.1.2) hx1 rfl rfl (.head _) rfl rfl rfl ⟨(.tail _ (.head _)), (.tail _ (.tail _ (.head _))), trivial⟩ rfl (fun _ => rfl) fun ex1 => ?_
              obtain ⟨⟨A10, c10⟩, _⟩ := ex1
              refine St.asrt (F' := .ro (SlL eu8 A10 c10 x1.Image.Data) :: .res (Box g3 35 (bx_T_Device r4.1 A6 c6 A7 c7)) :: .ro (SlL eu8 A6 c6 r4.1.Slots.e0.Image.Data) :: .ro (SlL eu8 A7 c7 r4.1.Slots.e1.Image.Data) :: .res (Box g2 35 (bx_T_Device r3.2 A4 c4 A5 c5)) :: .ro (SlL eu8 A4 c4 r3.2.Slots.e0.Image.Data) :: .ro (SlL eu8 A5 c5 r3.2.Slots.e1.Image.Data) :: R) (fun _ w => w) ?_
              refine St.gOn (dj := 44) rfl rfl ?_
              refine St.p rfl rfl ?_
              refine St.gOn (dj := 44) rfl rfl ?_
              iterate 3 refine St.p rfl rfl ?_
              refine St.gSplit (dj := 54) _ rfl (fun hb6 => ?_) (fun hb6 => ?_)
              · replace hj2 := bif_t hb6 hj2
                refine St.gOn (dj := 54) rfl rfl ?_
                refine St.p rfl rfl ?_
                refine St.gOn (dj := 54) rfl rfl ?_
                refine St.p rfl rfl ?_
                refine St.gOn (dj := 54) rfl rfl ?_
                refine St.ixP (sz := 6) hx1 rfl rfl rfl rfl rfl rfl rfl rfl ?_
                refine St.gOn (dj := 54) rfl rfl ?_
                refine St.p rfl rfl ?_
                refine St.gOn (dj := 54) rfl rfl ?_
                refine St.ldP (ls := l_T_Slot) 5 [.string r4.1.Name] [.int .i64 r4.1.Active, .int .i64 r4.1.Running, .bool r4.1.Trial] [(r4.1.Slots.e0, ((A6, c6), ())), (r4.1.Slots.e1, ((A7, c7), ()))] (fun ex => .int .u32 x1.Sum) hx1 rfl rfl (.tail _ (.head _)) rfl rfl rfl ⟨(.tail _ (.tail _ (.head _))), (.tail _ (.tail _ (.tail _ (.head _)))), trivial⟩ rfl (fun _ => rfl) fun ex2 => ?_
                obtain ⟨⟨A11, c11⟩, _⟩ := ex2
                refine St.asrt (F' := .ro (SlL eu8 A11 c11 x1.Image.Data) :: .ro (SlL eu8 A10 c10 x1.Image.Data) :: .res (Box g3 35 (bx_T_Device r4.1 A6 c6 A7 c7)) :: .ro (SlL eu8 A6 c6 r4.1.Slots.e0.Image.Data) :: .ro (SlL eu8 A7 c7 r4.1.Slots.e1.Image.Data) :: .res (Box g2 35 (bx_T_Device r3.2 A4 c4 A5 c5)) :: .ro (SlL eu8 A4 c4 r3.2.Slots.e0.Image.Data) :: .ro (SlL eu8 A5 c5 r3.2.Slots.e1.Image.Data) :: R) (fun _ w => w) ?_
                refine St.gOn (dj := 54) rfl rfl ?_
                iterate 3 refine St.p rfl rfl ?_
                refine St.gSplit (dj := 62) _ rfl (fun hb7 => ?_) (fun hb7 => ?_)
                · replace hj2 := bif_t hb7 hj2
                  refine St.gOn (dj := 62) rfl rfl ?_
                  refine St.p rfl rfl ?_
                  refine St.gOn (dj := 62) rfl rfl ?_
                  refine St.p rfl rfl ?_
                  refine St.gOn (dj := 62) rfl rfl ?_
                  refine St.ixP (sz := 6) hx1 rfl rfl rfl rfl rfl rfl rfl rfl ?_
                  refine St.gOn (dj := 62) rfl rfl ?_
                  refine St.p rfl rfl ?_
                  refine St.gOn (dj := 62) rfl rfl ?_
                  refine St.p rfl rfl ?_
                  refine St.gOn (dj := 62) rfl rfl ?_
                  refine St.ldP (ls := l_T_Slot) 0 [.string r4.1.Name] [.int .i64 r4.1.Active, .int .i64 r4.1.Running, .bool r4.1.Trial] [(r4.1.Slots.e0, ((A6, c6), ())), (r4.1.Slots.e1, ((A7, c7), ()))] (fun ex => .string x1.Image.Name) hx1 rfl rfl (.tail _ (.tail _ (.head _))) rfl rfl rfl ⟨(.tail _ (.tail _ (.tail _ (.head _)))), (.tail _ (.tail _ (.tail _ (.tail _ (.head _))))), trivial⟩ rfl (fun _ => rfl) fun ex3 => ?_
                  obtain ⟨⟨A12, c12⟩, _⟩ := ex3
                  refine St.asrt (F' := .ro (SlL eu8 A12 c12 x1.Image.Data) :: .ro (SlL eu8 A11 c11 x1.Image.Data) :: .ro (SlL eu8 A10 c10 x1.Image.Data) :: .res (Box g3 35 (bx_T_Device r4.1 A6 c6 A7 c7)) :: .ro (SlL eu8 A6 c6 r4.1.Slots.e0.Image.Data) :: .ro (SlL eu8 A7 c7 r4.1.Slots.e1.Image.Data) :: .res (Box g2 35 (bx_T_Device r3.2 A4 c4 A5 c5)) :: .ro (SlL eu8 A4 c4 r3.2.Slots.e0.Image.Data) :: .ro (SlL eu8 A5 c5 r3.2.Slots.e1.Image.Data) :: R) (fun _ w => w) ?_
                  refine St.gOn (dj := 62) rfl rfl ?_
                  iterate 3 refine St.p rfl rfl ?_
                  refine St.gSplit (dj := 71) _ rfl (fun hb8 => ?_) (fun hb8 => ?_)
                  · replace hj2 := bif_t hb8 hj2
                    refine St.gOn (dj := 71) rfl rfl ?_
                    refine St.p rfl rfl ?_
                    refine St.gOn (dj := 71) rfl rfl ?_
                    refine St.loadB 14 rfl rfl (.tail _ (.tail _ (.tail _ (.tail _ (.tail _ (.tail _ (.head _))))))) rfl rfl ?_
                    refine St.gOn (dj := 71) rfl rfl ?_
                    refine St.p rfl rfl ?_
                    refine St.gOn (dj := 71) rfl rfl ?_
                    obtain ⟨x2, hx2, hj2⟩ := bnd_e hj2
                    refine St.ixP (sz := 6) hx2 rfl rfl rfl rfl rfl rfl rfl rfl ?_
                    refine St.gOn (dj := 71) rfl rfl ?_
                    refine St.p rfl rfl ?_
                    refine St.gOn (dj := 71) rfl rfl ?_
                    refine St.ldP (ls := l_T_Slot) 5 [.string r4.1.Name] [.int .i64 r4.1.Active, .int .i64 r4.1.Running, .bool r4.1.Trial] [(r4.1.Slots.e0, ((A6, c6), ())), (r4.1.Slots.e1, ((A7, c7), ()))] (fun ex => .int .u32 x2.Sum) hx2 rfl rfl (.tail _ (.tail _ (.tail _ (.head _)))) rfl rfl rfl ⟨(.tail _ (.tail _ (.tail _ (.tail _ (.head _))))), (.tail _ (.tail _ (.tail _ (.tail _ (.tail _ (.head _)))))), trivial⟩ rfl (fun _ => rfl) fun ex4 => ?_
                    obtain ⟨⟨A13, c13⟩, _⟩ := ex4
                    refine St.asrt (F' := .ro (SlL eu8 A13 c13 x2.Image.Data) :: .ro (SlL eu8 A12 c12 x1.Image.Data) :: .ro (SlL eu8 A11 c11 x1.Image.Data) :: .ro (SlL eu8 A10 c10 x1.Image.Data) :: .res (Box g3 35 (bx_T_Device r4.1 A6 c6 A7 c7)) :: .ro (SlL eu8 A6 c6 r4.1.Slots.e0.Image.Data) :: .ro (SlL eu8 A7 c7 r4.1.Slots.e1.Image.Data) :: .res (Box g2 35 (bx_T_Device r3.2 A4 c4 A5 c5)) :: .ro (SlL eu8 A4 c4 r3.2.Slots.e0.Image.Data) :: .ro (SlL eu8 A5 c5 r3.2.Slots.e1.Image.Data) :: R) (fun _ w => w) ?_
                    refine St.gOn (dj := 71) rfl rfl ?_
                    refine St.p rfl rfl ?_
                    refine St.gOn (dj := 71) rfl rfl ?_
                    refine St.loadB 14 rfl rfl (.tail _ (.tail _ (.tail _ (.tail _ (.tail _ (.tail _ (.tail _ (.head _)))))))) rfl rfl ?_
                    refine St.gOn (dj := 71) rfl rfl ?_
                    refine St.p rfl rfl ?_
                    refine St.gOn (dj := 71) rfl rfl ?_
                    obtain ⟨x3, hx3, hj2⟩ := bnd_e hj2
                    refine St.ixP (sz := 6) hx3 rfl rfl rfl rfl rfl rfl rfl rfl ?_
                    refine St.gOn (dj := 71) rfl rfl ?_
                    refine St.p rfl rfl ?_
                    refine St.gOn (dj := 71) rfl rfl ?_
                    refine St.ldP (ls := l_T_Slot) 5 [.string r3.2.Name] [.int .i64 r3.2.Active, .int .i64 r3.2.Running, .bool r3.2.Trial] [(r3.2.Slots.e0, ((A4, c4), ())), (r3.2.Slots.e1, ((A5, c5), ()))] (fun ex => .int .u32 x3.Sum) hx3 rfl rfl (.tail _ (.tail _ (.tail _ (.tail _ (.tail _ (.tail _ (.tail _ (.head _)))))))) rfl rfl rfl ⟨(.tail _ (.tail _ (.tail _ (.tail _ (.tail _ (.tail _ (.tail _ (.tail _ (.head _))))))))), (.tail _ (.tail _ (.tail _ (.tail _ (.tail _ (.tail _ (.tail _ (.tail _ (.tail _ (.head _)))))))))), trivial⟩ rfl (fun _ => rfl) fun ex5 => ?_
                    obtain ⟨⟨A14, c14⟩, _⟩ := ex5
                    refine St.asrt (F' := .ro (SlL eu8 A14 c14 x3.Image.Data) :: .ro (SlL eu8 A13 c13 x2.Image.Data) :: .ro (SlL eu8 A12 c12 x1.Image.Data) :: .ro (SlL eu8 A11 c11 x1.Image.Data) :: .ro (SlL eu8 A10 c10 x1.Image.Data) :: .res (Box g3 35 (bx_T_Device r4.1 A6 c6 A7 c7)) :: .ro (SlL eu8 A6 c6 r4.1.Slots.e0.Image.Data) :: .ro (SlL eu8 A7 c7 r4.1.Slots.e1.Image.Data) :: .res (Box g2 35 (bx_T_Device r3.2 A4 c4 A5 c5)) :: .ro (SlL eu8 A4 c4 r3.2.Slots.e0.Image.Data) :: .ro (SlL eu8 A5 c5 r3.2.Slots.e1.Image.Data) :: R) (fun _ w => w) ?_
                    refine St.gOn (dj := 71) rfl rfl ?_
                    iterate 3 refine St.p rfl rfl ?_
                    refine St.gSplit (dj := 86) _ rfl (fun hb9 => ?_) (fun hb9 => ?_)
                    · replace hj2 := bif_t hb9 hj2
                      refine St.gOn (dj := 86) rfl rfl ?_
                      refine St.p rfl rfl ?_
                      refine St.gOn (dj := 86) rfl rfl ?_
                      refine St.loadB 14 rfl rfl (.tail _ (.tail _ (.tail _ (.tail _ (.tail _ (.tail _ (.tail _ (.tail _ (.head _))))))))) rfl rfl ?_
                      refine St.gOn (dj := 86) rfl rfl ?_
                      refine St.p rfl rfl ?_
                      refine St.gOn (dj := 86) rfl rfl ?_
                      refine St.ixP (sz := 6) hx2 rfl rfl rfl rfl rfl rfl rfl rfl ?_
                      refine St.gOn (dj := 86) rfl rfl ?_
                      refine St.p rfl rfl ?_
                      refine St.gOn (dj := 86) rfl rfl ?_
                      refine St.ldP (ls := l_T_Slot) 0 [.string r4.1.Name] [.int .i64 r4.1.Active, .int .i64 r4.1.Running, .bool r4.1.Trial] [(r4.1.Slots.e0, ((A6, c6), ())), (r4.1.Slots.e1, ((A7, c7), ()))] (fun ex => .agg (bx_T_Image x2.Image ex.1.1 ex.1.2).toArray) hx2 rfl rfl (.tail _ (.tail _ (.tail _ (.tail _ (.tail _ (.head _)))))) rfl rfl rfl ⟨(.tail _ (.tail _ (.tail _ (.tail _ (.tail _ (.tail _ (.head _))))))), (.tail _ (.tail _ (.tail _ (.tail _ (.tail _ (.tail _ (.tail _ (.head _)))))))), trivial⟩ rfl (fun _ => rfl) fun ex6 => ?_
                      obtain ⟨⟨A15, c15⟩, _⟩ := ex6
                      refine St.asrt (F' := .ro (SlL eu8 A15 c15 x2.Image.Data) :: .ro (SlL eu8 A14 c14 x3.Image.Data) :: .ro (SlL eu8 A13 c13 x2.Image.Data) :: .ro (SlL eu8 A12 c12 x1.Image.Data) :: .ro (SlL eu8 A11 c11 x1.Image.Data) :: .ro (SlL eu8 A10 c10 x1.Image.Data) :: .res (Box g3 35 (bx_T_Device r4.1 A6 c6 A7 c7)) :: .ro (SlL eu8 A6 c6 r4.1.Slots.e0.Image.Data) :: .ro (SlL eu8 A7 c7 r4.1.Slots.e1.Image.Data) :: .res (Box g2 35 (bx_T_Device r3.2 A4 c4 A5 c5)) :: .ro (SlL eu8 A4 c4 r3.2.Slots.e0.Image.Data) :: .ro (SlL eu8 A5 c5 r3.2.Slots.e1.Image.Data) :: R) (fun _ w => w) ?_
                      refine St.gOn (dj := 86) rfl rfl ?_
                      refine St.p rfl rfl ?_
                      refine St.gOn (dj := 86) rfl rfl ?_
                      refine St.loadB 14 rfl rfl (.tail _ (.tail _ (.tail _ (.tail _ (.tail _ (.tail _ (.tail _ (.tail _ (.tail _ (.head _)))))))))) rfl rfl ?_
                      refine St.gOn (dj := 86) rfl rfl ?_
                      refine St.p rfl rfl ?_
                      refine St.gOn (dj := 86) rfl rfl ?_
                      refine St.ixP (sz := 6) hx3 rfl rfl rfl rfl rfl rfl rfl rfl ?_
                      refine St.gOn (dj := 86) rfl rfl ?_
                      refine St.p rfl rfl ?_
                      refine St.gOn (dj := 86) rfl rfl ?_
                      refine St.ldP (ls := l_T_Slot) 0 [.string r3.2.Name] [.int .i64 r3.2.Active, .int .i64 r3.2.Running, .bool r3.2.Trial] [(r3.2.Slots.e0, ((A4, c4), ())), (r3.2.Slots.e1, ((A5, c5), ()))] (fun ex => .agg (bx_T_Image x3.Image ex.1.1 ex.1.2).toArray) hx3 rfl rfl (.tail _ (.tail _ (.tail _ (.tail _ (.tail _ (.tail _ (.tail _ (.tail _ (.tail _ (.head _)))))))))) rfl rfl rfl ⟨(.tail _ (.tail _ (.tail _ (.tail _ (.tail _ (.tail _ (.tail _ (.tail _ (.tail _ (.tail _ (.head _))))))))))), (.tail _ (.tail _ (.tail _ (.tail _ (.tail _ (.tail _ (.tail _ (.tail _ (.tail _ (.tail _ (.tail _ (.head _)))))))))))), trivial⟩ rfl (fun _ => rfl) fun ex7 => ?_
                      obtain ⟨⟨A16, c16⟩, _⟩ := ex7
                      refine St.asrt (F' := .ro (SlL eu8 A16 c16 x3.Image.Data) :: .ro (SlL eu8 A15 c15 x2.Image.Data) :: .ro (SlL eu8 A14 c14 x3.Image.Data) :: .ro (SlL eu8 A13 c13 x2.Image.Data) :: .ro (SlL eu8 A12 c12 x1.Image.Data) :: .ro (SlL eu8 A11 c11 x1.Image.Data) :: .ro (SlL eu8 A10 c10 x1.Image.Data) :: .res (Box g3 35 (bx_T_Device r4.1 A6 c6 A7 c7)) :: .ro (SlL eu8 A6 c6 r4.1.Slots.e0.Image.Data) :: .ro (SlL eu8 A7 c7 r4.1.Slots.e1.Image.Data) :: .res (Box g2 35 (bx_T_Device r3.2 A4 c4 A5 c5)) :: .ro (SlL eu8 A4 c4 r3.2.Slots.e0.Image.Data) :: .ro (SlL eu8 A5 c5 r3.2.Slots.e1.Image.Data) :: R) (fun _ w => w) ?_
                      refine St.gOn (dj := 86) rfl rfl ?_
                      obtain ⟨r6, hr6, hj2⟩ := bnd_e hj2
                      refine St.callV (c_ref28_SameImage hr6) ent17 rfl rfl rfl rfl ⟨(.tail _ (.head _)), (.head _), trivial⟩ ?_
                      refine St.p rfl rfl ?_
                      refine St.p rfl rfl ?_
                      refine St.doneQ ?_
                      injection hj2 with hj2
                      subst hj2
                      refine St.thenN ?_
                      exact St.hereE () ⟨rfl, trivial⟩ (fun _ w => ((.d (.d (.d (.d (.d (.d (.d (.d (.d (.d (.d (.d (.d .z))))))))))))) : Keep _ _).sat w)
                    · replace hj2 := bif_f hb9 hj2
                      refine St.gOff (dj := 86) rfl rfl rfl rfl ?_
                      refine St.gOff (dj := 86) rfl rfl rfl rfl ?_
                      refine St.gOff (dj := 86) rfl rfl rfl rfl ?_
                      refine St.gOff (dj := 86) rfl rfl rfl rfl ?_
                      refine St.gOff (dj := 86) rfl rfl rfl rfl ?_
                      refine St.gOff (dj := 86) rfl rfl rfl rfl ?_
                      refine St.gOff (dj := 86) rfl rfl rfl rfl ?_
                      refine St.gOff (dj := 86) rfl rfl rfl rfl ?_
                      refine St.gOff (dj := 86) rfl rfl rfl rfl ?_
                      refine St.gOff (dj := 86) rfl rfl rfl rfl ?_
                      refine St.gOff (dj := 86) rfl rfl rfl rfl ?_
                      refine St.gOff (dj := 86) rfl rfl rfl rfl ?_
                      refine St.gOff (dj := 86) rfl rfl rfl rfl ?_
                      refine St.p rfl rfl ?_
                      refine St.p rfl rfl ?_
                      refine St.doneQ ?_
                      injection hj2 with hj2
                      subst hj2
                      refine St.thenN ?_
                      exact St.hereE () ⟨rfl, trivial⟩ (fun _ w => ((.d (.d (.d (.d (.d (.d (.d (.d (.d (.d (.d .z))))))))))) : Keep _ _).sat w)
                  · replace hj2 := bif_f hb8 hj2
                    refine St.gOff (dj := 71) rfl rfl rfl rfl ?_
                    refine St.gOff (dj := 71) rfl rfl rfl rfl ?_
                    refine St.gOff (dj := 71) rfl rfl rfl rfl ?_
                    refine St.gOff (dj := 71) rfl rfl rfl rfl ?_
                    refine St.gOff (dj := 71) rfl rfl rfl rfl ?_
                    refine St.gOff (dj := 71) rfl rfl rfl rfl ?_
                    refine St.gOff (dj := 71) rfl rfl rfl rfl ?_
                    refine St.gOff (dj := 71) rfl rfl rfl rfl ?_
                    refine St.gOff (dj := 71) rfl rfl rfl rfl ?_
                    refine St.gOff (dj := 71) rfl rfl rfl rfl ?_
                    refine St.gOff (dj := 71) rfl rfl rfl rfl ?_
                    refine St.gOff (dj := 71) rfl rfl rfl rfl ?_
                    refine St.gOff (dj := 71) rfl rfl rfl rfl ?_
                    refine St.p rfl rfl ?_
                    refine St.p rfl rfl ?_
                    refine St.gOff (dj := 86) rfl rfl rfl rfl ?_
                    refine St.gOff (dj := 86) rfl rfl rfl rfl ?_
                    refine St.gOff (dj := 86) rfl rfl rfl rfl ?_
                    refine St.gOff (dj := 86) rfl rfl rfl rfl ?_
                    refine St.gOff (dj := 86) rfl rfl rfl rfl ?_
                    refine St.gOff (dj := 86) rfl rfl rfl rfl ?_
                    refine St.gOff (dj := 86) rfl rfl rfl rfl ?_
                    refine St.gOff (dj := 86) rfl rfl rfl rfl ?_
                    refine St.gOff (dj := 86) rfl rfl rfl rfl ?_
                    refine St.gOff (dj := 86) rfl rfl rfl rfl ?_
                    refine St.gOff (dj := 86) rfl rfl rfl rfl ?_
                    refine St.gOff (dj := 86) rfl rfl rfl rfl ?_
                    refine St.gOff (dj := 86) rfl rfl rfl rfl ?_
                    refine St.p rfl rfl ?_
                    refine St.p rfl rfl ?_
                    refine St.doneQ ?_
                    injection hj2 with hj2
                    subst hj2
                    refine St.thenN ?_
                    exact St.hereE () ⟨rfl, trivial⟩ (fun _ w => ((.d (.d (.d (.d (.d (.d (.d (.d (.d .z))))))))) : Keep _ _).sat w)
                · replace hj2 := bif_f hb7 hj2
                  refine St.gOff (dj := 62) rfl rfl rfl rfl ?_
                  refine St.gOff (dj := 62) rfl rfl rfl rfl ?_
                  refine St.gOff (dj := 62) rfl rfl rfl rfl ?_
                  refine St.gOff (dj := 62) rfl rfl rfl rfl ?_
                  refine St.gOff (dj := 62) rfl rfl rfl rfl ?_
                  refine St.gOff (dj := 62) rfl rfl rfl rfl ?_
                  refine St.gOff (dj := 62) rfl rfl rfl rfl ?_
                  refine St.p rfl rfl ?_
                  refine St.p rfl rfl ?_
                  refine St.gOff (dj := 71) rfl rfl rfl rfl ?_
                  refine St.gOff (dj := 71) rfl rfl rfl rfl ?_
                  refine St.gOff (dj := 71) rfl rfl rfl rfl ?_
                  refine St.gOff (dj := 71) rfl rfl rfl rfl ?_
                  refine St.gOff (dj := 71) rfl rfl rfl rfl ?_
                  refine St.gOff (dj := 71) rfl rfl rfl rfl ?_
                  refine St.gOff (dj := 71) rfl rfl rfl rfl ?_
                  refine St.gOff (dj := 71) rfl rfl rfl rfl ?_
                  refine St.gOff (dj := 71) rfl rfl rfl rfl ?_
                  refine St.gOff (dj := 71) rfl rfl rfl rfl ?_
                  refine St.gOff (dj := 71) rfl rfl rfl rfl ?_
                  refine St.gOff (dj := 71) rfl rfl rfl rfl ?_
                  refine St.gOff (dj := 71) rfl rfl rfl rfl ?_
                  refine St.p rfl rfl ?_
                  refine St.p rfl rfl ?_
                  refine St.gOff (dj := 86) rfl rfl rfl rfl ?_
                  refine St.gOff (dj := 86) rfl rfl rfl rfl ?_
                  refine St.gOff (dj := 86) rfl rfl rfl rfl ?_
                  refine St.gOff (dj := 86) rfl rfl rfl rfl ?_
                  refine St.gOff (dj := 86) rfl rfl rfl rfl ?_
                  refine St.gOff (dj := 86) rfl rfl rfl rfl ?_
                  refine St.gOff (dj := 86) rfl rfl rfl rfl ?_
                  refine St.gOff (dj := 86) rfl rfl rfl rfl ?_
                  refine St.gOff (dj := 86) rfl rfl rfl rfl ?_
                  refine St.gOff (dj := 86) rfl rfl rfl rfl ?_
                  refine St.gOff (dj := 86) rfl rfl rfl rfl ?_
                  refine St.gOff (dj := 86) rfl rfl rfl rfl ?_
                  refine St.gOff (dj := 86) rfl rfl rfl rfl ?_
                  refine St.p rfl rfl ?_
                  refine St.p rfl rfl ?_
                  refine St.doneQ ?_
                  injection hj2 with hj2
                  subst hj2
                  refine St.thenN ?_
                  exact St.hereE () ⟨rfl, trivial⟩ (fun _ w => ((.d (.d (.d (.d (.d (.d (.d (.d .z)))))))) : Keep _ _).sat w)
              · replace hj2 := bif_f hb6 hj2
                refine St.gOff (dj := 54) rfl rfl rfl rfl ?_
                refine St.gOff (dj := 54) rfl rfl rfl rfl ?_
                refine St.gOff (dj := 54) rfl rfl rfl rfl ?_
                refine St.gOff (dj := 54) rfl rfl rfl rfl ?_
                refine St.gOff (dj := 54) rfl rfl rfl rfl ?_
                refine St.gOff (dj := 54) rfl rfl rfl rfl ?_
                refine St.p rfl rfl ?_
                refine St.p rfl rfl ?_
                refine St.gOff (dj := 62) rfl rfl rfl rfl ?_
                refine St.gOff (dj := 62) rfl rfl rfl rfl ?_
                refine St.gOff (dj := 62) rfl rfl rfl rfl ?_
                refine St.gOff (dj := 62) rfl rfl rfl rfl ?_
                refine St.gOff (dj := 62) rfl rfl rfl rfl ?_
                refine St.gOff (dj := 62) rfl rfl rfl rfl ?_
                refine St.gOff (dj := 62) rfl rfl rfl rfl ?_
                refine St.p rfl rfl ?_
                refine St.p rfl rfl ?_
                refine St.gOff (dj := 71) rfl rfl rfl rfl ?_
                refine St.gOff (dj := 71) rfl rfl rfl rfl ?_
                refine St.gOff (dj := 71) rfl rfl rfl rfl ?_
                refine St.gOff (dj := 71) rfl rfl rfl rfl ?_
                refine St.gOff (dj := 71) rfl rfl rfl rfl ?_
                refine St.gOff (dj := 71) rfl rfl rfl rfl ?_
                refine St.gOff (dj := 71) rfl rfl rfl rfl ?_
                refine St.gOff (dj := 71) rfl rfl rfl rfl ?_
                refine St.gOff (dj := 71) rfl rfl rfl rfl ?_
                refine St.gOff (dj := 71) rfl rfl rfl rfl ?_
                refine St.gOff (dj := 71) rfl rfl rfl rfl ?_
                refine St.gOff (dj := 71) rfl rfl rfl rfl ?_
                refine St.gOff (dj := 71) rfl rfl rfl rfl ?_
                refine St.p rfl rfl ?_
                refine St.p rfl rfl ?_
                refine St.gOff (dj := 86) rfl rfl rfl rfl ?_
                refine St.gOff (dj := 86) rfl rfl rfl rfl ?_
                refine St.gOff (dj := 86) rfl rfl rfl rfl ?_
                refine St.gOff (dj := 86) rfl rfl rfl rfl ?_
                refine St.gOff (dj := 86) rfl rfl rfl rfl ?_
                refine St.gOff (dj := 86) rfl rfl rfl rfl ?_
                refine St.gOff (dj := 86) rfl rfl rfl rfl ?_
                refine St.gOff (dj := 86) rfl rfl rfl rfl ?_
                refine St.gOff (dj := 86) rfl rfl rfl rfl ?_
                refine St.gOff (dj := 86) rfl rfl rfl rfl ?_
                refine St.gOff (dj := 86) rfl rfl rfl rfl ?_
                refine St.gOff (dj := 86) rfl rfl rfl rfl ?_
                refine St.gOff (dj := 86) rfl rfl rfl rfl ?_
                refine St.p rfl rfl ?_
                refine St.p rfl rfl ?_
                refine St.doneQ ?_
                injection hj2 with hj2
                subst hj2
                refine St.thenN ?_
                exact St.hereE () ⟨rfl, trivial⟩ (fun _ w => ((.d (.d (.d (.d (.d (.d (.d .z))))))) : Keep _ _).sat w)
            · replace hj2 := bif_f hb5 hj2
              refine St.gOff (dj := 44) rfl rfl rfl rfl ?_
              refine St.gOff (dj := 44) rfl rfl rfl rfl ?_
              refine St.gOff (dj := 44) rfl rfl rfl rfl ?_
              refine St.gOff (dj := 44) rfl rfl rfl rfl ?_
              refine St.gOff (dj := 44) rfl rfl rfl rfl ?_
              refine St.gOff (dj := 44) rfl rfl rfl rfl ?_
              refine St.gOff (dj := 44) rfl rfl rfl rfl ?_
              refine St.gOff (dj := 44) rfl rfl rfl rfl ?_
              refine St.p rfl rfl ?_
              refine St.p rfl rfl ?_
              refine St.gOff (dj := 54) rfl rfl rfl rfl ?_
              refine St.gOff (dj := 54) rfl rfl rfl rfl ?_
              refine St.gOff (dj := 54) rfl rfl rfl rfl ?_
              refine St.gOff (dj := 54) rfl rfl rfl rfl ?_
              refine St.gOff (dj := 54) rfl rfl rfl rfl ?_
              refine St.gOff (dj := 54) rfl rfl rfl rfl ?_
              refine St.p rfl rfl ?_
              refine St.p rfl rfl ?_
              refine St.gOff (dj := 62) rfl rfl rfl rfl ?_
              refine St.gOff (dj := 62) rfl rfl rfl rfl ?_
              refine St.gOff (dj := 62) rfl rfl rfl rfl ?_
              refine St.gOff (dj := 62) rfl rfl rfl rfl ?_
              refine St.gOff (dj := 62) rfl rfl rfl rfl ?_
              refine St.gOff (dj := 62) rfl rfl rfl rfl ?_
              refine St.gOff (dj := 62) rfl rfl rfl rfl ?_
              refine St.p rfl rfl ?_
              refine St.p rfl rfl ?_
              refine St.gOff (dj := 71) rfl rfl rfl rfl ?_
              refine St.gOff (dj := 71) rfl rfl rfl rfl ?_
              refine St.gOff (dj := 71) rfl rfl rfl rfl ?_
              refine St.gOff (dj := 71) rfl rfl rfl rfl ?_
              refine St.gOff (dj := 71) rfl rfl rfl rfl ?_
              refine St.gOff (dj := 71) rfl rfl rfl rfl ?_
              refine St.gOff (dj := 71) rfl rfl rfl rfl ?_
              refine St.gOff (dj := 71) rfl rfl rfl rfl ?_
              refine St.gOff (dj := 71) rfl rfl rfl rfl ?_
              refine St.gOff (dj := 71) rfl rfl rfl rfl ?_
              refine St.gOff (dj := 71) rfl rfl rfl rfl ?_
              refine St.gOff (dj := 71) rfl rfl rfl rfl ?_
              refine St.gOff (dj := 71) rfl rfl rfl rfl ?_
              refine St.p rfl rfl ?_
              refine St.p rfl rfl ?_
              refine St.gOff (dj := 86) rfl rfl rfl rfl ?_
              refine St.gOff (dj := 86) rfl rfl rfl rfl ?_
              refine St.gOff (dj := 86) rfl rfl rfl rfl ?_
              refine St.gOff (dj := 86) rfl rfl rfl rfl ?_
              refine St.gOff (dj := 86) rfl rfl rfl rfl ?_
              refine St.gOff (dj := 86) rfl rfl rfl rfl ?_
              refine St.gOff (dj := 86) rfl rfl rfl rfl ?_
              refine St.gOff (dj := 86) rfl rfl rfl rfl ?_
              refine St.gOff (dj := 86) rfl rfl rfl rfl ?_
              refine St.gOff (dj := 86) rfl rfl rfl rfl ?_
              refine St.gOff (dj := 86) rfl rfl rfl rfl ?_
              refine St.gOff (dj := 86) rfl rfl rfl rfl ?_
              refine St.gOff (dj := 86) rfl rfl rfl rfl ?_
              refine St.p rfl rfl ?_
              refine St.p rfl rfl ?_
              refine St.doneQ ?_
              injection hj2 with hj2
              subst hj2
              refine St.thenN ?_
              exact St.hereE () ⟨rfl, trivial⟩ (fun _ w => ((.d (.d (.d (.d (.d (.d .z)))))) : Keep _ _).sat w)
          · replace hj2 := bif_f hb4 hj2
            refine St.gOff (dj := 40) rfl rfl rfl rfl ?_
            refine St.gOff (dj := 40) rfl rfl rfl rfl ?_
            refine St.p rfl rfl ?_
            refine St.p rfl rfl ?_
            refine St.gOff (dj := 44) rfl rfl rfl rfl ?_
            refine St.gOff (dj := 44) rfl rfl rfl rfl ?_
            refine St.gOff (dj := 44) rfl rfl rfl rfl ?_
            refine St.gOff (dj := 44) rfl rfl rfl rfl ?_
            refine St.gOff (dj := 44) rfl rfl rfl rfl ?_
            refine St.gOff (dj := 44) rfl rfl rfl rfl ?_
            refine St.gOff (dj := 44) rfl rfl rfl rfl ?_
            refine St.gOff (dj := 44) rfl rfl rfl rfl ?_
            refine St.p rfl rfl ?_
            refine St.p rfl rfl ?_
            refine St.gOff (dj := 54) rfl rfl rfl rfl ?_
            refine St.gOff (dj := 54) rfl rfl rfl rfl ?_
            refine St.gOff (dj := 54) rfl rfl rfl rfl ?_
            refine St.gOff (dj := 54) rfl rfl rfl rfl ?_
            refine St.gOff (dj := 54) rfl rfl rfl rfl ?_
            refine St.gOff (dj := 54) rfl rfl rfl rfl ?_
            refine St.p rfl rfl ?_
            refine St.p rfl rfl ?_
            refine St.gOff (dj := 62) rfl rfl rfl rfl ?_
            refine St.gOff (dj := 62) rfl rfl rfl rfl ?_
            refine St.gOff (dj := 62) rfl rfl rfl rfl ?_
            refine St.gOff (dj := 62) rfl rfl rfl rfl ?_
            refine St.gOff (dj := 62) rfl rfl rfl rfl ?_
            refine St.gOff (dj := 62) rfl rfl rfl rfl ?_
            refine St.gOff (dj := 62) rfl rfl rfl rfl ?_
            refine St.p rfl rfl ?_
            refine St.p rfl rfl ?_
            refine St.gOff (dj := 71) rfl rfl rfl rfl ?_
            refine St.gOff (dj := 71) rfl rfl rfl rfl ?_
            refine St.gOff (dj := 71) rfl rfl rfl rfl ?_
            refine St.gOff (dj := 71) rfl rfl rfl rfl ?_
            refine St.gOff (dj := 71) rfl rfl rfl rfl ?_
            refine St.gOff (dj := 71) rfl rfl rfl rfl ?_
            refine St.gOff (dj := 71) rfl rfl rfl rfl ?_
            refine St.gOff (dj := 71) rfl rfl rfl rfl ?_
            refine St.gOff (dj := 71) rfl rfl rfl rfl ?_
            refine St.gOff (dj := 71) rfl rfl rfl rfl ?_
            refine St.gOff (dj := 71) rfl rfl rfl rfl ?_
            refine St.gOff (dj := 71) rfl rfl rfl rfl ?_
            refine St.gOff (dj := 71) rfl rfl rfl rfl ?_
            refine St.p rfl rfl ?_
            refine St.p rfl rfl ?_
            refine St.gOff (dj := 86) rfl rfl rfl rfl ?_
            refine St.gOff (dj := 86) rfl rfl rfl rfl ?_
            refine St.gOff (dj := 86) rfl rfl rfl rfl ?_
            refine St.gOff (dj := 86) rfl rfl rfl rfl ?_
            refine St.gOff (dj := 86) rfl rfl rfl rfl ?_
            refine St.gOff (dj := 86) rfl rfl rfl rfl ?_
            refine St.gOff (dj := 86) rfl rfl rfl rfl ?_
            refine St.gOff (dj := 86) rfl rfl rfl rfl ?_
            refine St.gOff (dj := 86) rfl rfl rfl rfl ?_
            refine St.gOff (dj := 86) rfl rfl rfl rfl ?_
            refine St.gOff (dj := 86) rfl rfl rfl rfl ?_
            refine St.gOff (dj := 86) rfl rfl rfl rfl ?_
            refine St.gOff (dj := 86) rfl rfl rfl rfl ?_
            refine St.p rfl rfl ?_
            refine St.p rfl rfl ?_
            refine St.doneQ ?_
            injection hj2 with hj2
            subst hj2
            refine St.thenN ?_
            exact St.hereE () ⟨rfl, trivial⟩ (fun _ w => ((.d (.d (.d (.d (.d (.d .z)))))) : Keep _ _).sat w)
        · rintro e2
          refine St.ret ?_
          repeat (first | refine St.thenR ?_ | refine St.blkR ?_)
          injection h with h
          subst h
          exact St.finR Try.results4 (.tmp rfl .nil) rfl [] ⟨rfl, rfl⟩ (fun _ w => (.z : Keep _ _).sat w)

end Go.Proofs.Ytcjhemblnemhfaa
