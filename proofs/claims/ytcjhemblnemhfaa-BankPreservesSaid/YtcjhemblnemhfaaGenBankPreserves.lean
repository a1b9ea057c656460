/-
  Models of functions of the program, and that the functions compute them.
  Conditions: none.
-/
import Derived.Test.YtcjhemblnemhfaaGen
namespace Go.Proofs.Ytcjhemblnemhfaa
open Go
set_option linter.unusedVariables false

theorem ent5 : Ent Try.prog 5 := ⟨_, Try.func5, by kernel_rfl, by kernel_rfl⟩

noncomputable def m_law29_BankPreserves (codes : (List Int)) (sum : Int) : Option Bool :=
  bnd (m_law29_awake) fun r1 => bif !r1 then (some false) else (bnd (m_field_New codes 160) fun r2 => bnd (m_field_Codes_Device r2 (⟨#[98, 105, 111, 115]⟩)) fun r3 => bnd (loopM (τ := Bool ⊕ T_Device) (fun (s1 : T_Device) => bnd ((bif s1.Trial then (some true) else (some (s1.Running != s1.Active)) : Option Bool)) fun o3 => bif o3 then (bnd (m_bank_Boot s1) fun r4 => bnd (m_bank_Valid r4) fun r5 => bif !r5 then (some (.done (.inl false))) else (bif (r4.Running != r4.Active) then (bnd (m_bank_Boot r4) fun r6 => some (.done (.inr r6))) else (some (.next r4)))) else (some (.done (.inr s1)))) r3.2) fun o1 => retOr o1 fun o2 => bnd (elt [o2.Slots.e0, o2.Slots.e1] o2.Running) fun x1 => bnd (loopM (τ := Bool ⊕ (T_Device × List Int × Int)) (fun (s2 : T_Device × Int × List Int × Int) => bif decide (s2.2.1 < 6) then (bnd (m_field_Codes_Image (⟨s2.2.2.1, s2.2.2.2⟩ : T_Codes) (⟨#[98, 105, 111, 115]⟩)) fun r7 => bnd (m_field_Codes_Next r7.1 6) fun r8 => bnd (m_bank_Write s2.1 r7.2 r8.2) fun r9 => bnd ((bif (r9.2 == 0) then (some r9.1) else (some s2.1) : Option T_Device)) fun o6 => bnd ((bnd (m_field_Codes_Next r8.1 3) fun r10 => bif (r10.2 == 2) then (bnd (m_field_Codes_Image r10.1 (⟨#[112, 115, 117]⟩)) fun r11 => bnd (m_bank_Spoil o6 r11.2 sum) fun r12 => some (r11.1.L, r11.1.At, r12)) else (some (r10.1.L, r10.1.At, o6)) : Option (List Int × Int × T_Device))) fun o7 => bnd ((bif (o7.2.2.Running != o7.2.2.Active) then (some true) else (bif decide (o7.2.2.Running < 0) then (some true) else (bif decide (o7.2.2.Running > 1) then (some true) else (bnd (elt [o7.2.2.Slots.e0, o7.2.2.Slots.e1] o7.2.2.Running) fun x2 => bif (x2.Sum != x1.Sum) then (some true) else (bnd (m_ref28_SameImage x2.Image x1.Image) fun r13 => some (!r13))))) : Option Bool)) fun o8 => bif o8 then (some (.done (.inl false))) else (some (.next (o7.2.2, IntKind.wrap .i64 (s2.2.1 + 1), o7.1, o7.2.1)))) else (some (.done (.inr (s2.1, s2.2.2.1, s2.2.2.2))))) (o2, 0, r3.1.L, r3.1.At)) fun o4 => retOr o4 fun o5 => some true)

set_option maxHeartbeats 4000000 in
theorem c_law29_BankPreserves {codes : (List Int)} {sum : Int} {A1 : Option Addr} {c1 : Nat} {r : Bool} (h : m_law29_BankPreserves codes sum = some r) :
    Fun Try.prog 5 [.slice A1 codes.length c1, .int .u32 sum] [.ro (SlL eu8 A1 c1 codes)] (Val (.bool r)) := by
  unfold m_law29_BankPreserves at h
  refine Fun.intro Try.func5 rfl rfl rfl fun w R => ?_
  refine St.seq ?_
  refine St.region ?_
  refine St.p rfl rfl ?_
  refine St.done ?_
  refine St.thenN ?_
  refine St.prune (Γ' := [(0, _), (1, _)]) ⟨rfl, rfl, trivial⟩ (.k .z) ?_
  refine St.seq ?_
  refine St.seq ?_
  refine St.region ?_
  obtain ⟨r1, hr1, h⟩ := bnd_e h
  refine St.callV (c_law29_awake hr1) ent9 rfl rfl rfl rfl trivial ?_
  refine St.p rfl rfl ?_
  refine St.done ?_
  refine St.thenN ?_
  refine St.prune (Γ' := [(0, _), (1, _), (12, _)]) ⟨rfl, rfl, rfl, trivial⟩ (.k .z) ?_
  refine St.cond _ rfl (fun hb1 => ?_) (fun hb1 => ?_)
  · replace h := bif_t hb1 h
    refine St.seq ?_
    refine St.region ?_
    refine St.p rfl rfl ?_
    refine St.done ?_
    refine St.thenN ?_
    refine St.prune (Γ' := [(4, _)]) ⟨rfl, trivial⟩ (.d .z) ?_
    refine St.ret ?_
    repeat (first | refine St.thenR ?_ | refine St.blkR ?_)
    injection h with h
    subst h
    exact St.finR Try.results5 (.tmp rfl .nil) rfl [] ⟨rfl, rfl⟩ (fun _ w => (.z : Keep _ _).sat w)
  · replace h := bif_f hb1 h
    refine St.skip ?_
    refine St.thenN ?_
    refine St.prune (Γ' := [(0, _), (1, _)]) ⟨rfl, rfl, trivial⟩ (.k .z) ?_
    refine St.seq ?_
    refine St.region ?_
    refine St.p rfl rfl ?_
    obtain ⟨r2, hr2, h⟩ := bnd_e h
    refine St.call (c_field_New hr2) ent10 rfl rfl rfl (fun _ w => Sat.dup (G := [.ro (SlL eu8 A1 c1 codes)]) rfl ⟨(.head _), trivial⟩ w) ?_
    rintro _ _ ⟨g1, A2, c2, rfl, rfl⟩
    refine St.asrt (F' := .ro (SlL eu8 A2 c2 r2.L) :: .res (Box g1 63 [.slice A2 r2.L.length c2, .int .i64 r2.At]) :: .ro (SlL eu8 A1 c1 codes) :: R) (fun _ w => w) ?_
    refine St.p rfl rfl ?_
    refine St.done ?_
    refine St.thenN ?_
    refine St.prune (Γ' := [(1, _), (5, _)]) ⟨rfl, rfl, trivial⟩ (.k (.k (.d .z))) ?_
    refine St.seq ?_
    refine St.region ?_
    refine St.p rfl rfl ?_
    obtain ⟨r3, hr3, h⟩ := bnd_e h
    refine St.call (c_field_Codes_Device hr3) ent18 rfl rfl rfl (fun _ w => Sat.dup (G := [.ro (SlL eu8 A2 c2 r2.L)]) rfl ⟨(.tail _ (.head _)), trivial⟩ (w.front (.s .z))) ?_
    rintro _ _ ⟨A3, c3, A4, c4, A5, c5, rfl, rfl⟩
    refine St.asrt (F' := .ro (SlL eu8 A3 c3 r3.1.L) :: .ro (SlL eu8 A4 c4 r3.2.Slots.e0.Image.Data) :: .ro (SlL eu8 A5 c5 r3.2.Slots.e1.Image.Data) :: .res (Box g1 63 [.slice A3 r3.1.L.length c3, .int .i64 r3.1.At]) :: .ro (SlL eu8 A2 c2 r2.L) :: R) (fun _ w => w) ?_
    refine St.alloc rfl rfl fun g2 => ?_
    refine St.store 0 rfl rfl rfl rfl rfl rfl .z rfl ?_
    refine St.done ?_
    refine St.thenN ?_
    refine St.prune (Γ' := [(1, _), (5, _), (6, _)]) ⟨rfl, rfl, rfl, trivial⟩ (.k (.k (.k (.k (.k (.d .z)))))) ?_
    refine St.seq ?_
    obtain ⟨o1, hl1, h⟩ := bnd_e h
    refine St.cutI (fun (o2 : T_Device) (e2 : Option Addr × Nat × Option Addr × Nat) => [(1, .int .u32 sum), (5, .pointer (some ⟨g1, 0, none⟩)), (6, .pointer (some ⟨g2, 0, none⟩))]) (fun o2 e2 => .ro (SlL eu8 e2.2.2.1 e2.2.2.2 o2.Slots.e1.Image.Data) :: .ro (SlL eu8 e2.1 e2.2.1 o2.Slots.e0.Image.Data) :: .res (Box g2 35 (bx_T_Device o2 e2.1 e2.2.1 e2.2.2.1 e2.2.2.2)) :: .ro (SlL eu8 A3 c3 r3.1.L) :: .res (Box g1 63 [.slice A3 r3.1.L.length c3, .int .i64 r3.1.At]) :: R) (fun o2 => o1 = .inr o2) ?_ ?_
    · refine St.block ?_
      refine St.loop hl1 (fun (s1 : T_Device) (e1 : Option Addr × Nat × Option Addr × Nat) => [(1, .int .u32 sum), (5, .pointer (some ⟨g1, 0, none⟩)), (6, .pointer (some ⟨g2, 0, none⟩))]) (fun s1 e1 => .ro (SlL eu8 e1.2.2.1 e1.2.2.2 s1.Slots.e1.Image.Data) :: .ro (SlL eu8 e1.1 e1.2.1 s1.Slots.e0.Image.Data) :: .res (Box g2 35 (bx_T_Device s1 e1.1 e1.2.1 e1.2.2.1 e1.2.2.2)) :: .ro (SlL eu8 A3 c3 r3.1.L) :: .res (Box g1 63 [.slice A3 r3.1.L.length c3, .int .i64 r3.1.At]) :: R) (fun _ _ => True) (A4, c4, A5, c5) trivial ⟨rfl, rfl, rfl, trivial⟩ (fun _ w => ((.k (.k (.k (.k (.k .z))))) : Keep _ _).sat (((((w.front (.s (.s (.s (.s .z))))).front (.s (.s .z))).front (.s (.s .z))).front (.s (.s (.s .z)))).front (.s (.s (.s (.s .z)))))) ?_
      rintro s1 ⟨A6, c6, A7, c7⟩ - hit1
      obtain ⟨st1, hm1, hd1⟩ := iter_e hit1
      have h1 := hm1
      refine St.seq ?_
      refine St.seq ?_
      obtain ⟨o3, hj1, h1⟩ := bnd_e h1
      refine St.cutE (fun (e3 : Unit) => [(1, .int .u32 sum), (5, .pointer (some ⟨g1, 0, none⟩)), (6, .pointer (some ⟨g2, 0, none⟩)), (25, .bool o3)]) (fun e3 => .ro (SlL eu8 A7 c7 s1.Slots.e1.Image.Data) :: .ro (SlL eu8 A6 c6 s1.Slots.e0.Image.Data) :: .res (Box g2 35 (bx_T_Device s1 A6 c6 A7 c7)) :: .ro (SlL eu8 A3 c3 r3.1.L) :: .res (Box g1 63 [.slice A3 r3.1.L.length c3, .int .i64 r3.1.At]) :: R) ?_ ?_
      · refine St.region ?_
        refine St.p rfl rfl ?_
        refine St.loadB 15 rfl rfl (.tail _ (.tail _ (.head _))) rfl rfl ?_
        refine St.p rfl rfl ?_
        refine St.gSplit (dj := 19) _ rfl (fun hb2 => ?_) (fun hb2 => ?_)
        · replace hj1 := bif_t hb2 hj1
          refine St.gOff (dj := 19) rfl rfl rfl rfl ?_
          refine St.gOff (dj := 19) rfl rfl rfl rfl ?_
          refine St.gOff (dj := 19) rfl rfl rfl rfl ?_
          refine St.gOff (dj := 19) rfl rfl rfl rfl ?_
          refine St.gOff (dj := 19) rfl rfl rfl rfl ?_
          refine St.p rfl rfl ?_
          refine St.done ?_
          injection hj1 with hj1
          subst hj1
          refine St.thenN ?_
          exact St.hereE () ⟨rfl, rfl, rfl, rfl, trivial⟩ (fun _ w => ((.k (.k (.k (.k (.k .z))))) : Keep _ _).sat w)
        · replace hj1 := bif_f hb2 hj1
          refine St.gOn (dj := 19) rfl rfl ?_
          refine St.p rfl rfl ?_
          refine St.gOn (dj := 19) rfl rfl ?_
          refine St.loadB 14 rfl rfl (.tail _ (.tail _ (.head _))) rfl rfl ?_
          refine St.gOn (dj := 19) rfl rfl ?_
          refine St.p rfl rfl ?_
          refine St.gOn (dj := 19) rfl rfl ?_
          refine St.loadB 13 rfl rfl (.tail _ (.tail _ (.head _))) rfl rfl ?_
          refine St.gOn (dj := 19) rfl rfl ?_
          refine St.p rfl rfl ?_
          refine St.p rfl rfl ?_
          refine St.done ?_
          injection hj1 with hj1
          subst hj1
          refine St.thenN ?_
          exact St.hereE () ⟨rfl, rfl, rfl, rfl, trivial⟩ (fun _ w => ((.k (.k (.k (.k (.k .z))))) : Keep _ _).sat w)
      · rintro e3
        refine St.cond _ rfl (fun hb3 => ?_) (fun hb3 => ?_)
        · replace h1 := bif_t hb3 h1
          refine St.skip ?_
          refine St.thenN ?_
          refine St.prune (Γ' := [(1, _), (5, _), (6, _)]) ⟨rfl, rfl, rfl, trivial⟩ (.k (.k (.k (.k (.k .z))))) ?_
          refine St.block ?_
          refine St.seq ?_
          refine St.region ?_
          refine St.loadB 0 rfl rfl (.tail _ (.tail _ (.head _))) rfl rfl ?_
          obtain ⟨r4, hr4, h1⟩ := bnd_e h1
          refine St.call (c_bank_Boot hr4) ent20 rfl rfl rfl (fun _ w => Sat.dup (G := [.ro (SlL eu8 A6 c6 s1.Slots.e0.Image.Data), .ro (SlL eu8 A7 c7 s1.Slots.e1.Image.Data)]) rfl ⟨(.tail _ (.head _)), (.head _), trivial⟩ w) ?_
          rintro _ _ ⟨A10, c10, A11, c11, rfl, rfl⟩
          refine St.asrt (F' := .ro (SlL eu8 A10 c10 r4.Slots.e0.Image.Data) :: .ro (SlL eu8 A11 c11 r4.Slots.e1.Image.Data) :: .ro (SlL eu8 A7 c7 s1.Slots.e1.Image.Data) :: .ro (SlL eu8 A6 c6 s1.Slots.e0.Image.Data) :: .res (Box g2 35 (bx_T_Device s1 A6 c6 A7 c7)) :: .ro (SlL eu8 A3 c3 r3.1.L) :: .res (Box g1 63 [.slice A3 r3.1.L.length c3, .int .i64 r3.1.At]) :: R) (fun _ w => w) ?_
          refine St.store 0 rfl rfl rfl rfl rfl rfl (.s (.s (.s (.s .z)))) rfl ?_
          refine St.done ?_
          refine St.thenN ?_
          refine St.prune (Γ' := [(1, _), (5, _), (6, _)]) ⟨rfl, rfl, rfl, trivial⟩ (.k (.k (.k (.d (.d (.k (.k .z))))))) ?_
          refine St.seq ?_
          refine St.seq ?_
          refine St.region ?_
          refine St.loadB 0 rfl rfl (.head _) rfl rfl ?_
          obtain ⟨r5, hr5, h1⟩ := bnd_e h1
          refine St.callV (c_bank_Valid hr5) ent21 rfl rfl rfl rfl ⟨(.tail _ (.head _)), (.tail _ (.tail _ (.head _))), trivial⟩ ?_
          refine St.p rfl rfl ?_
          refine St.done ?_
          refine St.thenN ?_
          refine St.prune (Γ' := [(1, _), (5, _), (6, _), (30, _)]) ⟨rfl, rfl, rfl, rfl, trivial⟩ (.k (.k (.k (.k (.k .z))))) ?_
          refine St.cond _ rfl (fun hb4 => ?_) (fun hb4 => ?_)
          · replace h1 := bif_t hb4 h1
            refine St.seq ?_
            refine St.region ?_
            refine St.p rfl rfl ?_
            refine St.done ?_
            refine St.thenN ?_
            refine St.prune (Γ' := [(4, _)]) ⟨rfl, trivial⟩ (.d (.d (.d (.d (.d .z))))) ?_
            refine St.ret ?_
            repeat (first | refine St.thenR ?_ | refine St.blkR ?_)
            injection h1 with h1
            subst h1
            have ho := hd1 _ rfl
            subst ho
            have h : some _ = some _ := h
            injection h with h
            subst h
            exact St.finR Try.results5 (.tmp rfl .nil) rfl [] ⟨rfl, rfl⟩ (fun _ w => (.z : Keep _ _).sat w)
          · replace h1 := bif_f hb4 h1
            refine St.skip ?_
            refine St.thenN ?_
            refine St.prune (Γ' := [(1, _), (5, _), (6, _)]) ⟨rfl, rfl, rfl, trivial⟩ (.k (.k (.k (.k (.k .z))))) ?_
            refine St.seq ?_
            refine St.region ?_
            refine St.p rfl rfl ?_
            refine St.loadB 14 rfl rfl (.head _) rfl rfl ?_
            refine St.p rfl rfl ?_
            refine St.loadB 13 rfl rfl (.head _) rfl rfl ?_
            refine St.p rfl rfl ?_
            refine St.done ?_
            refine St.thenN ?_
            refine St.prune (Γ' := [(1, _), (5, _), (6, _), (35, _)]) ⟨rfl, rfl, rfl, rfl, trivial⟩ (.k (.k (.k (.k (.k .z))))) ?_
            refine St.cond _ rfl (fun hb5 => ?_) (fun hb5 => ?_)
            · replace h1 := bif_t hb5 h1
              refine St.seq ?_
              refine St.region ?_
              refine St.loadB 0 rfl rfl (.head _) rfl rfl ?_
              obtain ⟨r6, hr6, h1⟩ := bnd_e h1
              refine St.call (c_bank_Boot hr6) ent20 rfl rfl rfl (fun _ w => Sat.dup (G := [.ro (SlL eu8 A10 c10 r4.Slots.e0.Image.Data), .ro (SlL eu8 A11 c11 r4.Slots.e1.Image.Data)]) rfl ⟨(.tail _ (.head _)), (.tail _ (.tail _ (.head _))), trivial⟩ w) ?_
              rintro _ _ ⟨A12, c12, A13, c13, rfl, rfl⟩
              refine St.asrt (F' := .ro (SlL eu8 A12 c12 r6.Slots.e0.Image.Data) :: .ro (SlL eu8 A13 c13 r6.Slots.e1.Image.Data) :: .res (Box g2 35 (bx_T_Device r4 A10 c10 A11 c11)) :: .ro (SlL eu8 A10 c10 r4.Slots.e0.Image.Data) :: .ro (SlL eu8 A11 c11 r4.Slots.e1.Image.Data) :: .ro (SlL eu8 A3 c3 r3.1.L) :: .res (Box g1 63 [.slice A3 r3.1.L.length c3, .int .i64 r3.1.At]) :: R) (fun _ w => w) ?_
              refine St.store 0 rfl rfl rfl rfl rfl rfl (.s (.s .z)) rfl ?_
              refine St.done ?_
              refine St.thenN ?_
              refine St.prune (Γ' := [(1, _), (5, _), (6, _)]) ⟨rfl, rfl, rfl, trivial⟩ (.k (.k (.k (.d (.d (.k (.k .z))))))) ?_
              refine St.exit ?_
              repeat (first | refine St.thenX ?_ | refine St.blkMiss rfl ?_)
              refine St.blkHit ?_
              injection h1 with h1
              subst h1
              have ho := hd1 _ rfl
              subst ho
              refine St.thenN ?_
              exact St.hereI r6 (A12, c12, A13, c13) rfl ⟨rfl, rfl, rfl, trivial⟩ (fun _ w => ((.k (.k (.k (.k (.k .z))))) : Keep _ _).sat (((((w.front (.s (.s (.s (.s .z))))).front (.s (.s (.s (.s .z))))).front (.s (.s .z))).front (.s (.s (.s .z)))).front (.s (.s (.s (.s .z))))))
            · replace h1 := bif_f hb5 h1
              refine St.skip ?_
              refine St.blkN ?_
              injection h1 with h1
              subst h1
              refine St.thenN ?_
              exact St.again _ (A10, c10, A11, c11) hm1 trivial ⟨rfl, rfl, rfl, trivial⟩ (fun _ w => ((.k (.k (.k (.k (.k .z))))) : Keep _ _).sat (((((w.front (.s (.s (.s (.s .z))))).front (.s (.s (.s (.s .z))))).front (.s (.s .z))).front (.s (.s (.s .z)))).front (.s (.s (.s (.s .z))))))
        · replace h1 := bif_f hb3 h1
          refine St.exit ?_
          repeat (first | refine St.thenX ?_ | refine St.blkMiss rfl ?_)
          refine St.blkHit ?_
          injection h1 with h1
          subst h1
          have ho := hd1 _ rfl
          subst ho
          refine St.thenN ?_
          exact St.hereI s1 (A6, c6, A7, c7) rfl ⟨rfl, rfl, rfl, trivial⟩ (fun _ w => ((.k (.k (.k (.k (.k .z))))) : Keep _ _).sat w)
    · rintro o2 ⟨A8, c8, A9, c9⟩ ho
      subst ho
      have h : _ = some _ := h
      refine St.seq ?_
      refine St.region ?_
      refine St.p rfl rfl ?_
      refine St.loadB 14 rfl rfl (.tail _ (.tail _ (.head _))) rfl rfl ?_
      refine St.p rfl rfl ?_
      obtain ⟨x1, hx1, h⟩ := bnd_e h
      refine St.ixP (sz := 6) hx1 rfl rfl rfl rfl rfl rfl rfl rfl ?_
      refine St.ldP (ls := l_T_Slot) 0 [.string o2.Name] [.int .i64 o2.Active, .int .i64 o2.Running, .bool o2.Trial] [(o2.Slots.e0, ((A8, c8), ())), (o2.Slots.e1, ((A9, c9), ()))] (fun ex => .agg (bx_T_Slot x1 ex.1.1 ex.1.2).toArray) hx1 rfl rfl (.tail _ (.tail _ (.head _))) rfl rfl rfl ⟨(.tail _ (.head _)), (.head _), trivial⟩ rfl (fun _ => rfl) fun ex1 => ?_
      obtain ⟨⟨A14, c14⟩, _⟩ := ex1
      refine St.asrt (F' := .ro (SlL eu8 A14 c14 x1.Image.Data) :: .ro (SlL eu8 A9 c9 o2.Slots.e1.Image.Data) :: .ro (SlL eu8 A8 c8 o2.Slots.e0.Image.Data) :: .res (Box g2 35 (bx_T_Device o2 A8 c8 A9 c9)) :: .ro (SlL eu8 A3 c3 r3.1.L) :: .res (Box g1 63 [.slice A3 r3.1.L.length c3, .int .i64 r3.1.At]) :: R) (fun _ w => w) ?_
      refine St.alloc rfl rfl fun g3 => ?_
      refine St.store 0 rfl rfl rfl rfl rfl rfl .z rfl ?_
      refine St.done ?_
      refine St.thenN ?_
      refine St.prune (Γ' := [(1, _), (5, _), (6, _), (7, _)]) ⟨rfl, rfl, rfl, rfl, trivial⟩ (.k (.k (.k (.k (.k (.k (.k .z))))))) ?_
      refine St.seq ?_
      refine St.seq ?_
      refine St.region ?_
      refine St.p rfl rfl ?_
      refine St.done ?_
      refine St.thenN ?_
      obtain ⟨o4, hl2, h⟩ := bnd_e h
      refine St.cutI (fun (o5 : T_Device × List Int × Int) (e5 : Option Addr × Nat × Option Addr × Nat × Option Addr × Nat) => []) (fun o5 e5 => R) (fun o5 => o4 = .inr o5) ?_ ?_
      · refine St.block ?_
        refine St.loop hl2 (fun (s2 : T_Device × Int × List Int × Int) (e4 : Option Addr × Nat × Option Addr × Nat × Option Addr × Nat) => [(1, .int .u32 sum), (5, .pointer (some ⟨g1, 0, none⟩)), (6, .pointer (some ⟨g2, 0, none⟩)), (7, .pointer (some ⟨g3, 0, none⟩)), (8, .int .i64 s2.2.1)]) (fun s2 e4 => .ro (SlL eu8 e4.2.2.2.2.1 e4.2.2.2.2.2 s2.2.2.1) :: .ro (SlL eu8 e4.2.2.1 e4.2.2.2.1 s2.1.Slots.e1.Image.Data) :: .ro (SlL eu8 e4.1 e4.2.1 s2.1.Slots.e0.Image.Data) :: .res (Box g3 32 (bx_T_Slot x1 A14 c14)) :: .ro (SlL eu8 A14 c14 x1.Image.Data) :: .res (Box g2 35 (bx_T_Device s2.1 e4.1 e4.2.1 e4.2.2.1 e4.2.2.2.1)) :: .res (Box g1 63 [.slice e4.2.2.2.2.1 s2.2.2.1.length e4.2.2.2.2.2, .int .i64 s2.2.2.2]) :: R) (fun _ _ => True) (A8, c8, A9, c9, A3, c3) trivial ⟨rfl, rfl, rfl, rfl, rfl, trivial⟩ (fun _ w => ((.k (.k (.k (.k (.k (.k (.k .z))))))) : Keep _ _).sat (((((((w.front (.s (.s (.s (.s (.s (.s .z))))))).front (.s (.s (.s (.s (.s .z)))))).front (.s (.s (.s .z)))).front (.s (.s (.s .z)))).front (.s (.s (.s (.s (.s .z)))))).front (.s (.s (.s (.s (.s .z)))))).front (.s (.s (.s (.s (.s (.s .z)))))))) ?_
        rintro s2 ⟨A15, c15, A16, c16, A17, c17⟩ - hit2
        obtain ⟨st2, hm2, hd2⟩ := iter_e hit2
        have h2 := hm2
        refine St.seq ?_
        refine St.seq ?_
        refine St.region ?_
        refine St.p rfl rfl ?_
        refine St.p rfl rfl ?_
        refine St.done ?_
        refine St.thenN ?_
        refine St.prune (Γ' := [(1, _), (5, _), (6, _), (7, _), (8, _), (44, _)]) ⟨rfl, rfl, rfl, rfl, rfl, rfl, trivial⟩ (.k (.k (.k (.k (.k (.k (.k .z))))))) ?_
        refine St.cond _ rfl (fun hb6 => ?_) (fun hb6 => ?_)
        · replace h2 := bif_t hb6 h2
          refine St.skip ?_
          refine St.thenN ?_
          refine St.prune (Γ' := [(1, _), (5, _), (6, _), (7, _), (8, _)]) ⟨rfl, rfl, rfl, rfl, rfl, trivial⟩ (.k (.k (.k (.k (.k (.k (.k .z))))))) ?_
          refine St.seq ?_
          refine St.block ?_
          refine St.seq ?_
          obtain ⟨r7, hr7, h2⟩ := bnd_e h2
          obtain ⟨r8, hr8, h2⟩ := bnd_e h2
          obtain ⟨r9, hr9, h2⟩ := bnd_e h2
          refine St.regionX (iL [(.fl, 0), (.fl, 1), (.fl, 3)] (.alt (iL [(.ef, 2)] (.alt (iL [(.ef, 4)] (.alt (iL [(.ef, 5), (.fl, 6), (.fl, 7), (.fl, 8)] (iL [(.ef, 9)] (iL [(.ef, 10), (.fl, 11)] .nil))) (iL [(.ef, 9)] (iL [(.ef, 5), (.fl, 6), (.fl, 7), (.fl, 8)] (iL [(.ef, 10), (.fl, 11)] .nil))))) (iL [(.ef, 9)] (iL [(.ef, 4)] (iL [(.ef, 5), (.fl, 6), (.fl, 7), (.fl, 8)] (iL [(.ef, 10), (.fl, 11)] .nil)))))) (iL [(.ef, 9)] (iL [(.ef, 2)] (iL [(.ef, 4)] (iL [(.ef, 5), (.fl, 6), (.fl, 7), (.fl, 8)] (iL [(.ef, 10), (.fl, 11)] .nil))))))) (.ro (SlL eu8 A17 c17 s2.2.2.1) :: .ro (SlL eu8 A16 c16 s2.1.Slots.e1.Image.Data) :: .ro (SlL eu8 A15 c15 s2.1.Slots.e0.Image.Data) :: .res (Box g3 32 (bx_T_Slot x1 A14 c14)) :: .ro (SlL eu8 A14 c14 x1.Image.Data) :: .res (Box g2 35 (bx_T_Device s2.1 A15 c15 A16 c16)) :: R) mixed (by kernel_rfl) (fun _ w => ((.k (.k (.k (.k (.k (.k (.d .z))))))) : Keep _ _).sat w) ?_
          refine St.share (Y := ?Ynd1_0) (fun (e : Option Addr × Nat × Option Addr × Nat × Option Addr × Nat × Nat × Option Addr × Nat × Option Addr × Nat) => [(1, .int .u32 sum), (5, .pointer (some ⟨g1, 0, none⟩)), (6, .pointer (some ⟨g2, 0, none⟩)), (7, .pointer (some ⟨g3, 0, none⟩)), (8, .int .i64 s2.2.1), (9, .pointer (some ⟨e.2.2.2.2.2.2.1, 0, none⟩)), (47, .tuple #[.agg (bx_T_Device r9.1 e.2.2.1 e.2.2.2.1 e.2.2.2.2.1 e.2.2.2.2.2.1).toArray, .int .i64 r9.2]), (48, .agg (bx_T_Device s2.1 A15 c15 A16 c16).toArray), (49, .pointer (some ⟨g1, 0, none⟩)), (50, .agg (bx_T_Image r7.2 e.1 e.2.1).toArray), (51, .pointer (some ⟨g1, 0, none⟩)), (52, .int .i64 r8.2), (53, .tuple #[.agg (bx_T_Device r9.1 e.2.2.1 e.2.2.2.1 e.2.2.2.2.1 e.2.2.2.2.2.1).toArray, .int .i64 r9.2]), (54, .agg (bx_T_Device r9.1 e.2.2.1 e.2.2.2.1 e.2.2.2.2.1 e.2.2.2.2.2.1).toArray), (55, .int .i64 r9.2)]) (fun e => .res (Box e.2.2.2.2.2.2.1 35 [.string (⟨#[]⟩), .string (⟨#[]⟩), .int .i64 0, .int .i64 0, .int .i64 0, .slice none 0 0, .int .u32 0, .string (⟨#[]⟩), .int .i64 0, .int .i64 0, .int .i64 0, .slice none 0 0, .int .u32 0, .int .i64 0, .int .i64 0, .bool false]) :: .ro (SlL eu8 e.2.2.1 e.2.2.2.1 r9.1.Slots.e0.Image.Data) :: .ro (SlL eu8 e.2.2.2.2.1 e.2.2.2.2.2.1 r9.1.Slots.e1.Image.Data) :: .ro (SlL eu8 e.2.2.2.2.2.2.2.1 e.2.2.2.2.2.2.2.2.1 r8.1.L) :: .res (Box g1 63 [.slice e.2.2.2.2.2.2.2.1 r8.1.L.length e.2.2.2.2.2.2.2.2.1, .int .i64 r8.1.At]) :: .ro (SlL eu8 e.2.2.2.2.2.2.2.2.2.1 e.2.2.2.2.2.2.2.2.2.2 r7.1.L) :: .ro (SlL eu8 e.1 e.2.1 r7.2.Data) :: .ro (SlL eu8 A17 c17 s2.2.2.1) :: .ro (SlL eu8 A16 c16 s2.1.Slots.e1.Image.Data) :: .ro (SlL eu8 A15 c15 s2.1.Slots.e0.Image.Data) :: .res (Box g3 32 (bx_T_Slot x1 A14 c14)) :: .ro (SlL eu8 A14 c14 x1.Image.Data) :: .res (Box g2 35 (bx_T_Device s2.1 A15 c15 A16 c16)) :: R) (fun hnd1_0 => ?mnd1_0) ?tnd1_0
          case mnd1_0 =>
            refine St.share (Y := ?Ynd1_1) (fun (e : Option Addr × Nat × Nat × Option Addr × Nat × Option Addr × Nat) => [(1, .int .u32 sum), (5, .pointer (some ⟨g1, 0, none⟩)), (6, .pointer (some ⟨g2, 0, none⟩)), (7, .pointer (some ⟨g3, 0, none⟩)), (8, .int .i64 s2.2.1), (9, .pointer (some ⟨e.2.2.1, 0, none⟩)), (48, .agg (bx_T_Device s2.1 A15 c15 A16 c16).toArray), (49, .pointer (some ⟨g1, 0, none⟩)), (50, .agg (bx_T_Image r7.2 e.1 e.2.1).toArray), (51, .pointer (some ⟨g1, 0, none⟩)), (52, .int .i64 r8.2)]) (fun e => .res (Box e.2.2.1 35 [.string (⟨#[]⟩), .string (⟨#[]⟩), .int .i64 0, .int .i64 0, .int .i64 0, .slice none 0 0, .int .u32 0, .string (⟨#[]⟩), .int .i64 0, .int .i64 0, .int .i64 0, .slice none 0 0, .int .u32 0, .int .i64 0, .int .i64 0, .bool false]) :: .ro (SlL eu8 e.2.2.2.1 e.2.2.2.2.1 r8.1.L) :: .res (Box g1 63 [.slice e.2.2.2.1 r8.1.L.length e.2.2.2.2.1, .int .i64 r8.1.At]) :: .ro (SlL eu8 e.2.2.2.2.2.1 e.2.2.2.2.2.2 r7.1.L) :: .ro (SlL eu8 e.1 e.2.1 r7.2.Data) :: .ro (SlL eu8 A17 c17 s2.2.2.1) :: .ro (SlL eu8 A16 c16 s2.1.Slots.e1.Image.Data) :: .ro (SlL eu8 A15 c15 s2.1.Slots.e0.Image.Data) :: .res (Box g3 32 (bx_T_Slot x1 A14 c14)) :: .ro (SlL eu8 A14 c14 x1.Image.Data) :: .res (Box g2 35 (bx_T_Device s2.1 A15 c15 A16 c16)) :: R) (fun hnd1_1 => ?mnd1_1) ?tnd1_1
            case mnd1_1 =>
              refine St.share (Y := ?Ynd1_2) (fun (e : Option Addr × Nat × Nat × Option Addr × Nat) => [(1, .int .u32 sum), (5, .pointer (some ⟨g1, 0, none⟩)), (6, .pointer (some ⟨g2, 0, none⟩)), (7, .pointer (some ⟨g3, 0, none⟩)), (8, .int .i64 s2.2.1), (9, .pointer (some ⟨e.2.2.1, 0, none⟩)), (48, .agg (bx_T_Device s2.1 A15 c15 A16 c16).toArray), (49, .pointer (some ⟨g1, 0, none⟩)), (50, .agg (bx_T_Image r7.2 e.1 e.2.1).toArray), (51, .pointer (some ⟨g1, 0, none⟩))]) (fun e => .res (Box e.2.2.1 35 [.string (⟨#[]⟩), .string (⟨#[]⟩), .int .i64 0, .int .i64 0, .int .i64 0, .slice none 0 0, .int .u32 0, .string (⟨#[]⟩), .int .i64 0, .int .i64 0, .int .i64 0, .slice none 0 0, .int .u32 0, .int .i64 0, .int .i64 0, .bool false]) :: .ro (SlL eu8 e.2.2.2.1 e.2.2.2.2 r7.1.L) :: .ro (SlL eu8 e.1 e.2.1 r7.2.Data) :: .res (Box g1 63 [.slice e.2.2.2.1 r7.1.L.length e.2.2.2.2, .int .i64 r7.1.At]) :: .ro (SlL eu8 A17 c17 s2.2.2.1) :: .ro (SlL eu8 A16 c16 s2.1.Slots.e1.Image.Data) :: .ro (SlL eu8 A15 c15 s2.1.Slots.e0.Image.Data) :: .res (Box g3 32 (bx_T_Slot x1 A14 c14)) :: .ro (SlL eu8 A14 c14 x1.Image.Data) :: .res (Box g2 35 (bx_T_Device s2.1 A15 c15 A16 c16)) :: R) (fun hnd1_2 => ?mnd1_2) ?tnd1_2
              case mnd1_2 =>
                refine St.xfl (fun _ h => h) (Rd.loadB 0 rfl (.tail _ (.tail _ (.tail _ (.tail _ (.tail _ (.head _)))))) rfl rfl) rfl ?_
                refine St.xfl (fun _ h => h) (Rd.p rfl) rfl ?_
                refine St.xfl (fun _ h => h) (Rd.p rfl) rfl ?_
                refine St.xalt ?_ ?_
                · refine St.xef ?_
                  refine St.call (c_field_Codes_Image hr7) ent22 rfl rfl rfl (fun _ w => Sat.dup (G := [.ro (SlL eu8 A17 c17 s2.2.2.1)]) rfl ⟨(.tail _ (.head _)), trivial⟩ (w.front (.s (.s (.s (.s (.s (.s .z)))))))) ?_
                  rintro _ _ ⟨A21, c21, A22, c22, rfl, rfl⟩
                  refine St.asrt (F' := .ro (SlL eu8 A21 c21 r7.1.L) :: .ro (SlL eu8 A22 c22 r7.2.Data) :: .res (Box g1 63 [.slice A21 r7.1.L.length c21, .int .i64 r7.1.At]) :: .ro (SlL eu8 A17 c17 s2.2.2.1) :: .ro (SlL eu8 A16 c16 s2.1.Slots.e1.Image.Data) :: .ro (SlL eu8 A15 c15 s2.1.Slots.e0.Image.Data) :: .res (Box g3 32 (bx_T_Slot x1 A14 c14)) :: .ro (SlL eu8 A14 c14 x1.Image.Data) :: .res (Box g2 35 (bx_T_Device s2.1 A15 c15 A16 c16)) :: R) (fun _ w => w) ?_
                  refine St.xk (fun _ w => ((.d (.d (.d (.k (.k (.k (.k (.k (.k .z))))))))) : Keep _ _).sat w) ?_
                  refine St.xalt ?_ ?_
                  · refine St.xef ?_
                    refine St.call (c_field_Codes_Next hr8) ent23 rfl rfl rfl (fun _ w => Sat.dup (G := [.ro (SlL eu8 A21 c21 r7.1.L)]) rfl ⟨(.tail _ (.head _)), trivial⟩ (w.front (.s (.s .z)))) ?_
                    rintro _ _ ⟨A23, c23, rfl, rfl⟩
                    refine St.asrt (F' := .ro (SlL eu8 A23 c23 r8.1.L) :: .res (Box g1 63 [.slice A23 r8.1.L.length c23, .int .i64 r8.1.At]) :: .ro (SlL eu8 A21 c21 r7.1.L) :: .ro (SlL eu8 A22 c22 r7.2.Data) :: .ro (SlL eu8 A17 c17 s2.2.2.1) :: .ro (SlL eu8 A16 c16 s2.1.Slots.e1.Image.Data) :: .ro (SlL eu8 A15 c15 s2.1.Slots.e0.Image.Data) :: .res (Box g3 32 (bx_T_Slot x1 A14 c14)) :: .ro (SlL eu8 A14 c14 x1.Image.Data) :: .res (Box g2 35 (bx_T_Device s2.1 A15 c15 A16 c16)) :: R) (fun _ w => w) ?_
                    refine St.xk (fun _ w => ((.d (.d (.d (.d (.k (.k (.k (.k (.k (.k .z)))))))))) : Keep _ _).sat w) ?_
                    refine St.xalt ?_ ?_
                    · refine St.xef ?_
                      refine St.call (c_bank_Write hr9) ent13 rfl rfl rfl (fun _ w => Sat.dup (G := [.ro (SlL eu8 A15 c15 s2.1.Slots.e0.Image.Data), .ro (SlL eu8 A16 c16 s2.1.Slots.e1.Image.Data), .ro (SlL eu8 A22 c22 r7.2.Data)]) rfl ⟨(.tail _ (.tail _ (.tail _ (.tail _ (.tail _ (.tail _ (.head _))))))), (.tail _ (.tail _ (.tail _ (.tail _ (.tail _ (.head _)))))), (.tail _ (.tail _ (.tail _ (.head _)))), trivial⟩ w) ?_
                      rintro _ _ ⟨A24, c24, A25, c25, rfl, rfl⟩
                      refine St.asrt (F' := .ro (SlL eu8 A24 c24 r9.1.Slots.e0.Image.Data) :: .ro (SlL eu8 A25 c25 r9.1.Slots.e1.Image.Data) :: .ro (SlL eu8 A23 c23 r8.1.L) :: .res (Box g1 63 [.slice A23 r8.1.L.length c23, .int .i64 r8.1.At]) :: .ro (SlL eu8 A21 c21 r7.1.L) :: .ro (SlL eu8 A22 c22 r7.2.Data) :: .ro (SlL eu8 A17 c17 s2.2.2.1) :: .ro (SlL eu8 A16 c16 s2.1.Slots.e1.Image.Data) :: .ro (SlL eu8 A15 c15 s2.1.Slots.e0.Image.Data) :: .res (Box g3 32 (bx_T_Slot x1 A14 c14)) :: .ro (SlL eu8 A14 c14 x1.Image.Data) :: .res (Box g2 35 (bx_T_Device s2.1 A15 c15 A16 c16)) :: R) (fun _ w => w) ?_
                      refine St.xk (fun _ w => ((.d (.d (.d (.d (.d (.d (.k (.k (.k (.k (.k (.k .z)))))))))))) : Keep _ _).sat w) ?_
                      refine St.xfl (fun _ h => h) (Rd.p rfl) rfl ?_
                      refine St.xfl (fun _ h => h) (Rd.p rfl) rfl ?_
                      refine St.xfl (fun _ h => h) (Rd.p rfl) rfl ?_
                      refine St.xef ?_
                      refine St.alloc rfl rfl fun g4 => ?_
                      refine St.xk (fun _ w => ((.d (.d (.d (.d (.d (.d (.d (.k (.k (.k (.k (.k (.k .z))))))))))))) : Keep _ _).sat w) ?_
                      refine hnd1_0 _ _ (A22, c22, A24, c24, A25, c25, g4, A23, c23, A21, c21) ?_ ?_
                      · exact ⟨rfl, rfl, rfl, rfl, rfl, rfl, rfl, rfl, rfl, rfl, rfl, rfl, rfl, rfl, rfl, trivial⟩
                      · exact fun _ w => ((.k (.k (.k (.k (.k (.k (.k (.k (.k (.k (.k (.k (.k .z))))))))))))) : Keep _ _).sat w
                    · refine St.xef ?_
                      refine St.alloc rfl rfl fun g4 => ?_
                      refine St.xk (fun _ w => ((.d (.d (.d (.d (.d (.k (.k (.k (.k (.k (.k .z))))))))))) : Keep _ _).sat w) ?_
                      refine hnd1_1 _ _ (A22, c22, g4, A23, c23, A21, c21) ?_ ?_
                      · exact ⟨rfl, rfl, rfl, rfl, rfl, rfl, rfl, rfl, rfl, rfl, rfl, trivial⟩
                      · exact fun _ w => ((.k (.k (.k (.k (.k (.k (.k (.k (.k (.k (.k .z))))))))))) : Keep _ _).sat w
                  · refine St.xef ?_
                    refine St.alloc rfl rfl fun g4 => ?_
                    refine St.xk (fun _ w => ((.d (.d (.d (.d (.k (.k (.k (.k (.k (.k .z)))))))))) : Keep _ _).sat w) ?_
                    refine hnd1_2 _ _ (A22, c22, g4, A21, c21) ?_ ?_
                    · exact ⟨rfl, rfl, rfl, rfl, rfl, rfl, rfl, rfl, rfl, rfl, trivial⟩
                    · exact fun _ w => ((.k (.k (.k (.k (.k (.k (.k (.k (.k (.k .z)))))))))) : Keep _ _).sat w
                · refine St.xef ?_
                  refine St.alloc rfl rfl fun g4 => ?_
                  refine St.xk (fun _ w => ((.d (.k (.k (.k (.k (.k (.k (.d .z)))))))) : Keep _ _).sat w) ?_
                  refine St.xef ?_
                  refine St.call (c_field_Codes_Image hr7) ent22 rfl rfl rfl (fun _ w => Sat.dup (G := [.ro (SlL eu8 A17 c17 s2.2.2.1)]) rfl ⟨(.tail _ (.tail _ (.head _))), trivial⟩ (w.front (.s (.s (.s (.s (.s (.s (.s .z))))))))) ?_
                  rintro _ _ ⟨A21, c21, A22, c22, rfl, rfl⟩
                  refine St.asrt (F' := .ro (SlL eu8 A21 c21 r7.1.L) :: .ro (SlL eu8 A22 c22 r7.2.Data) :: .res (Box g1 63 [.slice A21 r7.1.L.length c21, .int .i64 r7.1.At]) :: .res (Box g4 35 [.string (⟨#[]⟩), .string (⟨#[]⟩), .int .i64 0, .int .i64 0, .int .i64 0, .slice none 0 0, .int .u32 0, .string (⟨#[]⟩), .int .i64 0, .int .i64 0, .int .i64 0, .slice none 0 0, .int .u32 0, .int .i64 0, .int .i64 0, .bool false]) :: .ro (SlL eu8 A17 c17 s2.2.2.1) :: .ro (SlL eu8 A16 c16 s2.1.Slots.e1.Image.Data) :: .ro (SlL eu8 A15 c15 s2.1.Slots.e0.Image.Data) :: .res (Box g3 32 (bx_T_Slot x1 A14 c14)) :: .ro (SlL eu8 A14 c14 x1.Image.Data) :: .res (Box g2 35 (bx_T_Device s2.1 A15 c15 A16 c16)) :: R) (fun _ w => w) ?_
                  refine St.xk (fun _ w => ((.d (.d (.d (.d (.k (.k (.k (.k (.k (.k .z)))))))))) : Keep _ _).sat w) ?_
                  refine hnd1_2 _ _ (A22, c22, g4, A21, c21) ?_ ?_
                  · exact ⟨rfl, rfl, rfl, rfl, rfl, rfl, rfl, rfl, rfl, rfl, trivial⟩
                  · exact fun _ w => ((.k (.k (.k (.k (.k (.k (.k (.k (.k (.k .z)))))))))) : Keep _ _).sat ((((((((((w.front (.s (.s (.s (.s (.s (.s (.s (.s (.s .z)))))))))).front (.s (.s (.s (.s (.s (.s (.s (.s (.s .z)))))))))).front (.s (.s (.s (.s (.s (.s (.s (.s (.s .z)))))))))).front (.s (.s (.s (.s (.s (.s (.s (.s (.s .z)))))))))).front (.s (.s (.s (.s (.s (.s (.s (.s (.s .z)))))))))).front (.s (.s (.s (.s (.s (.s (.s (.s (.s .z)))))))))).front (.s (.s (.s (.s (.s (.s (.s (.s .z))))))))).front (.s (.s (.s (.s (.s (.s (.s (.s .z))))))))).front (.s (.s (.s (.s (.s (.s (.s (.s .z))))))))).front (.s (.s (.s (.s (.s (.s (.s (.s (.s .z))))))))))
              case tnd1_2 =>
                rintro ⟨A22, c22, g4, A21, c21⟩
                refine St.asrt (F' := .res (Box g4 35 [.string (⟨#[]⟩), .string (⟨#[]⟩), .int .i64 0, .int .i64 0, .int .i64 0, .slice none 0 0, .int .u32 0, .string (⟨#[]⟩), .int .i64 0, .int .i64 0, .int .i64 0, .slice none 0 0, .int .u32 0, .int .i64 0, .int .i64 0, .bool false]) :: .ro (SlL eu8 A21 c21 r7.1.L) :: .ro (SlL eu8 A22 c22 r7.2.Data) :: .res (Box g1 63 [.slice A21 r7.1.L.length c21, .int .i64 r7.1.At]) :: .ro (SlL eu8 A17 c17 s2.2.2.1) :: .ro (SlL eu8 A16 c16 s2.1.Slots.e1.Image.Data) :: .ro (SlL eu8 A15 c15 s2.1.Slots.e0.Image.Data) :: .res (Box g3 32 (bx_T_Slot x1 A14 c14)) :: .ro (SlL eu8 A14 c14 x1.Image.Data) :: .res (Box g2 35 (bx_T_Device s2.1 A15 c15 A16 c16)) :: R) (fun _ w => w) ?_
                refine St.xef ?_
                refine St.call (c_field_Codes_Next hr8) ent23 rfl rfl rfl (fun _ w => Sat.dup (G := [.ro (SlL eu8 A21 c21 r7.1.L)]) rfl ⟨(.tail _ (.tail _ (.head _))), trivial⟩ (w.front (.s (.s (.s .z))))) ?_
                rintro _ _ ⟨A23, c23, rfl, rfl⟩
                refine St.asrt (F' := .ro (SlL eu8 A23 c23 r8.1.L) :: .res (Box g1 63 [.slice A23 r8.1.L.length c23, .int .i64 r8.1.At]) :: .res (Box g4 35 [.string (⟨#[]⟩), .string (⟨#[]⟩), .int .i64 0, .int .i64 0, .int .i64 0, .slice none 0 0, .int .u32 0, .string (⟨#[]⟩), .int .i64 0, .int .i64 0, .int .i64 0, .slice none 0 0, .int .u32 0, .int .i64 0, .int .i64 0, .bool false]) :: .ro (SlL eu8 A21 c21 r7.1.L) :: .ro (SlL eu8 A22 c22 r7.2.Data) :: .ro (SlL eu8 A17 c17 s2.2.2.1) :: .ro (SlL eu8 A16 c16 s2.1.Slots.e1.Image.Data) :: .ro (SlL eu8 A15 c15 s2.1.Slots.e0.Image.Data) :: .res (Box g3 32 (bx_T_Slot x1 A14 c14)) :: .ro (SlL eu8 A14 c14 x1.Image.Data) :: .res (Box g2 35 (bx_T_Device s2.1 A15 c15 A16 c16)) :: R) (fun _ w => w) ?_
                refine St.xk (fun _ w => ((.d (.d (.d (.d (.d (.k (.k (.k (.k (.k (.k .z))))))))))) : Keep _ _).sat w) ?_
                refine hnd1_1 _ _ (A22, c22, g4, A23, c23, A21, c21) ?_ ?_
                · exact ⟨rfl, rfl, rfl, rfl, rfl, rfl, rfl, rfl, rfl, rfl, rfl, trivial⟩
                · exact fun _ w => ((.k (.k (.k (.k (.k (.k (.k (.k (.k (.k (.k .z))))))))))) : Keep _ _).sat (((((((((((w.front (.s (.s (.s (.s (.s (.s (.s (.s (.s (.s .z))))))))))).front (.s (.s (.s (.s (.s (.s (.s (.s (.s (.s .z))))))))))).front (.s (.s (.s (.s (.s (.s (.s (.s (.s (.s .z))))))))))).front (.s (.s (.s (.s (.s (.s (.s (.s (.s (.s .z))))))))))).front (.s (.s (.s (.s (.s (.s (.s (.s (.s (.s .z))))))))))).front (.s (.s (.s (.s (.s (.s (.s (.s (.s (.s .z))))))))))).front (.s (.s (.s (.s (.s (.s (.s (.s (.s (.s .z))))))))))).front (.s (.s (.s (.s (.s (.s (.s (.s (.s (.s .z))))))))))).front (.s (.s (.s (.s (.s (.s (.s (.s (.s .z)))))))))).front (.s (.s (.s (.s (.s (.s (.s (.s (.s .z)))))))))).front (.s (.s (.s (.s (.s (.s (.s (.s (.s (.s .z)))))))))))
            case tnd1_1 =>
              rintro ⟨A22, c22, g4, A23, c23, A21, c21⟩
              refine St.asrt (F' := .res (Box g4 35 [.string (⟨#[]⟩), .string (⟨#[]⟩), .int .i64 0, .int .i64 0, .int .i64 0, .slice none 0 0, .int .u32 0, .string (⟨#[]⟩), .int .i64 0, .int .i64 0, .int .i64 0, .slice none 0 0, .int .u32 0, .int .i64 0, .int .i64 0, .bool false]) :: .ro (SlL eu8 A23 c23 r8.1.L) :: .res (Box g1 63 [.slice A23 r8.1.L.length c23, .int .i64 r8.1.At]) :: .ro (SlL eu8 A21 c21 r7.1.L) :: .ro (SlL eu8 A22 c22 r7.2.Data) :: .ro (SlL eu8 A17 c17 s2.2.2.1) :: .ro (SlL eu8 A16 c16 s2.1.Slots.e1.Image.Data) :: .ro (SlL eu8 A15 c15 s2.1.Slots.e0.Image.Data) :: .res (Box g3 32 (bx_T_Slot x1 A14 c14)) :: .ro (SlL eu8 A14 c14 x1.Image.Data) :: .res (Box g2 35 (bx_T_Device s2.1 A15 c15 A16 c16)) :: R) (fun _ w => w) ?_
              refine St.xef ?_
              refine St.call (c_bank_Write hr9) ent13 rfl rfl rfl (fun _ w => Sat.dup (G := [.ro (SlL eu8 A15 c15 s2.1.Slots.e0.Image.Data), .ro (SlL eu8 A16 c16 s2.1.Slots.e1.Image.Data), .ro (SlL eu8 A22 c22 r7.2.Data)]) rfl ⟨(.tail _ (.tail _ (.tail _ (.tail _ (.tail _ (.tail _ (.tail _ (.head _)))))))), (.tail _ (.tail _ (.tail _ (.tail _ (.tail _ (.tail _ (.head _))))))), (.tail _ (.tail _ (.tail _ (.tail _ (.head _))))), trivial⟩ w) ?_
              rintro _ _ ⟨A24, c24, A25, c25, rfl, rfl⟩
              refine St.asrt (F' := .ro (SlL eu8 A24 c24 r9.1.Slots.e0.Image.Data) :: .ro (SlL eu8 A25 c25 r9.1.Slots.e1.Image.Data) :: .res (Box g4 35 [.string (⟨#[]⟩), .string (⟨#[]⟩), .int .i64 0, .int .i64 0, .int .i64 0, .slice none 0 0, .int .u32 0, .string (⟨#[]⟩), .int .i64 0, .int .i64 0, .int .i64 0, .slice none 0 0, .int .u32 0, .int .i64 0, .int .i64 0, .bool false]) :: .ro (SlL eu8 A23 c23 r8.1.L) :: .res (Box g1 63 [.slice A23 r8.1.L.length c23, .int .i64 r8.1.At]) :: .ro (SlL eu8 A21 c21 r7.1.L) :: .ro (SlL eu8 A22 c22 r7.2.Data) :: .ro (SlL eu8 A17 c17 s2.2.2.1) :: .ro (SlL eu8 A16 c16 s2.1.Slots.e1.Image.Data) :: .ro (SlL eu8 A15 c15 s2.1.Slots.e0.Image.Data) :: .res (Box g3 32 (bx_T_Slot x1 A14 c14)) :: .ro (SlL eu8 A14 c14 x1.Image.Data) :: .res (Box g2 35 (bx_T_Device s2.1 A15 c15 A16 c16)) :: R) (fun _ w => w) ?_
              refine St.xk (fun _ w => ((.d (.d (.d (.d (.d (.d (.d (.k (.k (.k (.k (.k (.k .z))))))))))))) : Keep _ _).sat w) ?_
              refine St.xfl (fun _ h => h) (Rd.p rfl) rfl ?_
              refine St.xfl (fun _ h => h) (Rd.p rfl) rfl ?_
              refine St.xfl (fun _ h => h) (Rd.p rfl) rfl ?_
              refine hnd1_0 _ _ (A22, c22, A24, c24, A25, c25, g4, A23, c23, A21, c21) ?_ ?_
              · exact ⟨rfl, rfl, rfl, rfl, rfl, rfl, rfl, rfl, rfl, rfl, rfl, rfl, rfl, rfl, rfl, trivial⟩
              · exact fun _ w => ((.k (.k (.k (.k (.k (.k (.k (.k (.k (.k (.k (.k (.k .z))))))))))))) : Keep _ _).sat (((((((((((((w.front (.s (.s (.s (.s (.s (.s (.s (.s (.s (.s (.s (.s .z))))))))))))).front (.s (.s (.s (.s (.s (.s (.s (.s (.s (.s (.s (.s .z))))))))))))).front (.s (.s (.s (.s (.s (.s (.s (.s (.s (.s (.s (.s .z))))))))))))).front (.s (.s (.s (.s (.s (.s (.s (.s (.s (.s (.s (.s .z))))))))))))).front (.s (.s (.s (.s (.s (.s (.s (.s (.s (.s (.s (.s .z))))))))))))).front (.s (.s (.s (.s (.s (.s (.s (.s (.s (.s (.s (.s .z))))))))))))).front (.s (.s (.s (.s (.s (.s (.s (.s (.s (.s (.s (.s .z))))))))))))).front (.s (.s (.s (.s (.s (.s (.s (.s (.s (.s (.s (.s .z))))))))))))).front (.s (.s (.s (.s (.s (.s (.s (.s (.s (.s (.s (.s .z))))))))))))).front (.s (.s (.s (.s (.s (.s (.s (.s (.s (.s (.s (.s .z))))))))))))).front (.s (.s (.s (.s (.s (.s (.s (.s (.s (.s (.s .z)))))))))))).front (.s (.s (.s (.s (.s (.s (.s (.s (.s (.s (.s .z)))))))))))).front (.s (.s (.s (.s (.s (.s (.s (.s (.s (.s (.s (.s .z)))))))))))))
          case tnd1_0 =>
            rintro ⟨A22, c22, A24, c24, A25, c25, g4, A23, c23, A21, c21⟩
            refine St.asrt (F' := .res (Box g4 35 [.string (⟨#[]⟩), .string (⟨#[]⟩), .int .i64 0, .int .i64 0, .int .i64 0, .slice none 0 0, .int .u32 0, .string (⟨#[]⟩), .int .i64 0, .int .i64 0, .int .i64 0, .slice none 0 0, .int .u32 0, .int .i64 0, .int .i64 0, .bool false]) :: .ro (SlL eu8 A24 c24 r9.1.Slots.e0.Image.Data) :: .ro (SlL eu8 A25 c25 r9.1.Slots.e1.Image.Data) :: .ro (SlL eu8 A23 c23 r8.1.L) :: .res (Box g1 63 [.slice A23 r8.1.L.length c23, .int .i64 r8.1.At]) :: .ro (SlL eu8 A21 c21 r7.1.L) :: .ro (SlL eu8 A22 c22 r7.2.Data) :: .ro (SlL eu8 A17 c17 s2.2.2.1) :: .ro (SlL eu8 A16 c16 s2.1.Slots.e1.Image.Data) :: .ro (SlL eu8 A15 c15 s2.1.Slots.e0.Image.Data) :: .res (Box g3 32 (bx_T_Slot x1 A14 c14)) :: .ro (SlL eu8 A14 c14 x1.Image.Data) :: .res (Box g2 35 (bx_T_Device s2.1 A15 c15 A16 c16)) :: R) (fun _ w => w) ?_
            refine St.xef ?_
            refine St.store 0 rfl rfl rfl rfl rfl rfl .z rfl ?_
            refine St.xk (fun _ w => ((.d (.d (.d (.d (.d (.d (.d (.k (.k (.k (.k (.k (.k .z))))))))))))) : Keep _ _).sat w) ?_
            refine St.xfl (fun _ h => h) (Rd.p rfl) rfl ?_
            refine St.xdone ?_
            refine St.thenN ?_
            refine St.prune (Γ' := [(1, _), (5, _), (6, _), (7, _), (8, _), (9, _), (10, _)]) ⟨rfl, rfl, rfl, rfl, rfl, rfl, rfl, trivial⟩ (.k (.k (.k (.k (.k (.d (.d (.d (.k (.k (.k (.k (.k .z))))))))))))) ?_
            refine St.seq ?_
            obtain ⟨o6, hj2, h2⟩ := bnd_e h2
            refine St.cutE (fun (e6 : Option Addr × Nat × Option Addr × Nat) => [(1, .int .u32 sum), (5, .pointer (some ⟨g1, 0, none⟩)), (6, .pointer (some ⟨g2, 0, none⟩)), (7, .pointer (some ⟨g3, 0, none⟩)), (8, .int .i64 s2.2.1)]) (fun e6 => .ro (SlL eu8 e6.2.2.1 e6.2.2.2 o6.Slots.e1.Image.Data) :: .ro (SlL eu8 e6.1 e6.2.1 o6.Slots.e0.Image.Data) :: .ro (SlL eu8 A23 c23 r8.1.L) :: .res (Box g1 63 [.slice A23 r8.1.L.length c23, .int .i64 r8.1.At]) :: .res (Box g3 32 (bx_T_Slot x1 A14 c14)) :: .ro (SlL eu8 A14 c14 x1.Image.Data) :: .res (Box g2 35 (bx_T_Device o6 e6.1 e6.2.1 e6.2.2.1 e6.2.2.2)) :: R) ?_ ?_
            · refine St.seq ?_
              refine St.region ?_
              refine St.p rfl rfl ?_
              refine St.p rfl rfl ?_
              refine St.done ?_
              refine St.thenN ?_
              refine St.prune (Γ' := [(1, _), (5, _), (6, _), (7, _), (8, _), (9, _), (57, _)]) ⟨rfl, rfl, rfl, rfl, rfl, rfl, rfl, trivial⟩ (.k (.k (.k (.k (.k (.k (.k (.k (.k (.k .z)))))))))) ?_
              refine St.cond _ rfl (fun hb7 => ?_) (fun hb7 => ?_)
              · replace hj2 := bif_t hb7 hj2
                refine St.region ?_
                refine St.loadB 0 rfl rfl (.head _) rfl rfl ?_
                refine St.store 0 rfl rfl rfl rfl rfl rfl (.s (.s (.s (.s (.s (.s (.s (.s (.s .z))))))))) rfl ?_
                refine St.done ?_
                injection hj2 with hj2
                subst hj2
                refine St.thenN ?_
                exact St.hereE (A24, c24, A25, c25) ⟨rfl, rfl, rfl, rfl, rfl, trivial⟩ (fun _ w => ((.k (.k (.k (.k (.k (.k (.k (.d (.d (.d .z)))))))))) : Keep _ _).sat (((((((w.front .z).front (.s (.s (.s (.s (.s (.s (.s (.s (.s .z)))))))))).front (.s (.s (.s (.s (.s (.s (.s (.s (.s .z)))))))))).front (.s (.s (.s (.s (.s (.s (.s .z)))))))).front (.s (.s (.s (.s (.s (.s (.s .z)))))))).front (.s (.s (.s (.s (.s (.s .z))))))).front (.s (.s (.s (.s (.s (.s (.s .z)))))))))
              · replace hj2 := bif_f hb7 hj2
                refine St.skip ?_
                injection hj2 with hj2
                subst hj2
                refine St.thenN ?_
                exact St.hereE (A15, c15, A16, c16) ⟨rfl, rfl, rfl, rfl, rfl, trivial⟩ (fun _ w => ((.k (.k (.k (.k (.k (.k (.k (.d (.d (.d .z)))))))))) : Keep _ _).sat (((((((w.front (.s (.s (.s (.s (.s (.s (.s (.s (.s .z)))))))))).front (.s (.s (.s (.s (.s (.s (.s (.s (.s .z)))))))))).front (.s (.s (.s (.s (.s (.s (.s (.s (.s .z)))))))))).front (.s (.s (.s (.s (.s (.s (.s .z)))))))).front (.s (.s (.s (.s (.s (.s (.s .z)))))))).front (.s (.s (.s (.s (.s (.s (.s (.s (.s .z)))))))))).front (.s (.s (.s (.s (.s (.s (.s (.s (.s .z)))))))))))
            · rintro ⟨A26, c26, A27, c27⟩
              refine St.seq ?_
              obtain ⟨o7, hj3, h2⟩ := bnd_e h2
              refine St.cutE (fun (e7 : Option Addr × Nat × Option Addr × Nat × Option Addr × Nat) => [(1, .int .u32 sum), (5, .pointer (some ⟨g1, 0, none⟩)), (6, .pointer (some ⟨g2, 0, none⟩)), (7, .pointer (some ⟨g3, 0, none⟩)), (8, .int .i64 s2.2.1)]) (fun e7 => .ro (SlL eu8 e7.2.2.2.2.1 e7.2.2.2.2.2 o7.2.2.Slots.e1.Image.Data) :: .ro (SlL eu8 e7.2.2.1 e7.2.2.2.1 o7.2.2.Slots.e0.Image.Data) :: .ro (SlL eu8 e7.1 e7.2.1 o7.1) :: .res (Box g1 63 [.slice e7.1 o7.1.length e7.2.1, .int .i64 o7.2.1]) :: .res (Box g3 32 (bx_T_Slot x1 A14 c14)) :: .ro (SlL eu8 A14 c14 x1.Image.Data) :: .res (Box g2 35 (bx_T_Device o7.2.2 e7.2.2.1 e7.2.2.2.1 e7.2.2.2.2.1 e7.2.2.2.2.2)) :: R) ?_ ?_
              · refine St.seq ?_
                refine St.region ?_
                refine St.p rfl rfl ?_
                obtain ⟨r10, hr10, hj3⟩ := bnd_e hj3
                refine St.call (c_field_Codes_Next hr10) ent23 rfl rfl rfl (fun _ w => Sat.dup (G := [.ro (SlL eu8 A23 c23 r8.1.L)]) rfl ⟨(.tail _ (.tail _ (.tail _ (.head _)))), trivial⟩ (w.front (.s (.s (.s .z))))) ?_
                rintro _ _ ⟨A31, c31, rfl, rfl⟩
                refine St.asrt (F' := .ro (SlL eu8 A31 c31 r10.1.L) :: .res (Box g1 63 [.slice A31 r10.1.L.length c31, .int .i64 r10.1.At]) :: .ro (SlL eu8 A27 c27 o6.Slots.e1.Image.Data) :: .ro (SlL eu8 A26 c26 o6.Slots.e0.Image.Data) :: .ro (SlL eu8 A23 c23 r8.1.L) :: .res (Box g3 32 (bx_T_Slot x1 A14 c14)) :: .ro (SlL eu8 A14 c14 x1.Image.Data) :: .res (Box g2 35 (bx_T_Device o6 A26 c26 A27 c27)) :: R) (fun _ w => w) ?_
                refine St.p rfl rfl ?_
                refine St.done ?_
                refine St.thenN ?_
                refine St.prune (Γ' := [(1, _), (5, _), (6, _), (7, _), (8, _), (61, _)]) ⟨rfl, rfl, rfl, rfl, rfl, rfl, trivial⟩ (.k (.k (.k (.k (.d (.k (.k (.k .z)))))))) ?_
                refine St.cond _ rfl (fun hb8 => ?_) (fun hb8 => ?_)
                · replace hj3 := bif_t hb8 hj3
                  obtain ⟨r11, hr11, hj3⟩ := bnd_e hj3
                  obtain ⟨r12, hr12, hj3⟩ := bnd_e hj3
                  refine St.regionX (iL [(.fl, 1), (.fl, 3)] (.alt (iL [(.ef, 0)] (iL [(.ef, 2)] (iL [(.ef, 4)] (iL [(.ef, 5)] .nil)))) (iL [(.ef, 2)] (iL [(.ef, 0)] (iL [(.ef, 4)] (iL [(.ef, 5)] .nil)))))) (.ro (SlL eu8 A31 c31 r10.1.L) :: .ro (SlL eu8 A27 c27 o6.Slots.e1.Image.Data) :: .ro (SlL eu8 A26 c26 o6.Slots.e0.Image.Data) :: .res (Box g3 32 (bx_T_Slot x1 A14 c14)) :: .ro (SlL eu8 A14 c14 x1.Image.Data) :: R) mixed (by kernel_rfl) (fun _ w => ((.k (.d (.k (.k (.k (.k (.d .z))))))) : Keep _ _).sat w) ?_
                  refine St.share (Y := ?Ynd2_0) (fun (e : Option Addr × Nat × Option Addr × Nat) => [(1, .int .u32 sum), (5, .pointer (some ⟨g1, 0, none⟩)), (6, .pointer (some ⟨g2, 0, none⟩)), (7, .pointer (some ⟨g3, 0, none⟩)), (8, .int .i64 s2.2.1), (61, .bool (r10.2 == 2)), (62, .agg (bx_T_Device o6 A26 c26 A27 c27).toArray), (63, .pointer (some ⟨g1, 0, none⟩)), (64, .agg (bx_T_Image r11.2 e.1 e.2.1).toArray), (65, .int .u32 sum)]) (fun e => .ro (SlL eu8 e.2.2.1 e.2.2.2 r11.1.L) :: .ro (SlL eu8 e.1 e.2.1 r11.2.Data) :: .res (Box g1 63 [.slice e.2.2.1 r11.1.L.length e.2.2.2, .int .i64 r11.1.At]) :: .ro (SlL eu8 A31 c31 r10.1.L) :: .ro (SlL eu8 A27 c27 o6.Slots.e1.Image.Data) :: .ro (SlL eu8 A26 c26 o6.Slots.e0.Image.Data) :: .res (Box g3 32 (bx_T_Slot x1 A14 c14)) :: .ro (SlL eu8 A14 c14 x1.Image.Data) :: .res (Box g2 35 (bx_T_Device o6 A26 c26 A27 c27)) :: R) (fun hnd2_0 => ?mnd2_0) ?tnd2_0
                  case mnd2_0 =>
                    refine St.xfl (fun _ h => h) (Rd.p rfl) rfl ?_
                    refine St.xfl (fun _ h => h) (Rd.p rfl) rfl ?_
                    refine St.xalt ?_ ?_
                    · refine St.xef ?_
                      refine St.loadB 0 rfl rfl (.tail _ (.tail _ (.tail _ (.tail _ (.tail _ (.tail _ (.head _))))))) rfl rfl ?_
                      refine St.xk (fun _ w => ((.k (.d (.k (.k (.k (.k (.d .z))))))) : Keep _ _).sat w) ?_
                      refine St.xef ?_
                      refine St.call (c_field_Codes_Image hr11) ent22 rfl rfl rfl (fun _ w => Sat.dup (G := [.ro (SlL eu8 A31 c31 r10.1.L)]) rfl ⟨(.tail _ (.head _)), trivial⟩ (w.front (.s .z))) ?_
                      rintro _ _ ⟨A32, c32, A33, c33, rfl, rfl⟩
                      refine St.asrt (F' := .ro (SlL eu8 A32 c32 r11.1.L) :: .ro (SlL eu8 A33 c33 r11.2.Data) :: .res (Box g1 63 [.slice A32 r11.1.L.length c32, .int .i64 r11.1.At]) :: .ro (SlL eu8 A31 c31 r10.1.L) :: .ro (SlL eu8 A27 c27 o6.Slots.e1.Image.Data) :: .ro (SlL eu8 A26 c26 o6.Slots.e0.Image.Data) :: .res (Box g3 32 (bx_T_Slot x1 A14 c14)) :: .ro (SlL eu8 A14 c14 x1.Image.Data) :: .res (Box g2 35 (bx_T_Device o6 A26 c26 A27 c27)) :: R) (fun _ w => w) ?_
                      refine St.xk (fun _ w => ((.d (.d (.d (.k (.k (.k (.k (.k (.d .z))))))))) : Keep _ _).sat w) ?_
                      refine hnd2_0 _ _ (A33, c33, A32, c32) ?_ ?_
                      · exact ⟨rfl, rfl, rfl, rfl, rfl, rfl, rfl, rfl, rfl, rfl, trivial⟩
                      · exact fun _ w => ((.k (.k (.k (.k (.k (.k (.k (.k (.k .z))))))))) : Keep _ _).sat w
                    · refine St.xef ?_
                      refine St.call (c_field_Codes_Image hr11) ent22 rfl rfl rfl (fun _ w => Sat.dup (G := [.ro (SlL eu8 A31 c31 r10.1.L)]) rfl ⟨(.tail _ (.head _)), trivial⟩ (w.front (.s .z))) ?_
                      rintro _ _ ⟨A32, c32, A33, c33, rfl, rfl⟩
                      refine St.asrt (F' := .ro (SlL eu8 A32 c32 r11.1.L) :: .ro (SlL eu8 A33 c33 r11.2.Data) :: .res (Box g1 63 [.slice A32 r11.1.L.length c32, .int .i64 r11.1.At]) :: .ro (SlL eu8 A31 c31 r10.1.L) :: .ro (SlL eu8 A27 c27 o6.Slots.e1.Image.Data) :: .ro (SlL eu8 A26 c26 o6.Slots.e0.Image.Data) :: .res (Box g3 32 (bx_T_Slot x1 A14 c14)) :: .ro (SlL eu8 A14 c14 x1.Image.Data) :: .res (Box g2 35 (bx_T_Device o6 A26 c26 A27 c27)) :: R) (fun _ w => w) ?_
                      refine St.xk (fun _ w => ((.d (.d (.d (.k (.k (.k (.k (.k (.d .z))))))))) : Keep _ _).sat w) ?_
                      refine St.xef ?_
                      refine St.loadB 0 rfl rfl (.tail _ (.tail _ (.tail _ (.tail _ (.tail _ (.tail _ (.tail _ (.tail _ (.head _))))))))) rfl rfl ?_
                      refine St.xk (fun _ w => ((.d (.d (.d (.k (.k (.k (.k (.k (.d .z))))))))) : Keep _ _).sat w) ?_
                      refine hnd2_0 _ _ (A33, c33, A32, c32) ?_ ?_
                      · exact ⟨rfl, rfl, rfl, rfl, rfl, rfl, rfl, rfl, rfl, rfl, trivial⟩
                      · exact fun _ w => ((.k (.k (.k (.k (.k (.k (.k (.k (.k .z))))))))) : Keep _ _).sat w
                  case tnd2_0 =>
                    rintro ⟨A33, c33, A32, c32⟩
                    refine St.asrt (F' := .ro (SlL eu8 A32 c32 r11.1.L) :: .ro (SlL eu8 A33 c33 r11.2.Data) :: .res (Box g1 63 [.slice A32 r11.1.L.length c32, .int .i64 r11.1.At]) :: .ro (SlL eu8 A31 c31 r10.1.L) :: .ro (SlL eu8 A27 c27 o6.Slots.e1.Image.Data) :: .ro (SlL eu8 A26 c26 o6.Slots.e0.Image.Data) :: .res (Box g3 32 (bx_T_Slot x1 A14 c14)) :: .ro (SlL eu8 A14 c14 x1.Image.Data) :: .res (Box g2 35 (bx_T_Device o6 A26 c26 A27 c27)) :: R) (fun _ w => w) ?_
                    refine St.xef ?_
                    refine St.call (c_bank_Spoil hr12) ent24 rfl rfl rfl (fun _ w => Sat.dup (G := [.ro (SlL eu8 A26 c26 o6.Slots.e0.Image.Data), .ro (SlL eu8 A27 c27 o6.Slots.e1.Image.Data), .ro (SlL eu8 A33 c33 r11.2.Data)]) rfl ⟨(.tail _ (.tail _ (.tail _ (.tail _ (.tail _ (.head _)))))), (.tail _ (.tail _ (.tail _ (.tail _ (.head _))))), (.tail _ (.head _)), trivial⟩ w) ?_
                    rintro _ _ ⟨A34, c34, A35, c35, rfl, rfl⟩
                    refine St.asrt (F' := .ro (SlL eu8 A34 c34 r12.Slots.e0.Image.Data) :: .ro (SlL eu8 A35 c35 r12.Slots.e1.Image.Data) :: .ro (SlL eu8 A32 c32 r11.1.L) :: .ro (SlL eu8 A33 c33 r11.2.Data) :: .res (Box g1 63 [.slice A32 r11.1.L.length c32, .int .i64 r11.1.At]) :: .ro (SlL eu8 A31 c31 r10.1.L) :: .ro (SlL eu8 A27 c27 o6.Slots.e1.Image.Data) :: .ro (SlL eu8 A26 c26 o6.Slots.e0.Image.Data) :: .res (Box g3 32 (bx_T_Slot x1 A14 c14)) :: .ro (SlL eu8 A14 c14 x1.Image.Data) :: .res (Box g2 35 (bx_T_Device o6 A26 c26 A27 c27)) :: R) (fun _ w => w) ?_
                    refine St.xk (fun _ w => ((.d (.d (.d (.d (.d (.k (.k (.k (.k (.k (.d .z))))))))))) : Keep _ _).sat w) ?_
                    refine St.xef ?_
                    refine St.store 0 rfl rfl rfl rfl rfl rfl (.s (.s (.s (.s (.s (.s (.s (.s (.s (.s .z)))))))))) rfl ?_
                    refine St.xk (fun _ w => ((.d (.d (.d (.d (.d (.d (.k (.k (.k (.k (.k .z))))))))))) : Keep _ _).sat w) ?_
                    refine St.xdone ?_
                    injection hj3 with hj3
                    subst hj3
                    refine St.thenN ?_
                    exact St.hereE (A32, c32, A34, c34, A35, c35) ⟨rfl, rfl, rfl, rfl, rfl, trivial⟩ (fun _ w => ((.k (.k (.k (.k (.k (.k (.k (.d (.d (.d (.d .z))))))))))) : Keep _ _).sat (((((((w.front .z).front (.s (.s (.s (.s (.s (.s (.s (.s (.s (.s .z))))))))))).front (.s (.s (.s (.s (.s (.s (.s (.s (.s (.s .z))))))))))).front (.s (.s (.s (.s (.s (.s (.s .z)))))))).front (.s (.s (.s (.s (.s (.s .z))))))).front (.s (.s (.s (.s (.s .z)))))).front (.s (.s (.s (.s (.s (.s .z))))))))
                · replace hj3 := bif_f hb8 hj3
                  refine St.skip ?_
                  injection hj3 with hj3
                  subst hj3
                  refine St.thenN ?_
                  exact St.hereE (A31, c31, A26, c26, A27, c27) ⟨rfl, rfl, rfl, rfl, rfl, trivial⟩ (fun _ w => ((.k (.k (.k (.k (.k (.k (.k .z))))))) : Keep _ _).sat (((((((w.front (.s (.s (.s (.s (.s (.s .z))))))).front (.s (.s (.s (.s (.s (.s .z))))))).front (.s (.s (.s (.s (.s (.s .z))))))).front (.s (.s (.s (.s .z))))).front (.s (.s (.s (.s .z))))).front (.s (.s (.s (.s (.s (.s .z))))))).front (.s (.s (.s (.s (.s (.s .z))))))))
              · rintro ⟨A28, c28, A29, c29, A30, c30⟩
                refine St.seq ?_
                obtain ⟨o8, hj4, h2⟩ := bnd_e h2
                refine St.cutE (fun (e8 : Unit) => [(1, .int .u32 sum), (5, .pointer (some ⟨g1, 0, none⟩)), (6, .pointer (some ⟨g2, 0, none⟩)), (7, .pointer (some ⟨g3, 0, none⟩)), (8, .int .i64 s2.2.1), (104, .bool o8)]) (fun e8 => .ro (SlL eu8 A30 c30 o7.2.2.Slots.e1.Image.Data) :: .ro (SlL eu8 A29 c29 o7.2.2.Slots.e0.Image.Data) :: .ro (SlL eu8 A28 c28 o7.1) :: .res (Box g1 63 [.slice A28 o7.1.length c28, .int .i64 o7.2.1]) :: .res (Box g3 32 (bx_T_Slot x1 A14 c14)) :: .ro (SlL eu8 A14 c14 x1.Image.Data) :: .res (Box g2 35 (bx_T_Device o7.2.2 A29 c29 A30 c30)) :: R) ?_ ?_
                · refine St.regionF mixed (by kernel_rfl) ?_
                  refine St.p rfl rfl ?_
                  refine St.loadB 14 rfl rfl (.tail _ (.tail _ (.tail _ (.tail _ (.tail _ (.tail _ (.head _))))))) rfl rfl ?_
                  refine St.p rfl rfl ?_
                  refine St.loadB 13 rfl rfl (.tail _ (.tail _ (.tail _ (.tail _ (.tail _ (.tail _ (.head _))))))) rfl rfl ?_
                  refine St.p rfl rfl ?_
                  refine St.p rfl rfl ?_
                  refine St.gSplit (dj := 72) _ rfl (fun hb9 => ?_) (fun hb9 => ?_)
                  · replace hj4 := bif_t hb9 hj4
                    refine St.gOff (dj := 72) rfl rfl rfl rfl ?_
                    refine St.gOff (dj := 72) rfl rfl rfl rfl ?_
                    refine St.gOff (dj := 72) rfl rfl rfl rfl ?_
                    refine St.p rfl rfl ?_
                    refine St.p rfl rfl ?_
                    refine St.gOff (dj := 77) rfl rfl rfl rfl ?_
                    refine St.gOff (dj := 77) rfl rfl rfl rfl ?_
                    refine St.gOff (dj := 77) rfl rfl rfl rfl ?_
                    refine St.p rfl rfl ?_
                    refine St.p rfl rfl ?_
                    refine St.gOff (dj := 82) rfl rfl rfl rfl ?_
                    refine St.gOff (dj := 82) rfl rfl rfl rfl ?_
                    refine St.gOff (dj := 82) rfl rfl rfl rfl ?_
                    refine St.gOff (dj := 82) rfl rfl rfl rfl ?_
                    refine St.gOff (dj := 82) rfl rfl rfl rfl ?_
                    refine St.gOff (dj := 82) rfl rfl rfl rfl ?_
                    refine St.gOff (dj := 82) rfl rfl rfl rfl ?_
                    refine St.gOff (dj := 82) rfl rfl rfl rfl ?_
                    refine St.gOff (dj := 82) rfl rfl rfl rfl ?_
                    refine St.p rfl rfl ?_
                    refine St.p rfl rfl ?_
                    refine St.gOff (dj := 93) rfl rfl rfl rfl ?_
                    refine St.gOff (dj := 93) rfl rfl rfl rfl ?_
                    refine St.gOff (dj := 93) rfl rfl rfl rfl ?_
                    refine St.gOff (dj := 93) rfl rfl rfl rfl ?_
                    refine St.gOff (dj := 93) rfl rfl rfl rfl ?_
                    refine St.gOff (dj := 93) rfl rfl rfl rfl ?_
                    refine St.gOff (dj := 93) rfl rfl rfl rfl ?_
                    refine St.gOff (dj := 93) rfl rfl rfl rfl ?_
                    refine St.gOff (dj := 93) rfl rfl rfl rfl ?_
                    refine St.gOff (dj := 93) rfl rfl rfl rfl ?_
                    refine St.p rfl rfl ?_
                    refine St.doneQ ?_
                    injection hj4 with hj4
                    subst hj4
                    refine St.thenN ?_
                    exact St.hereE () ⟨rfl, rfl, rfl, rfl, rfl, rfl, trivial⟩ (fun _ w => ((.k (.k (.k (.k (.k (.k (.k .z))))))) : Keep _ _).sat w)
                  · replace hj4 := bif_f hb9 hj4
                    refine St.gOn (dj := 72) rfl rfl ?_
                    refine St.p rfl rfl ?_
                    refine St.gOn (dj := 72) rfl rfl ?_
                    refine St.loadB 14 rfl rfl (.tail _ (.tail _ (.tail _ (.tail _ (.tail _ (.tail _ (.head _))))))) rfl rfl ?_
                    refine St.gOn (dj := 72) rfl rfl ?_
                    iterate 3 refine St.p rfl rfl ?_
                    refine St.gSplit (dj := 77) _ rfl (fun hb10 => ?_) (fun hb10 => ?_)
                    · replace hj4 := bif_t hb10 hj4
                      refine St.gOff (dj := 77) rfl rfl rfl rfl ?_
                      refine St.gOff (dj := 77) rfl rfl rfl rfl ?_
                      refine St.gOff (dj := 77) rfl rfl rfl rfl ?_
                      refine St.p rfl rfl ?_
                      refine St.p rfl rfl ?_
                      refine St.gOff (dj := 82) rfl rfl rfl rfl ?_
                      refine St.gOff (dj := 82) rfl rfl rfl rfl ?_
                      refine St.gOff (dj := 82) rfl rfl rfl rfl ?_
                      refine St.gOff (dj := 82) rfl rfl rfl rfl ?_
                      refine St.gOff (dj := 82) rfl rfl rfl rfl ?_
                      refine St.gOff (dj := 82) rfl rfl rfl rfl ?_
                      refine St.gOff (dj := 82) rfl rfl rfl rfl ?_
                      refine St.gOff (dj := 82) rfl rfl rfl rfl ?_
                      refine St.gOff (dj := 82) rfl rfl rfl rfl ?_
                      refine St.p rfl rfl ?_
                      refine St.p rfl rfl ?_
                      refine St.gOff (dj := 93) rfl rfl rfl rfl ?_
                      refine St.gOff (dj := 93) rfl rfl rfl rfl ?_
                      refine St.gOff (dj := 93) rfl rfl rfl rfl ?_
                      refine St.gOff (dj := 93) rfl rfl rfl rfl ?_
                      refine St.gOff (dj := 93) rfl rfl rfl rfl ?_
                      refine St.gOff (dj := 93) rfl rfl rfl rfl ?_
                      refine St.gOff (dj := 93) rfl rfl rfl rfl ?_
                      refine St.gOff (dj := 93) rfl rfl rfl rfl ?_
                      refine St.gOff (dj := 93) rfl rfl rfl rfl ?_
                      refine St.gOff (dj := 93) rfl rfl rfl rfl ?_
                      refine St.p rfl rfl ?_
                      refine St.doneQ ?_
                      injection hj4 with hj4
                      subst hj4
                      refine St.thenN ?_
                      exact St.hereE () ⟨rfl, rfl, rfl, rfl, rfl, rfl, trivial⟩ (fun _ w => ((.k (.k (.k (.k (.k (.k (.k .z))))))) : Keep _ _).sat w)
                    · replace hj4 := bif_f hb10 hj4
                      refine St.gOn (dj := 77) rfl rfl ?_
                      refine St.p rfl rfl ?_
                      refine St.gOn (dj := 77) rfl rfl ?_
                      refine St.loadB 14 rfl rfl (.tail _ (.tail _ (.tail _ (.tail _ (.tail _ (.tail _ (.head _))))))) rfl rfl ?_
                      refine St.gOn (dj := 77) rfl rfl ?_
                      iterate 3 refine St.p rfl rfl ?_
                      refine St.gSplit (dj := 82) _ rfl (fun hb11 => ?_) (fun hb11 => ?_)
                      · replace hj4 := bif_t hb11 hj4
                        refine St.gOff (dj := 82) rfl rfl rfl rfl ?_
                        refine St.gOff (dj := 82) rfl rfl rfl rfl ?_
                        refine St.gOff (dj := 82) rfl rfl rfl rfl ?_
                        refine St.gOff (dj := 82) rfl rfl rfl rfl ?_
                        refine St.gOff (dj := 82) rfl rfl rfl rfl ?_
                        refine St.gOff (dj := 82) rfl rfl rfl rfl ?_
                        refine St.gOff (dj := 82) rfl rfl rfl rfl ?_
                        refine St.gOff (dj := 82) rfl rfl rfl rfl ?_
                        refine St.gOff (dj := 82) rfl rfl rfl rfl ?_
                        refine St.p rfl rfl ?_
                        refine St.p rfl rfl ?_
                        refine St.gOff (dj := 93) rfl rfl rfl rfl ?_
                        refine St.gOff (dj := 93) rfl rfl rfl rfl ?_
                        refine St.gOff (dj := 93) rfl rfl rfl rfl ?_
                        refine St.gOff (dj := 93) rfl rfl rfl rfl ?_
                        refine St.gOff (dj := 93) rfl rfl rfl rfl ?_
                        refine St.gOff (dj := 93) rfl rfl rfl rfl ?_
                        refine St.gOff (dj := 93) rfl rfl rfl rfl ?_
                        refine St.gOff (dj := 93) rfl rfl rfl rfl ?_
                        refine St.gOff (dj := 93) rfl rfl rfl rfl ?_
                        refine St.gOff (dj := 93) rfl rfl rfl rfl ?_
                        refine St.p rfl rfl ?_
                        refine St.doneQ ?_
                        injection hj4 with hj4
                        subst hj4
                        refine St.thenN ?_
                        exact St.hereE () ⟨rfl, rfl, rfl, rfl, rfl, rfl, trivial⟩ (fun _ w => ((.k (.k (.k (.k (.k (.k (.k .z))))))) : Keep _ _).sat w)
                      · replace hj4 := bif_f hb11 hj4
                        refine St.gOn (dj := 82) rfl rfl ?_
                        refine St.p rfl rfl ?_
                        refine St.gOn (dj := 82) rfl rfl ?_
                        refine St.loadB 14 rfl rfl (.tail _ (.tail _ (.tail _ (.tail _ (.tail _ (.tail _ (.head _))))))) rfl rfl ?_
                        refine St.gOn (dj := 82) rfl rfl ?_
                        refine St.p rfl rfl ?_
                        refine St.gOn (dj := 82) rfl rfl ?_
                        obtain ⟨x2, hx2, hj4⟩ := bnd_e hj4
                        refine St.ixP (sz := 6) hx2 rfl rfl rfl rfl rfl rfl rfl rfl ?_
                        refine St.gOn (dj := 82) rfl rfl ?_
                        refine St.p rfl rfl ?_
                        refine St.gOn (dj := 82) rfl rfl ?_
                        refine St.ldP (ls := l_T_Slot) 5 [.string o7.2.2.Name] [.int .i64 o7.2.2.Active, .int .i64 o7.2.2.Running, .bool o7.2.2.Trial] [(o7.2.2.Slots.e0, ((A29, c29), ())), (o7.2.2.Slots.e1, ((A30, c30), ()))] (fun ex => .int .u32 x2.Sum) hx2 rfl rfl (.tail _ (.tail _ (.tail _ (.tail _ (.tail _ (.tail _ (.head _))))))) rfl rfl rfl ⟨(.tail _ (.head _)), (.head _), trivial⟩ rfl (fun _ => rfl) fun ex2 => ?_
                        obtain ⟨⟨A36, c36⟩, _⟩ := ex2
                        refine St.asrt (F' := .ro (SlL eu8 A36 c36 x2.Image.Data) :: .ro (SlL eu8 A30 c30 o7.2.2.Slots.e1.Image.Data) :: .ro (SlL eu8 A29 c29 o7.2.2.Slots.e0.Image.Data) :: .ro (SlL eu8 A28 c28 o7.1) :: .res (Box g1 63 [.slice A28 o7.1.length c28, .int .i64 o7.2.1]) :: .res (Box g3 32 (bx_T_Slot x1 A14 c14)) :: .ro (SlL eu8 A14 c14 x1.Image.Data) :: .res (Box g2 35 (bx_T_Device o7.2.2 A29 c29 A30 c30)) :: R) (fun _ w => w) ?_
                        refine St.gOn (dj := 82) rfl rfl ?_
                        refine St.p rfl rfl ?_
                        refine St.gOn (dj := 82) rfl rfl ?_
                        refine St.loadB 5 rfl rfl (.tail _ (.tail _ (.tail _ (.tail _ (.tail _ (.head _)))))) rfl rfl ?_
                        refine St.gOn (dj := 82) rfl rfl ?_
                        iterate 3 refine St.p rfl rfl ?_
                        refine St.gSplit (dj := 93) _ rfl (fun hb12 => ?_) (fun hb12 => ?_)
                        · replace hj4 := bif_t hb12 hj4
                          refine St.gOff (dj := 93) rfl rfl rfl rfl ?_
                          refine St.gOff (dj := 93) rfl rfl rfl rfl ?_
                          refine St.gOff (dj := 93) rfl rfl rfl rfl ?_
                          refine St.gOff (dj := 93) rfl rfl rfl rfl ?_
                          refine St.gOff (dj := 93) rfl rfl rfl rfl ?_
                          refine St.gOff (dj := 93) rfl rfl rfl rfl ?_
                          refine St.gOff (dj := 93) rfl rfl rfl rfl ?_
                          refine St.gOff (dj := 93) rfl rfl rfl rfl ?_
                          refine St.gOff (dj := 93) rfl rfl rfl rfl ?_
                          refine St.gOff (dj := 93) rfl rfl rfl rfl ?_
                          refine St.p rfl rfl ?_
                          refine St.doneQ ?_
                          injection hj4 with hj4
                          subst hj4
                          refine St.thenN ?_
                          exact St.hereE () ⟨rfl, rfl, rfl, rfl, rfl, rfl, trivial⟩ (fun _ w => ((.d (.k (.k (.k (.k (.k (.k (.k .z)))))))) : Keep _ _).sat w)
                        · replace hj4 := bif_f hb12 hj4
                          refine St.gOn (dj := 93) rfl rfl ?_
                          refine St.p rfl rfl ?_
                          refine St.gOn (dj := 93) rfl rfl ?_
                          refine St.loadB 14 rfl rfl (.tail _ (.tail _ (.tail _ (.tail _ (.tail _ (.tail _ (.tail _ (.head _)))))))) rfl rfl ?_
                          refine St.gOn (dj := 93) rfl rfl ?_
                          refine St.p rfl rfl ?_
                          refine St.gOn (dj := 93) rfl rfl ?_
                          refine St.ixP (sz := 6) hx2 rfl rfl rfl rfl rfl rfl rfl rfl ?_
                          refine St.gOn (dj := 93) rfl rfl ?_
                          refine St.p rfl rfl ?_
                          refine St.gOn (dj := 93) rfl rfl ?_
                          refine St.ldP (ls := l_T_Slot) 0 [.string o7.2.2.Name] [.int .i64 o7.2.2.Active, .int .i64 o7.2.2.Running, .bool o7.2.2.Trial] [(o7.2.2.Slots.e0, ((A29, c29), ())), (o7.2.2.Slots.e1, ((A30, c30), ()))] (fun ex => .agg (bx_T_Image x2.Image ex.1.1 ex.1.2).toArray) hx2 rfl rfl (.tail _ (.tail _ (.tail _ (.tail _ (.tail _ (.tail _ (.tail _ (.head _)))))))) rfl rfl rfl ⟨(.tail _ (.tail _ (.head _))), (.tail _ (.head _)), trivial⟩ rfl (fun _ => rfl) fun ex3 => ?_
                          obtain ⟨⟨A37, c37⟩, _⟩ := ex3
                          refine St.asrt (F' := .ro (SlL eu8 A37 c37 x2.Image.Data) :: .ro (SlL eu8 A36 c36 x2.Image.Data) :: .ro (SlL eu8 A30 c30 o7.2.2.Slots.e1.Image.Data) :: .ro (SlL eu8 A29 c29 o7.2.2.Slots.e0.Image.Data) :: .ro (SlL eu8 A28 c28 o7.1) :: .res (Box g1 63 [.slice A28 o7.1.length c28, .int .i64 o7.2.1]) :: .res (Box g3 32 (bx_T_Slot x1 A14 c14)) :: .ro (SlL eu8 A14 c14 x1.Image.Data) :: .res (Box g2 35 (bx_T_Device o7.2.2 A29 c29 A30 c30)) :: R) (fun _ w => w) ?_
                          refine St.gOn (dj := 93) rfl rfl ?_
                          refine St.p rfl rfl ?_
                          refine St.gOn (dj := 93) rfl rfl ?_
                          refine St.loadB 0 rfl rfl (.tail _ (.tail _ (.tail _ (.tail _ (.tail _ (.tail _ (.head _))))))) rfl rfl ?_
                          refine St.gOn (dj := 93) rfl rfl ?_
                          obtain ⟨r13, hr13, hj4⟩ := bnd_e hj4
                          refine St.callV (c_ref28_SameImage hr13) ent17 rfl rfl rfl rfl ⟨(.head _), (.tail _ (.tail _ (.tail _ (.tail _ (.tail _ (.tail _ (.tail _ (.head _)))))))), trivial⟩ ?_
                          refine St.gOn (dj := 93) rfl rfl ?_
                          refine St.p rfl rfl ?_
                          refine St.p rfl rfl ?_
                          refine St.doneQ ?_
                          injection hj4 with hj4
                          subst hj4
                          refine St.thenN ?_
                          exact St.hereE () ⟨rfl, rfl, rfl, rfl, rfl, rfl, trivial⟩ (fun _ w => ((.d (.d (.k (.k (.k (.k (.k (.k (.k .z))))))))) : Keep _ _).sat w)
                · rintro e8
                  refine St.cond _ rfl (fun hb13 => ?_) (fun hb13 => ?_)
                  · replace h2 := bif_t hb13 h2
                    refine St.seq ?_
                    refine St.region ?_
                    refine St.p rfl rfl ?_
                    refine St.done ?_
                    refine St.thenN ?_
                    refine St.prune (Γ' := [(4, _)]) ⟨rfl, trivial⟩ (.d (.d (.d (.d (.d (.d (.d .z))))))) ?_
                    refine St.ret ?_
                    repeat (first | refine St.thenR ?_ | refine St.blkR ?_)
                    injection h2 with h2
                    subst h2
                    have ho := hd2 _ rfl
                    subst ho
                    have h : some _ = some _ := h
                    injection h with h
                    subst h
                    exact St.finR Try.results5 (.tmp rfl .nil) rfl [] ⟨rfl, rfl⟩ (fun _ w => (.z : Keep _ _).sat w)
                  · replace h2 := bif_f hb13 h2
                    refine St.skip ?_
                    refine St.blkN ?_
                    refine St.thenN ?_
                    refine St.prune (Γ' := [(1, _), (5, _), (6, _), (7, _), (8, _)]) ⟨rfl, rfl, rfl, rfl, rfl, trivial⟩ (.k (.k (.k (.k (.k (.k (.k .z))))))) ?_
                    refine St.region ?_
                    iterate 3 refine St.p rfl rfl ?_
                    refine St.done ?_
                    injection h2 with h2
                    subst h2
                    refine St.thenN ?_
                    exact St.again _ (A29, c29, A30, c30, A28, c28) hm2 trivial ⟨rfl, rfl, rfl, rfl, rfl, trivial⟩ (fun _ w => ((.k (.k (.k (.k (.k (.k (.k .z))))))) : Keep _ _).sat (((((((w.front (.s (.s (.s .z)))).front (.s (.s (.s (.s (.s (.s .z))))))).front (.s (.s (.s (.s (.s (.s .z))))))).front (.s (.s (.s (.s (.s (.s .z))))))).front (.s (.s (.s (.s (.s .z)))))).front (.s (.s (.s (.s (.s .z)))))).front (.s (.s (.s (.s (.s (.s .z))))))))
        · replace h2 := bif_f hb6 h2
          refine St.exit ?_
          repeat (first | refine St.thenX ?_ | refine St.blkMiss rfl ?_)
          refine St.blkHit ?_
          injection h2 with h2
          subst h2
          have ho := hd2 _ rfl
          subst ho
          refine St.thenN ?_
          exact St.hereI (s2.1, s2.2.2.1, s2.2.2.2) (A15, c15, A16, c16, A17, c17) rfl trivial (fun _ w => ((.d (.d (.d (.d (.d (.d (.d .z))))))) : Keep _ _).sat w)
      · rintro o5 ⟨A18, c18, A19, c19, A20, c20⟩ ho
        subst ho
        have h : _ = some _ := h
        refine St.seq ?_
        refine St.region ?_
        refine St.p rfl rfl ?_
        refine St.done ?_
        refine St.thenN ?_
        refine St.ret ?_
        repeat (first | refine St.thenR ?_ | refine St.blkR ?_)
        injection h with h
        subst h
        exact St.finR Try.results5 (.tmp rfl .nil) rfl [] ⟨rfl, rfl⟩ (fun _ w => (.z : Keep _ _).sat w)

end Go.Proofs.Ytcjhemblnemhfaa
