/-
  Models of functions of the program, and that the functions compute them.
  Conditions: none.
-/
import Derived.Test.YtcjhemblnemhfaaGen
namespace Go.Proofs.Ytcjhemblnemhfaa
open Go
set_option linter.unusedVariables false

theorem ent72 : Ent Try.prog 72 := ⟨_, Try.func72, by kernel_rfl, by kernel_rfl⟩

noncomputable def m_field_names  : Option (List ByteArray) :=
  some ([⟨#[98, 105, 111, 115]⟩, ⟨#[99, 112, 108, 100]⟩, ⟨#[109, 101]⟩, ⟨#[112, 115, 117]⟩, ⟨#[120, 45, 49]⟩, ⟨#[122, 122]⟩])

theorem c_field_names  {r : (List ByteArray)} (h : m_field_names = some r) :
    Fun Try.prog 72 [] [] (fun v_ F_ => ∃ (A1 : Option Addr) (c1 : Nat), v_ = .slice A1 r.length c1 ∧ F_ = [.res (OwnL estr 9 A1 c1 r)]) := by
  unfold m_field_names at h
  refine Fun.intro Try.func72 rfl rfl rfl fun w R => ?_
  refine St.seq ?_
  refine St.region ?_
  refine St.p rfl rfl ?_
  refine St.done ?_
  refine St.thenN ?_
  refine St.prune (Γ' := []) trivial .z ?_
  refine St.seq ?_
  refine St.region ?_
  refine St.buildSlice rfl rfl rfl rfl rfl rfl rfl rfl fun g1 => ?_
  refine St.p rfl rfl ?_
  refine St.done ?_
  refine St.thenN ?_
  refine St.prune (Γ' := [(0, _)]) ⟨rfl, trivial⟩ (.k .z) ?_
  refine St.ret ?_
  repeat (first | refine St.thenR ?_ | refine St.blkR ?_)
  refine St.asrt (fun _ w => (w.front .z).litL (E := estr) (e := 9) [⟨#[98, 105, 111, 115]⟩, ⟨#[99, 112, 108, 100]⟩, ⟨#[109, 101]⟩, ⟨#[112, 115, 117]⟩, ⟨#[120, 45, 49]⟩, ⟨#[122, 122]⟩] rfl rfl) ?_
  injection h with h
  subst h
  exact St.finR Try.results72 (.tmp rfl .nil) rfl [.res (OwnL estr 9 (some ⟨g1, 0, none⟩) ([⟨#[98, 105, 111, 115]⟩, ⟨#[99, 112, 108, 100]⟩, ⟨#[109, 101]⟩, ⟨#[112, 115, 117]⟩, ⟨#[120, 45, 49]⟩, ⟨#[122, 122]⟩] : List ByteArray).length ([⟨#[98, 105, 111, 115]⟩, ⟨#[99, 112, 108, 100]⟩, ⟨#[109, 101]⟩, ⟨#[112, 115, 117]⟩, ⟨#[120, 45, 49]⟩, ⟨#[122, 122]⟩]))] ⟨(some ⟨g1, 0, none⟩), ([⟨#[98, 105, 111, 115]⟩, ⟨#[99, 112, 108, 100]⟩, ⟨#[109, 101]⟩, ⟨#[112, 115, 117]⟩, ⟨#[120, 45, 49]⟩, ⟨#[122, 122]⟩] : List ByteArray).length, rfl, rfl⟩ (fun _ w => ((.k .z) : Keep _ _).sat w)

theorem ent53 : Ent Try.prog 53 := ⟨_, Try.func53, by kernel_rfl, by kernel_rfl⟩

noncomputable def m_field_Codes_Name (c_p0 : T_Codes) : Option (T_Codes × ByteArray) :=
  bnd (m_field_Codes_Next c_p0 24) fun r1 => bif (r1.2 == 23) then (bnd (m_field_Codes_Next r1.1 6) fun r2 => bnd (elt ([⟨#[]⟩, ⟨#[66, 105, 111, 115]⟩, ⟨#[49, 97]⟩, ⟨#[97, 95, 98]⟩, ⟨#[97, 98, 99, 100, 101, 102, 103, 104, 105, 106, 107, 108, 109, 110, 111, 112, 113]⟩, ⟨#[45, 97]⟩]) r2.2) fun x1 => some (r2.1, x1)) else (bnd (m_field_names) fun r3 => bnd (m_field_Codes_Next r1.1 6) fun r4 => bnd (elt r3 r4.2) fun x2 => some (r4.1, x2))

theorem c_field_Codes_Name {c_p0 : T_Codes} {A1 : Option Addr} {c1 : Nat} {gb1 : Nat} {r : (T_Codes × ByteArray)} (h : m_field_Codes_Name c_p0 = some r) :
    Fun Try.prog 53 [.pointer (some ⟨gb1, 0, none⟩)] [.ro (SlL eu8 A1 c1 c_p0.L), .res (Box gb1 63 [.slice A1 c_p0.L.length c1, .int .i64 c_p0.At])] (fun v_ F_ => ∃ (A1 : Option Addr) (c1 : Nat), v_ = .string r.2 ∧ F_ = [.ro (SlL eu8 A1 c1 r.1.L), .res (Box gb1 63 [.slice A1 r.1.L.length c1, .int .i64 r.1.At])]) := by
  unfold m_field_Codes_Name at h
  refine Fun.intro Try.func53 rfl rfl rfl fun w R => ?_
  refine St.seq ?_
  refine St.region ?_
  refine St.p rfl rfl ?_
  refine St.done ?_
  refine St.thenN ?_
  refine St.prune (Γ' := [(0, _)]) ⟨rfl, trivial⟩ (.k (.k .z)) ?_
  refine St.seq ?_
  refine St.seq ?_
  refine St.region ?_
  refine St.p rfl rfl ?_
  obtain ⟨r1, hr1, h⟩ := bnd_e h
  refine St.call (c_field_Codes_Next hr1) ent23 rfl rfl rfl (fun _ w => Sat.dup (G := [.ro (SlL eu8 A1 c1 c_p0.L)]) rfl ⟨(.tail _ (.head _)), trivial⟩ (w.front (.s .z))) ?_
  rintro _ _ ⟨A2, c2, rfl, rfl⟩
  refine St.asrt (F' := .ro (SlL eu8 A2 c2 r1.1.L) :: .res (Box gb1 63 [.slice A2 r1.1.L.length c2, .int .i64 r1.1.At]) :: .ro (SlL eu8 A1 c1 c_p0.L) :: R) (fun _ w => w) ?_
  refine St.p rfl rfl ?_
  refine St.done ?_
  refine St.thenN ?_
  refine St.prune (Γ' := [(0, _), (5, _)]) ⟨rfl, rfl, trivial⟩ (.k (.k (.d .z))) ?_
  refine St.cond _ rfl (fun hb1 => ?_) (fun hb1 => ?_)
  · replace h := bif_t hb1 h
    refine St.seq ?_
    refine St.region ?_
    refine St.buildSlice rfl rfl rfl rfl rfl rfl rfl rfl fun g1 => ?_
    refine St.p rfl rfl ?_
    obtain ⟨r2, hr2, h⟩ := bnd_e h
    refine St.call (c_field_Codes_Next hr2) ent23 rfl rfl rfl (fun _ w => Sat.dup (G := [.ro (SlL eu8 A2 c2 r1.1.L)]) rfl ⟨(.tail _ (.tail _ (.head _))), trivial⟩ (w.front (.s (.s .z)))) ?_
    rintro _ _ ⟨A3, c3, rfl, rfl⟩
    refine St.asrt (F' := .ro (SlL eu8 A3 c3 r2.1.L) :: .res (Box gb1 63 [.slice A3 r2.1.L.length c3, .int .i64 r2.1.At]) :: .res (Box g1 9 [.string (⟨#[]⟩), .string (⟨#[66, 105, 111, 115]⟩), .string (⟨#[49, 97]⟩), .string (⟨#[97, 95, 98]⟩), .string (⟨#[97, 98, 99, 100, 101, 102, 103, 104, 105, 106, 107, 108, 109, 110, 111, 112, 113]⟩), .string (⟨#[45, 97]⟩)]) :: .ro (SlL eu8 A2 c2 r1.1.L) :: R) (fun _ w => w) ?_
    refine St.asrt (fun _ w => (w.front (.s (.s .z))).litL (E := estr) (e := 9) [⟨#[]⟩, ⟨#[66, 105, 111, 115]⟩, ⟨#[49, 97]⟩, ⟨#[97, 95, 98]⟩, ⟨#[97, 98, 99, 100, 101, 102, 103, 104, 105, 106, 107, 108, 109, 110, 111, 112, 113]⟩, ⟨#[45, 97]⟩] rfl rfl) ?_
    obtain ⟨x1, hx1, h⟩ := bnd_e h
    refine St.ixO hx1 rfl rfl rfl (.head _) rfl rfl rfl rfl rfl fun g2 hA => ?_
    cases hA
    refine St.ldO 0 hx1 rfl rfl (.head _) rfl rfl ?_
    refine St.p rfl rfl ?_
    refine St.done ?_
    refine St.thenN ?_
    refine St.prune (Γ' := [(2, _)]) ⟨rfl, trivial⟩ (.d (.k (.k (.d .z)))) ?_
    refine St.ret ?_
    repeat (first | refine St.thenR ?_ | refine St.blkR ?_)
    injection h with h
    subst h
    exact St.finR Try.results53 (.tmp rfl .nil) rfl [.ro (SlL eu8 A3 c3 r2.1.L), .res (Box gb1 63 [.slice A3 r2.1.L.length c3, .int .i64 r2.1.At])] ⟨A3, c3, rfl, rfl⟩ (fun _ w => ((.k (.k (.d .z))) : Keep _ _).sat (Sat.dup (G := [.ro (SlL eu8 A3 c3 r2.1.L)]) rfl ⟨(.tail _ (.head _)), trivial⟩ (w.front (.s .z))))
  · replace h := bif_f hb1 h
    refine St.skip ?_
    refine St.thenN ?_
    refine St.prune (Γ' := [(0, _)]) ⟨rfl, trivial⟩ (.k (.k .z)) ?_
    refine St.seq ?_
    refine St.region ?_
    obtain ⟨r3, hr3, h⟩ := bnd_e h
    refine St.call (c_field_names hr3) ent72 rfl rfl rfl (fun _ w => w) ?_
    rintro _ _ ⟨A4, c4, rfl, rfl⟩
    refine St.asrt (F' := .res (OwnL estr 9 A4 c4 r3) :: .ro (SlL eu8 A2 c2 r1.1.L) :: .res (Box gb1 63 [.slice A2 r1.1.L.length c2, .int .i64 r1.1.At]) :: R) (fun _ w => w) ?_
    refine St.p rfl rfl ?_
    obtain ⟨r4, hr4, h⟩ := bnd_e h
    refine St.call (c_field_Codes_Next hr4) ent23 rfl rfl rfl (fun _ w => Sat.dup (G := [.ro (SlL eu8 A2 c2 r1.1.L)]) rfl ⟨(.tail _ (.tail _ (.head _))), trivial⟩ (w.front (.s (.s .z)))) ?_
    rintro _ _ ⟨A5, c5, rfl, rfl⟩
    refine St.asrt (F' := .ro (SlL eu8 A5 c5 r4.1.L) :: .res (Box gb1 63 [.slice A5 r4.1.L.length c5, .int .i64 r4.1.At]) :: .res (OwnL estr 9 A4 c4 r3) :: .ro (SlL eu8 A2 c2 r1.1.L) :: R) (fun _ w => w) ?_
    obtain ⟨x2, hx2, h⟩ := bnd_e h
    refine St.ixO hx2 rfl rfl rfl (.tail _ (.tail _ (.head _))) rfl rfl rfl rfl rfl fun g3 hA => ?_
    subst hA
    refine St.ldO 0 hx2 rfl rfl (.tail _ (.tail _ (.head _))) rfl rfl ?_
    refine St.p rfl rfl ?_
    refine St.done ?_
    refine St.thenN ?_
    refine St.prune (Γ' := [(2, _)]) ⟨rfl, trivial⟩ (.k (.k (.d (.d .z)))) ?_
    refine St.ret ?_
    repeat (first | refine St.thenR ?_ | refine St.blkR ?_)
    injection h with h
    subst h
    exact St.finR Try.results53 (.tmp rfl .nil) rfl [.ro (SlL eu8 A5 c5 r4.1.L), .res (Box gb1 63 [.slice A5 r4.1.L.length c5, .int .i64 r4.1.At])] ⟨A5, c5, rfl, rfl⟩ (fun _ w => ((.k (.k (.d .z))) : Keep _ _).sat (Sat.dup (G := [.ro (SlL eu8 A5 c5 r4.1.L)]) rfl ⟨(.tail _ (.head _)), trivial⟩ (w.front (.s .z))))

theorem ent27 : Ent Try.prog 27 := ⟨_, Try.func27, by kernel_rfl, by kernel_rfl⟩

noncomputable def m_law29_odd (c_p0 : T_Codes) (d_p1 : T_Device) : Option (T_Codes × T_Device) :=
  bnd (m_ref29_Copy d_p1) fun r1 => bnd (m_field_Codes_Next c_p0 6) fun r2 => bif (r2.2 == 0) then (bnd (m_field_Codes_Next r2.1 3) fun r3 => bnd (elt ([IntKind.wrap .i64 (1 - r1.Active), 2, (-1)]) r3.2) fun x1 => some (r3.1, (⟨r1.Name, r1.Slots, x1, r1.Running, r1.Trial⟩ : T_Device))) else (bif (r2.2 == 1) then (bnd (m_field_Codes_Next r2.1 3) fun r4 => bnd (elt ([IntKind.wrap .i64 (1 - r1.Running), 2, (-1)]) r4.2) fun x2 => some (r4.1, (⟨r1.Name, r1.Slots, r1.Active, x2, r1.Trial⟩ : T_Device))) else (bif (r2.2 == 2) then (some (r2.1, (⟨r1.Name, r1.Slots, r1.Active, r1.Running, !r1.Trial⟩ : T_Device))) else (bif (r2.2 == 3) then (bnd (m_field_Codes_Next r2.1 2) fun r5 => bnd (elt [r1.Slots.e0, r1.Slots.e1] r5.2) fun x3 => bnd (Arr2.set r1.Slots r5.2 (⟨x3.Image, IntKind.wrap .u32 (x3.Sum + 1)⟩ : T_Slot)) fun z1 => some (r5.1, (⟨r1.Name, z1, r1.Active, r1.Running, r1.Trial⟩ : T_Device))) else (bif (r2.2 == 4) then (bnd (m_field_Codes_Name r2.1) fun r6 => some (r6.1, (⟨r6.2, r1.Slots, r1.Active, r1.Running, r1.Trial⟩ : T_Device))) else (bif (r2.2 == 5) then (bnd (m_field_Codes_Next r2.1 2) fun r7 => bnd (m_field_Codes_Image r7.1 r1.Name) fun r8 => bnd (elt [r1.Slots.e0, r1.Slots.e1] r7.2) fun x4 => bnd (Arr2.set r1.Slots r7.2 (⟨r8.2, x4.Sum⟩ : T_Slot)) fun z2 => some (r8.1, (⟨r1.Name, z2, r1.Active, r1.Running, r1.Trial⟩ : T_Device))) else (some (r2.1, r1)))))))

set_option maxHeartbeats 4000000 in
theorem c_law29_odd {c_p0 : T_Codes} {d_p1 : T_Device} {A1 : Option Addr} {c1 : Nat} {A2 : Option Addr} {c2 : Nat} {A3 : Option Addr} {c3 : Nat} {gb1 : Nat} {r : (T_Codes × T_Device)} (h : m_law29_odd c_p0 d_p1 = some r) :
    Fun Try.prog 27 [.pointer (some ⟨gb1, 0, none⟩), .agg (bx_T_Device d_p1 A2 c2 A3 c3).toArray] [.ro (SlL eu8 A1 c1 c_p0.L), .ro (SlL eu8 A2 c2 d_p1.Slots.e0.Image.Data), .ro (SlL eu8 A3 c3 d_p1.Slots.e1.Image.Data), .res (Box gb1 63 [.slice A1 c_p0.L.length c1, .int .i64 c_p0.At])] (fun v_ F_ => ∃ (A1 : Option Addr) (c1 : Nat) (A2 : Option Addr) (c2 : Nat) (A3 : Option Addr) (c3 : Nat), v_ = .agg (bx_T_Device r.2 A2 c2 A3 c3).toArray ∧ F_ = [.ro (SlL eu8 A1 c1 r.1.L), .ro (SlL eu8 A2 c2 r.2.Slots.e0.Image.Data), .ro (SlL eu8 A3 c3 r.2.Slots.e1.Image.Data), .res (Box gb1 63 [.slice A1 r.1.L.length c1, .int .i64 r.1.At])]) := by
  unfold m_law29_odd at h
  refine Fun.intro Try.func27 rfl rfl rfl fun w R => ?_
  refine St.seq ?_
  refine St.region ?_
  refine St.box rfl rfl fun g1 => ?_
  refine St.alloc rfl rfl fun g2 => ?_
  refine St.done ?_
  refine St.thenN ?_
  refine St.prune (Γ' := [(0, _), (3, _), (4, _)]) ⟨rfl, rfl, rfl, trivial⟩ (.k (.k (.k (.k (.k (.k .z)))))) ?_
  refine St.seq ?_
  refine St.region ?_
  refine St.loadB 0 rfl rfl (.tail _ (.head _)) rfl rfl ?_
  obtain ⟨r1, hr1, h⟩ := bnd_e h
  refine St.call (c_ref29_Copy hr1) ent52 rfl rfl rfl (fun _ w => Sat.dup (G := [.ro (SlL eu8 A2 c2 d_p1.Slots.e0.Image.Data), .ro (SlL eu8 A3 c3 d_p1.Slots.e1.Image.Data)]) rfl ⟨(.tail _ (.tail _ (.tail _ (.head _)))), (.tail _ (.tail _ (.tail _ (.tail _ (.head _))))), trivial⟩ w) ?_
  rintro _ _ ⟨A4, c4, A5, c5, rfl, rfl⟩
  refine St.asrt (F' := .ro (SlL eu8 A4 c4 r1.Slots.e0.Image.Data) :: .ro (SlL eu8 A5 c5 r1.Slots.e1.Image.Data) :: .res (Box g2 35 [.string (⟨#[]⟩), .string (⟨#[]⟩), .int .i64 0, .int .i64 0, .int .i64 0, .slice none 0 0, .int .u32 0, .string (⟨#[]⟩), .int .i64 0, .int .i64 0, .int .i64 0, .slice none 0 0, .int .u32 0, .int .i64 0, .int .i64 0, .bool false]) :: .res (Box g1 35 (bx_T_Device d_p1 A2 c2 A3 c3)) :: .ro (SlL eu8 A1 c1 c_p0.L) :: .ro (SlL eu8 A2 c2 d_p1.Slots.e0.Image.Data) :: .ro (SlL eu8 A3 c3 d_p1.Slots.e1.Image.Data) :: .res (Box gb1 63 [.slice A1 c_p0.L.length c1, .int .i64 c_p0.At]) :: R) (fun _ w => w) ?_
  refine St.store 0 rfl rfl rfl rfl rfl rfl (.s (.s (.s .z))) rfl ?_
  refine St.done ?_
  refine St.thenN ?_
  refine St.prune (Γ' := [(0, _), (3, _), (4, _)]) ⟨rfl, rfl, rfl, trivial⟩ (.k (.k (.k (.k (.k (.d (.d (.k .z)))))))) ?_
  refine St.seq ?_
  refine St.seq ?_
  refine St.region ?_
  refine St.p rfl rfl ?_
  obtain ⟨r2, hr2, h⟩ := bnd_e h
  refine St.call (c_field_Codes_Next hr2) ent23 rfl rfl rfl (fun _ w => Sat.dup (G := [.ro (SlL eu8 A1 c1 c_p0.L)]) rfl ⟨(.tail _ (.tail _ (.tail _ (.tail _ (.tail _ (.head _)))))), trivial⟩ (w.front (.s (.s (.s (.s (.s .z))))))) ?_
  rintro _ _ ⟨A6, c6, rfl, rfl⟩
  refine St.asrt (F' := .ro (SlL eu8 A6 c6 r2.1.L) :: .res (Box gb1 63 [.slice A6 r2.1.L.length c6, .int .i64 r2.1.At]) :: .res (Box g1 35 (bx_T_Device r1 A4 c4 A5 c5)) :: .ro (SlL eu8 A4 c4 r1.Slots.e0.Image.Data) :: .ro (SlL eu8 A5 c5 r1.Slots.e1.Image.Data) :: .res (Box g2 35 [.string (⟨#[]⟩), .string (⟨#[]⟩), .int .i64 0, .int .i64 0, .int .i64 0, .slice none 0 0, .int .u32 0, .string (⟨#[]⟩), .int .i64 0, .int .i64 0, .int .i64 0, .slice none 0 0, .int .u32 0, .int .i64 0, .int .i64 0, .bool false]) :: .ro (SlL eu8 A1 c1 c_p0.L) :: R) (fun _ w => w) ?_
  refine St.done ?_
  refine St.thenN ?_
  refine St.prune (Γ' := [(0, _), (3, _), (4, _), (8, _)]) ⟨rfl, rfl, rfl, rfl, trivial⟩ (.k (.k (.k (.k (.k (.k (.d .z))))))) ?_
  refine St.block ?_
  refine St.seq ?_
  refine St.region ?_
  refine St.p rfl rfl ?_
  refine St.p rfl rfl ?_
  refine St.done ?_
  refine St.thenN ?_
  refine St.prune (Γ' := [(0, _), (3, _), (4, _), (8, _), (9, _)]) ⟨rfl, rfl, rfl, rfl, rfl, trivial⟩ (.k (.k (.k (.k (.k (.k .z)))))) ?_
  refine St.cond _ rfl (fun hb1 => ?_) (fun hb1 => ?_)
  · replace h := bif_t hb1 h
    obtain ⟨r3, hr3, h⟩ := bnd_e h
    obtain ⟨x1, hx1, h⟩ := bnd_e h
    refine St.regionX (iL [(.fl, 0), (.fl, 4)] (.alt (iL [(.ef, 1), (.fl, 2)] (.alt (iL [(.ef, 3)] (iL [(.ef, 5)] (iL [(.ef, 6), (.fx, 7), (.fl, 8)] (iL [(.ef, 9)] .nil)))) (iL [(.ef, 5)] (iL [(.ef, 3)] (iL [(.ef, 6), (.fx, 7), (.fl, 8)] (iL [(.ef, 9)] .nil)))))) (iL [(.ef, 5)] (iL [(.ef, 1), (.fl, 2)] (iL [(.ef, 3)] (iL [(.ef, 6), (.fx, 7), (.fl, 8)] (iL [(.ef, 9)] .nil))))))) (.ro (SlL eu8 A6 c6 r2.1.L) :: .ro (SlL eu8 A4 c4 r1.Slots.e0.Image.Data) :: .ro (SlL eu8 A5 c5 r1.Slots.e1.Image.Data) :: .res (Box g2 35 [.string (⟨#[]⟩), .string (⟨#[]⟩), .int .i64 0, .int .i64 0, .int .i64 0, .slice none 0 0, .int .u32 0, .string (⟨#[]⟩), .int .i64 0, .int .i64 0, .int .i64 0, .slice none 0 0, .int .u32 0, .int .i64 0, .int .i64 0, .bool false]) :: R) mixed (by kernel_rfl) (fun _ w => ((.k (.d (.d (.k (.k (.k .z)))))) : Keep _ _).sat w) ?_
    refine St.share (Y := ?Ynd1_0) (fun (e : Nat × Option Addr × Nat) => [(0, .pointer (some ⟨gb1, 0, none⟩)), (3, .pointer (some ⟨g1, 0, none⟩)), (4, .pointer (some ⟨g2, 0, none⟩)), (8, .int .i64 r2.2), (9, .bool (r2.2 == 0)), (11, .pointer (some ⟨g1, 13, none⟩)), (12, .int .i64 r1.Active), (13, .int .i64 (IntKind.wrap .i64 (1 - r1.Active))), (14, .slice (some ⟨e.1, 0, none⟩) 3 3), (15, .pointer (some ⟨gb1, 0, none⟩)), (16, .int .i64 r3.2)]) (fun e => .ro (SlL eu8 e.2.1 e.2.2 r3.1.L) :: .res (Box gb1 63 [.slice e.2.1 r3.1.L.length e.2.2, .int .i64 r3.1.At]) :: .res (Box e.1 3 [.int .i64 (IntKind.wrap .i64 (1 - r1.Active)), .int .i64 2, .int .i64 (-1)]) :: .ro (SlL eu8 A6 c6 r2.1.L) :: .res (Box g1 35 (bx_T_Device r1 A4 c4 A5 c5)) :: .ro (SlL eu8 A4 c4 r1.Slots.e0.Image.Data) :: .ro (SlL eu8 A5 c5 r1.Slots.e1.Image.Data) :: .res (Box g2 35 [.string (⟨#[]⟩), .string (⟨#[]⟩), .int .i64 0, .int .i64 0, .int .i64 0, .slice none 0 0, .int .u32 0, .string (⟨#[]⟩), .int .i64 0, .int .i64 0, .int .i64 0, .slice none 0 0, .int .u32 0, .int .i64 0, .int .i64 0, .bool false]) :: R) (fun hnd1_0 => ?mnd1_0) ?tnd1_0
    case mnd1_0 =>
      refine St.share (Y := ?Ynd1_1) (fun (e : Option Addr × Nat) => [(0, .pointer (some ⟨gb1, 0, none⟩)), (3, .pointer (some ⟨g1, 0, none⟩)), (4, .pointer (some ⟨g2, 0, none⟩)), (8, .int .i64 r2.2), (9, .bool (r2.2 == 0)), (11, .pointer (some ⟨g1, 13, none⟩)), (12, .int .i64 r1.Active), (13, .int .i64 (IntKind.wrap .i64 (1 - r1.Active))), (15, .pointer (some ⟨gb1, 0, none⟩)), (16, .int .i64 r3.2)]) (fun e => .ro (SlL eu8 e.1 e.2 r3.1.L) :: .res (Box gb1 63 [.slice e.1 r3.1.L.length e.2, .int .i64 r3.1.At]) :: .ro (SlL eu8 A6 c6 r2.1.L) :: .res (Box g1 35 (bx_T_Device r1 A4 c4 A5 c5)) :: .ro (SlL eu8 A4 c4 r1.Slots.e0.Image.Data) :: .ro (SlL eu8 A5 c5 r1.Slots.e1.Image.Data) :: .res (Box g2 35 [.string (⟨#[]⟩), .string (⟨#[]⟩), .int .i64 0, .int .i64 0, .int .i64 0, .slice none 0 0, .int .u32 0, .string (⟨#[]⟩), .int .i64 0, .int .i64 0, .int .i64 0, .slice none 0 0, .int .u32 0, .int .i64 0, .int .i64 0, .bool false]) :: R) (fun hnd1_1 => ?mnd1_1) ?tnd1_1
      case mnd1_1 =>
        refine St.xfl (fun _ h => h) (Rd.p rfl) rfl ?_
        refine St.xfl (fun _ h => h) (Rd.p rfl) rfl ?_
        refine St.xalt ?_ ?_
        · refine St.xef ?_
          refine St.loadB 13 rfl rfl (.tail _ (.tail _ (.head _))) rfl rfl ?_
          refine St.xk (fun _ w => ((.k (.d (.d (.k (.k (.k .z)))))) : Keep _ _).sat w) ?_
          refine St.xfl (fun _ h => h) (Rd.p rfl) rfl ?_
          refine St.xalt ?_ ?_
          · refine St.xef ?_
            refine St.buildSlice rfl rfl rfl rfl rfl rfl rfl rfl fun g3 => ?_
            refine St.xk (fun _ w => ((.d (.k (.d (.d (.k (.k (.k .z))))))) : Keep _ _).sat w) ?_
            refine St.xef ?_
            refine St.call (c_field_Codes_Next hr3) ent23 rfl rfl rfl (fun _ w => Sat.dup (G := [.ro (SlL eu8 A6 c6 r2.1.L)]) rfl ⟨(.tail _ (.tail _ (.head _))), trivial⟩ (w.front (.s (.s .z)))) ?_
            rintro _ _ ⟨A7, c7, rfl, rfl⟩
            refine St.asrt (F' := .ro (SlL eu8 A7 c7 r3.1.L) :: .res (Box gb1 63 [.slice A7 r3.1.L.length c7, .int .i64 r3.1.At]) :: .res (Box g3 3 [.int .i64 (IntKind.wrap .i64 (1 - r1.Active)), .int .i64 2, .int .i64 (-1)]) :: .ro (SlL eu8 A6 c6 r2.1.L) :: .res (Box g1 35 (bx_T_Device r1 A4 c4 A5 c5)) :: .ro (SlL eu8 A4 c4 r1.Slots.e0.Image.Data) :: .ro (SlL eu8 A5 c5 r1.Slots.e1.Image.Data) :: .res (Box g2 35 [.string (⟨#[]⟩), .string (⟨#[]⟩), .int .i64 0, .int .i64 0, .int .i64 0, .slice none 0 0, .int .u32 0, .string (⟨#[]⟩), .int .i64 0, .int .i64 0, .int .i64 0, .slice none 0 0, .int .u32 0, .int .i64 0, .int .i64 0, .bool false]) :: R) (fun _ w => w) ?_
            refine St.xk (fun _ w => ((.d (.d (.d (.k (.d (.k (.k (.k .z)))))))) : Keep _ _).sat w) ?_
            refine hnd1_0 _ _ (g3, A7, c7) ?_ ?_
            · exact ⟨rfl, rfl, rfl, rfl, rfl, rfl, rfl, rfl, rfl, rfl, rfl, trivial⟩
            · exact fun _ w => ((.k (.k (.k (.k (.k (.k (.k (.k .z)))))))) : Keep _ _).sat w
          · refine St.xef ?_
            refine St.call (c_field_Codes_Next hr3) ent23 rfl rfl rfl (fun _ w => Sat.dup (G := [.ro (SlL eu8 A6 c6 r2.1.L)]) rfl ⟨(.tail _ (.head _)), trivial⟩ (w.front (.s .z))) ?_
            rintro _ _ ⟨A7, c7, rfl, rfl⟩
            refine St.asrt (F' := .ro (SlL eu8 A7 c7 r3.1.L) :: .res (Box gb1 63 [.slice A7 r3.1.L.length c7, .int .i64 r3.1.At]) :: .ro (SlL eu8 A6 c6 r2.1.L) :: .res (Box g1 35 (bx_T_Device r1 A4 c4 A5 c5)) :: .ro (SlL eu8 A4 c4 r1.Slots.e0.Image.Data) :: .ro (SlL eu8 A5 c5 r1.Slots.e1.Image.Data) :: .res (Box g2 35 [.string (⟨#[]⟩), .string (⟨#[]⟩), .int .i64 0, .int .i64 0, .int .i64 0, .slice none 0 0, .int .u32 0, .string (⟨#[]⟩), .int .i64 0, .int .i64 0, .int .i64 0, .slice none 0 0, .int .u32 0, .int .i64 0, .int .i64 0, .bool false]) :: R) (fun _ w => w) ?_
            refine St.xk (fun _ w => ((.d (.d (.k (.d (.k (.k (.k .z))))))) : Keep _ _).sat w) ?_
            refine hnd1_1 _ _ (A7, c7) ?_ ?_
            · exact ⟨rfl, rfl, rfl, rfl, rfl, rfl, rfl, rfl, rfl, rfl, trivial⟩
            · exact fun _ w => ((.k (.k (.k (.k (.k (.k (.k .z))))))) : Keep _ _).sat w
        · refine St.xef ?_
          refine St.call (c_field_Codes_Next hr3) ent23 rfl rfl rfl (fun _ w => Sat.dup (G := [.ro (SlL eu8 A6 c6 r2.1.L)]) rfl ⟨(.tail _ (.head _)), trivial⟩ (w.front (.s .z))) ?_
          rintro _ _ ⟨A7, c7, rfl, rfl⟩
          refine St.asrt (F' := .ro (SlL eu8 A7 c7 r3.1.L) :: .res (Box gb1 63 [.slice A7 r3.1.L.length c7, .int .i64 r3.1.At]) :: .ro (SlL eu8 A6 c6 r2.1.L) :: .res (Box g1 35 (bx_T_Device r1 A4 c4 A5 c5)) :: .ro (SlL eu8 A4 c4 r1.Slots.e0.Image.Data) :: .ro (SlL eu8 A5 c5 r1.Slots.e1.Image.Data) :: .res (Box g2 35 [.string (⟨#[]⟩), .string (⟨#[]⟩), .int .i64 0, .int .i64 0, .int .i64 0, .slice none 0 0, .int .u32 0, .string (⟨#[]⟩), .int .i64 0, .int .i64 0, .int .i64 0, .slice none 0 0, .int .u32 0, .int .i64 0, .int .i64 0, .bool false]) :: R) (fun _ w => w) ?_
          refine St.xk (fun _ w => ((.d (.d (.k (.d (.k (.k (.k .z))))))) : Keep _ _).sat w) ?_
          refine St.xef ?_
          refine St.loadB 13 rfl rfl (.tail _ (.tail _ (.tail _ (.head _)))) rfl rfl ?_
          refine St.xk (fun _ w => ((.d (.d (.k (.d (.k (.k (.k .z))))))) : Keep _ _).sat w) ?_
          refine St.xfl (fun _ h => h) (Rd.p rfl) rfl ?_
          refine hnd1_1 _ _ (A7, c7) ?_ ?_
          · exact ⟨rfl, rfl, rfl, rfl, rfl, rfl, rfl, rfl, rfl, rfl, trivial⟩
          · exact fun _ w => ((.k (.k (.k (.k (.k (.k (.k .z))))))) : Keep _ _).sat w
      case tnd1_1 =>
        rintro ⟨A7, c7⟩
        refine St.asrt (F' := .ro (SlL eu8 A7 c7 r3.1.L) :: .res (Box gb1 63 [.slice A7 r3.1.L.length c7, .int .i64 r3.1.At]) :: .ro (SlL eu8 A6 c6 r2.1.L) :: .res (Box g1 35 (bx_T_Device r1 A4 c4 A5 c5)) :: .ro (SlL eu8 A4 c4 r1.Slots.e0.Image.Data) :: .ro (SlL eu8 A5 c5 r1.Slots.e1.Image.Data) :: .res (Box g2 35 [.string (⟨#[]⟩), .string (⟨#[]⟩), .int .i64 0, .int .i64 0, .int .i64 0, .slice none 0 0, .int .u32 0, .string (⟨#[]⟩), .int .i64 0, .int .i64 0, .int .i64 0, .slice none 0 0, .int .u32 0, .int .i64 0, .int .i64 0, .bool false]) :: R) (fun _ w => w) ?_
        refine St.xef ?_
        refine St.buildSlice rfl rfl rfl rfl rfl rfl rfl rfl fun g3 => ?_
        refine St.xk (fun _ w => ((.d (.d (.d (.k (.d (.k (.k (.k .z)))))))) : Keep _ _).sat w) ?_
        refine hnd1_0 _ _ (g3, A7, c7) ?_ ?_
        · exact ⟨rfl, rfl, rfl, rfl, rfl, rfl, rfl, rfl, rfl, rfl, rfl, trivial⟩
        · exact fun _ w => ((.k (.k (.k (.k (.k (.k (.k (.k .z)))))))) : Keep _ _).sat ((((((((w.front (.s (.s (.s (.s (.s (.s (.s .z)))))))).front (.s (.s (.s (.s (.s (.s (.s .z)))))))).front (.s (.s (.s (.s (.s (.s (.s .z)))))))).front (.s (.s (.s (.s (.s (.s (.s .z)))))))).front (.s (.s (.s (.s (.s (.s (.s .z)))))))).front (.s (.s (.s (.s (.s .z)))))).front (.s (.s (.s (.s (.s (.s (.s .z)))))))).front (.s (.s (.s (.s (.s (.s (.s .z))))))))
    case tnd1_0 =>
      rintro ⟨g3, A7, c7⟩
      refine St.asrt (F' := .ro (SlL eu8 A7 c7 r3.1.L) :: .res (Box gb1 63 [.slice A7 r3.1.L.length c7, .int .i64 r3.1.At]) :: .res (Box g3 3 [.int .i64 (IntKind.wrap .i64 (1 - r1.Active)), .int .i64 2, .int .i64 (-1)]) :: .ro (SlL eu8 A6 c6 r2.1.L) :: .res (Box g1 35 (bx_T_Device r1 A4 c4 A5 c5)) :: .ro (SlL eu8 A4 c4 r1.Slots.e0.Image.Data) :: .ro (SlL eu8 A5 c5 r1.Slots.e1.Image.Data) :: .res (Box g2 35 [.string (⟨#[]⟩), .string (⟨#[]⟩), .int .i64 0, .int .i64 0, .int .i64 0, .slice none 0 0, .int .u32 0, .string (⟨#[]⟩), .int .i64 0, .int .i64 0, .int .i64 0, .slice none 0 0, .int .u32 0, .int .i64 0, .int .i64 0, .bool false]) :: R) (fun _ w => w) ?_
      refine St.xef ?_
      refine St.asrt (fun _ w => (w.front (.s (.s .z))).litL (E := ei64) (e := 3) [IntKind.wrap .i64 (1 - r1.Active), 2, (-1)] rfl rfl) ?_
      refine St.ixO hx1 rfl rfl rfl (.head _) rfl rfl rfl rfl rfl fun g4 hA => ?_
      cases hA
      refine St.xk (fun _ w => ((.d (.d (.d (.k (.d (.k (.k (.k .z)))))))) : Keep _ _).sat w) ?_
      refine St.xfx (Rd.ldO 0 hx1 rfl (.head _) rfl rfl) rfl ?_
      refine St.xfl (fun _ h => h) (Rd.p rfl) rfl ?_
      refine St.xef ?_
      refine St.store 13 rfl rfl rfl rfl rfl rfl (.s (.s (.s (.s .z)))) rfl ?_
      refine St.xk (fun _ w => ((.d (.d (.d (.d (.k (.k (.k (.k .z)))))))) : Keep _ _).sat w) ?_
      refine St.xdone ?_
      refine St.blkN ?_
      refine St.thenN ?_
      refine St.prune (Γ' := [(3, _), (4, _)]) ⟨rfl, rfl, trivial⟩ (.k (.d (.k (.k (.d (.k (.k (.k .z)))))))) ?_
      refine St.seq ?_
      refine St.region ?_
      refine St.loadB 0 rfl rfl (.head _) rfl rfl ?_
      refine St.store 0 rfl rfl rfl rfl rfl rfl (.s (.s (.s (.s (.s .z))))) rfl ?_
      refine St.done ?_
      refine St.thenN ?_
      refine St.prune (Γ' := [(4, _)]) ⟨rfl, trivial⟩ (.k (.d (.k (.k (.k (.k .z)))))) ?_
      refine St.ret ?_
      repeat (first | refine St.thenR ?_ | refine St.blkR ?_)
      injection h with h
      subst h
      exact St.finR Try.results27 (.cell rfl (.head _) rfl .nil) rfl [.ro (SlL eu8 A7 c7 r3.1.L), .ro (SlL eu8 A4 c4 r1.Slots.e0.Image.Data), .ro (SlL eu8 A5 c5 r1.Slots.e1.Image.Data), .res (Box gb1 63 [.slice A7 r3.1.L.length c7, .int .i64 r3.1.At])] ⟨A7, c7, A4, c4, A5, c5, rfl, rfl⟩ (fun _ w => ((.k (.k (.k (.k (.d (.d (.d (.d .z)))))))) : Keep _ _).sat (Sat.dup (G := [.ro (SlL eu8 A7 c7 r3.1.L), .ro (SlL eu8 A4 c4 r1.Slots.e0.Image.Data), .ro (SlL eu8 A5 c5 r1.Slots.e1.Image.Data)]) rfl ⟨(.tail _ (.tail _ (.head _))), (.tail _ (.tail _ (.tail _ (.head _)))), (.tail _ (.tail _ (.tail _ (.tail _ (.head _))))), trivial⟩ (w.front (.s (.s .z)))))
  · replace h := bif_f hb1 h
    refine St.seq ?_
    refine St.region ?_
    refine St.p rfl rfl ?_
    refine St.p rfl rfl ?_
    refine St.done ?_
    refine St.thenN ?_
    refine St.prune (Γ' := [(0, _), (3, _), (4, _), (8, _), (20, _)]) ⟨rfl, rfl, rfl, rfl, rfl, trivial⟩ (.k (.k (.k (.k (.k (.k .z)))))) ?_
    refine St.cond _ rfl (fun hb2 => ?_) (fun hb2 => ?_)
    · replace h := bif_t hb2 h
      obtain ⟨r4, hr4, h⟩ := bnd_e h
      obtain ⟨x2, hx2, h⟩ := bnd_e h
      refine St.regionX (iL [(.fl, 0), (.fl, 4)] (.alt (iL [(.ef, 1), (.fl, 2)] (.alt (iL [(.ef, 3)] (iL [(.ef, 5)] (iL [(.ef, 6), (.fx, 7), (.fl, 8)] (iL [(.ef, 9)] .nil)))) (iL [(.ef, 5)] (iL [(.ef, 3)] (iL [(.ef, 6), (.fx, 7), (.fl, 8)] (iL [(.ef, 9)] .nil)))))) (iL [(.ef, 5)] (iL [(.ef, 1), (.fl, 2)] (iL [(.ef, 3)] (iL [(.ef, 6), (.fx, 7), (.fl, 8)] (iL [(.ef, 9)] .nil))))))) (.ro (SlL eu8 A6 c6 r2.1.L) :: .ro (SlL eu8 A4 c4 r1.Slots.e0.Image.Data) :: .ro (SlL eu8 A5 c5 r1.Slots.e1.Image.Data) :: .res (Box g2 35 [.string (⟨#[]⟩), .string (⟨#[]⟩), .int .i64 0, .int .i64 0, .int .i64 0, .slice none 0 0, .int .u32 0, .string (⟨#[]⟩), .int .i64 0, .int .i64 0, .int .i64 0, .slice none 0 0, .int .u32 0, .int .i64 0, .int .i64 0, .bool false]) :: R) mixed (by kernel_rfl) (fun _ w => ((.k (.d (.d (.k (.k (.k .z)))))) : Keep _ _).sat w) ?_
      refine St.share (Y := ?Ynd2_0) (fun (e : Nat × Option Addr × Nat) => [(0, .pointer (some ⟨gb1, 0, none⟩)), (3, .pointer (some ⟨g1, 0, none⟩)), (4, .pointer (some ⟨g2, 0, none⟩)), (8, .int .i64 r2.2), (20, .bool (r2.2 == 1)), (22, .pointer (some ⟨g1, 14, none⟩)), (23, .int .i64 r1.Running), (24, .int .i64 (IntKind.wrap .i64 (1 - r1.Running))), (25, .slice (some ⟨e.1, 0, none⟩) 3 3), (26, .pointer (some ⟨gb1, 0, none⟩)), (27, .int .i64 r4.2)]) (fun e => .ro (SlL eu8 e.2.1 e.2.2 r4.1.L) :: .res (Box gb1 63 [.slice e.2.1 r4.1.L.length e.2.2, .int .i64 r4.1.At]) :: .res (Box e.1 3 [.int .i64 (IntKind.wrap .i64 (1 - r1.Running)), .int .i64 2, .int .i64 (-1)]) :: .ro (SlL eu8 A6 c6 r2.1.L) :: .res (Box g1 35 (bx_T_Device r1 A4 c4 A5 c5)) :: .ro (SlL eu8 A4 c4 r1.Slots.e0.Image.Data) :: .ro (SlL eu8 A5 c5 r1.Slots.e1.Image.Data) :: .res (Box g2 35 [.string (⟨#[]⟩), .string (⟨#[]⟩), .int .i64 0, .int .i64 0, .int .i64 0, .slice none 0 0, .int .u32 0, .string (⟨#[]⟩), .int .i64 0, .int .i64 0, .int .i64 0, .slice none 0 0, .int .u32 0, .int .i64 0, .int .i64 0, .bool false]) :: R) (fun hnd2_0 => ?mnd2_0) ?tnd2_0
      case mnd2_0 =>
        refine St.share (Y := ?Ynd2_1) (fun (e : Option Addr × Nat) => [(0, .pointer (some ⟨gb1, 0, none⟩)), (3, .pointer (some ⟨g1, 0, none⟩)), (4, .pointer (some ⟨g2, 0, none⟩)), (8, .int .i64 r2.2), (20, .bool (r2.2 == 1)), (22, .pointer (some ⟨g1, 14, none⟩)), (23, .int .i64 r1.Running), (24, .int .i64 (IntKind.wrap .i64 (1 - r1.Running))), (26, .pointer (some ⟨gb1, 0, none⟩)), (27, .int .i64 r4.2)]) (fun e => .ro (SlL eu8 e.1 e.2 r4.1.L) :: .res (Box gb1 63 [.slice e.1 r4.1.L.length e.2, .int .i64 r4.1.At]) :: .ro (SlL eu8 A6 c6 r2.1.L) :: .res (Box g1 35 (bx_T_Device r1 A4 c4 A5 c5)) :: .ro (SlL eu8 A4 c4 r1.Slots.e0.Image.Data) :: .ro (SlL eu8 A5 c5 r1.Slots.e1.Image.Data) :: .res (Box g2 35 [.string (⟨#[]⟩), .string (⟨#[]⟩), .int .i64 0, .int .i64 0, .int .i64 0, .slice none 0 0, .int .u32 0, .string (⟨#[]⟩), .int .i64 0, .int .i64 0, .int .i64 0, .slice none 0 0, .int .u32 0, .int .i64 0, .int .i64 0, .bool false]) :: R) (fun hnd2_1 => ?mnd2_1) ?tnd2_1
        case mnd2_1 =>
          refine St.xfl (fun _ h => h) (Rd.p rfl) rfl ?_
          refine St.xfl (fun _ h => h) (Rd.p rfl) rfl ?_
          refine St.xalt ?_ ?_
          · refine St.xef ?_
            refine St.loadB 14 rfl rfl (.tail _ (.tail _ (.head _))) rfl rfl ?_
            refine St.xk (fun _ w => ((.k (.d (.d (.k (.k (.k .z)))))) : Keep _ _).sat w) ?_
            refine St.xfl (fun _ h => h) (Rd.p rfl) rfl ?_
            refine St.xalt ?_ ?_
            · refine St.xef ?_
              refine St.buildSlice rfl rfl rfl rfl rfl rfl rfl rfl fun g5 => ?_
              refine St.xk (fun _ w => ((.d (.k (.d (.d (.k (.k (.k .z))))))) : Keep _ _).sat w) ?_
              refine St.xef ?_
              refine St.call (c_field_Codes_Next hr4) ent23 rfl rfl rfl (fun _ w => Sat.dup (G := [.ro (SlL eu8 A6 c6 r2.1.L)]) rfl ⟨(.tail _ (.tail _ (.head _))), trivial⟩ (w.front (.s (.s .z)))) ?_
              rintro _ _ ⟨A8, c8, rfl, rfl⟩
              refine St.asrt (F' := .ro (SlL eu8 A8 c8 r4.1.L) :: .res (Box gb1 63 [.slice A8 r4.1.L.length c8, .int .i64 r4.1.At]) :: .res (Box g5 3 [.int .i64 (IntKind.wrap .i64 (1 - r1.Running)), .int .i64 2, .int .i64 (-1)]) :: .ro (SlL eu8 A6 c6 r2.1.L) :: .res (Box g1 35 (bx_T_Device r1 A4 c4 A5 c5)) :: .ro (SlL eu8 A4 c4 r1.Slots.e0.Image.Data) :: .ro (SlL eu8 A5 c5 r1.Slots.e1.Image.Data) :: .res (Box g2 35 [.string (⟨#[]⟩), .string (⟨#[]⟩), .int .i64 0, .int .i64 0, .int .i64 0, .slice none 0 0, .int .u32 0, .string (⟨#[]⟩), .int .i64 0, .int .i64 0, .int .i64 0, .slice none 0 0, .int .u32 0, .int .i64 0, .int .i64 0, .bool false]) :: R) (fun _ w => w) ?_
              refine St.xk (fun _ w => ((.d (.d (.d (.k (.d (.k (.k (.k .z)))))))) : Keep _ _).sat w) ?_
              refine hnd2_0 _ _ (g5, A8, c8) ?_ ?_
              · exact ⟨rfl, rfl, rfl, rfl, rfl, rfl, rfl, rfl, rfl, rfl, rfl, trivial⟩
              · exact fun _ w => ((.k (.k (.k (.k (.k (.k (.k (.k .z)))))))) : Keep _ _).sat w
            · refine St.xef ?_
              refine St.call (c_field_Codes_Next hr4) ent23 rfl rfl rfl (fun _ w => Sat.dup (G := [.ro (SlL eu8 A6 c6 r2.1.L)]) rfl ⟨(.tail _ (.head _)), trivial⟩ (w.front (.s .z))) ?_
              rintro _ _ ⟨A8, c8, rfl, rfl⟩
              refine St.asrt (F' := .ro (SlL eu8 A8 c8 r4.1.L) :: .res (Box gb1 63 [.slice A8 r4.1.L.length c8, .int .i64 r4.1.At]) :: .ro (SlL eu8 A6 c6 r2.1.L) :: .res (Box g1 35 (bx_T_Device r1 A4 c4 A5 c5)) :: .ro (SlL eu8 A4 c4 r1.Slots.e0.Image.Data) :: .ro (SlL eu8 A5 c5 r1.Slots.e1.Image.Data) :: .res (Box g2 35 [.string (⟨#[]⟩), .string (⟨#[]⟩), .int .i64 0, .int .i64 0, .int .i64 0, .slice none 0 0, .int .u32 0, .string (⟨#[]⟩), .int .i64 0, .int .i64 0, .int .i64 0, .slice none 0 0, .int .u32 0, .int .i64 0, .int .i64 0, .bool false]) :: R) (fun _ w => w) ?_
              refine St.xk (fun _ w => ((.d (.d (.k (.d (.k (.k (.k .z))))))) : Keep _ _).sat w) ?_
              refine hnd2_1 _ _ (A8, c8) ?_ ?_
              · exact ⟨rfl, rfl, rfl, rfl, rfl, rfl, rfl, rfl, rfl, rfl, trivial⟩
              · exact fun _ w => ((.k (.k (.k (.k (.k (.k (.k .z))))))) : Keep _ _).sat w
          · refine St.xef ?_
            refine St.call (c_field_Codes_Next hr4) ent23 rfl rfl rfl (fun _ w => Sat.dup (G := [.ro (SlL eu8 A6 c6 r2.1.L)]) rfl ⟨(.tail _ (.head _)), trivial⟩ (w.front (.s .z))) ?_
            rintro _ _ ⟨A8, c8, rfl, rfl⟩
            refine St.asrt (F' := .ro (SlL eu8 A8 c8 r4.1.L) :: .res (Box gb1 63 [.slice A8 r4.1.L.length c8, .int .i64 r4.1.At]) :: .ro (SlL eu8 A6 c6 r2.1.L) :: .res (Box g1 35 (bx_T_Device r1 A4 c4 A5 c5)) :: .ro (SlL eu8 A4 c4 r1.Slots.e0.Image.Data) :: .ro (SlL eu8 A5 c5 r1.Slots.e1.Image.Data) :: .res (Box g2 35 [.string (⟨#[]⟩), .string (⟨#[]⟩), .int .i64 0, .int .i64 0, .int .i64 0, .slice none 0 0, .int .u32 0, .string (⟨#[]⟩), .int .i64 0, .int .i64 0, .int .i64 0, .slice none 0 0, .int .u32 0, .int .i64 0, .int .i64 0, .bool false]) :: R) (fun _ w => w) ?_
            refine St.xk (fun _ w => ((.d (.d (.k (.d (.k (.k (.k .z))))))) : Keep _ _).sat w) ?_
            refine St.xef ?_
            refine St.loadB 14 rfl rfl (.tail _ (.tail _ (.tail _ (.head _)))) rfl rfl ?_
            refine St.xk (fun _ w => ((.d (.d (.k (.d (.k (.k (.k .z))))))) : Keep _ _).sat w) ?_
            refine St.xfl (fun _ h => h) (Rd.p rfl) rfl ?_
            refine hnd2_1 _ _ (A8, c8) ?_ ?_
            · exact ⟨rfl, rfl, rfl, rfl, rfl, rfl, rfl, rfl, rfl, rfl, trivial⟩
            · exact fun _ w => ((.k (.k (.k (.k (.k (.k (.k .z))))))) : Keep _ _).sat w
        case tnd2_1 =>
          rintro ⟨A8, c8⟩
          refine St.asrt (F' := .ro (SlL eu8 A8 c8 r4.1.L) :: .res (Box gb1 63 [.slice A8 r4.1.L.length c8, .int .i64 r4.1.At]) :: .ro (SlL eu8 A6 c6 r2.1.L) :: .res (Box g1 35 (bx_T_Device r1 A4 c4 A5 c5)) :: .ro (SlL eu8 A4 c4 r1.Slots.e0.Image.Data) :: .ro (SlL eu8 A5 c5 r1.Slots.e1.Image.Data) :: .res (Box g2 35 [.string (⟨#[]⟩), .string (⟨#[]⟩), .int .i64 0, .int .i64 0, .int .i64 0, .slice none 0 0, .int .u32 0, .string (⟨#[]⟩), .int .i64 0, .int .i64 0, .int .i64 0, .slice none 0 0, .int .u32 0, .int .i64 0, .int .i64 0, .bool false]) :: R) (fun _ w => w) ?_
          refine St.xef ?_
          refine St.buildSlice rfl rfl rfl rfl rfl rfl rfl rfl fun g5 => ?_
          refine St.xk (fun _ w => ((.d (.d (.d (.k (.d (.k (.k (.k .z)))))))) : Keep _ _).sat w) ?_
          refine hnd2_0 _ _ (g5, A8, c8) ?_ ?_
          · exact ⟨rfl, rfl, rfl, rfl, rfl, rfl, rfl, rfl, rfl, rfl, rfl, trivial⟩
          · exact fun _ w => ((.k (.k (.k (.k (.k (.k (.k (.k .z)))))))) : Keep _ _).sat ((((((((w.front (.s (.s (.s (.s (.s (.s (.s .z)))))))).front (.s (.s (.s (.s (.s (.s (.s .z)))))))).front (.s (.s (.s (.s (.s (.s (.s .z)))))))).front (.s (.s (.s (.s (.s (.s (.s .z)))))))).front (.s (.s (.s (.s (.s (.s (.s .z)))))))).front (.s (.s (.s (.s (.s .z)))))).front (.s (.s (.s (.s (.s (.s (.s .z)))))))).front (.s (.s (.s (.s (.s (.s (.s .z))))))))
      case tnd2_0 =>
        rintro ⟨g5, A8, c8⟩
        refine St.asrt (F' := .ro (SlL eu8 A8 c8 r4.1.L) :: .res (Box gb1 63 [.slice A8 r4.1.L.length c8, .int .i64 r4.1.At]) :: .res (Box g5 3 [.int .i64 (IntKind.wrap .i64 (1 - r1.Running)), .int .i64 2, .int .i64 (-1)]) :: .ro (SlL eu8 A6 c6 r2.1.L) :: .res (Box g1 35 (bx_T_Device r1 A4 c4 A5 c5)) :: .ro (SlL eu8 A4 c4 r1.Slots.e0.Image.Data) :: .ro (SlL eu8 A5 c5 r1.Slots.e1.Image.Data) :: .res (Box g2 35 [.string (⟨#[]⟩), .string (⟨#[]⟩), .int .i64 0, .int .i64 0, .int .i64 0, .slice none 0 0, .int .u32 0, .string (⟨#[]⟩), .int .i64 0, .int .i64 0, .int .i64 0, .slice none 0 0, .int .u32 0, .int .i64 0, .int .i64 0, .bool false]) :: R) (fun _ w => w) ?_
        refine St.xef ?_
        refine St.asrt (fun _ w => (w.front (.s (.s .z))).litL (E := ei64) (e := 3) [IntKind.wrap .i64 (1 - r1.Running), 2, (-1)] rfl rfl) ?_
        refine St.ixO hx2 rfl rfl rfl (.head _) rfl rfl rfl rfl rfl fun g6 hA => ?_
        cases hA
        refine St.xk (fun _ w => ((.d (.d (.d (.k (.d (.k (.k (.k .z)))))))) : Keep _ _).sat w) ?_
        refine St.xfx (Rd.ldO 0 hx2 rfl (.head _) rfl rfl) rfl ?_
        refine St.xfl (fun _ h => h) (Rd.p rfl) rfl ?_
        refine St.xef ?_
        refine St.store 14 rfl rfl rfl rfl rfl rfl (.s (.s (.s (.s .z)))) rfl ?_
        refine St.xk (fun _ w => ((.d (.d (.d (.d (.k (.k (.k (.k .z)))))))) : Keep _ _).sat w) ?_
        refine St.xdone ?_
        refine St.blkN ?_
        refine St.thenN ?_
        refine St.prune (Γ' := [(3, _), (4, _)]) ⟨rfl, rfl, trivial⟩ (.k (.d (.k (.k (.d (.k (.k (.k .z)))))))) ?_
        refine St.seq ?_
        refine St.region ?_
        refine St.loadB 0 rfl rfl (.head _) rfl rfl ?_
        refine St.store 0 rfl rfl rfl rfl rfl rfl (.s (.s (.s (.s (.s .z))))) rfl ?_
        refine St.done ?_
        refine St.thenN ?_
        refine St.prune (Γ' := [(4, _)]) ⟨rfl, trivial⟩ (.k (.d (.k (.k (.k (.k .z)))))) ?_
        refine St.ret ?_
        repeat (first | refine St.thenR ?_ | refine St.blkR ?_)
        injection h with h
        subst h
        exact St.finR Try.results27 (.cell rfl (.head _) rfl .nil) rfl [.ro (SlL eu8 A8 c8 r4.1.L), .ro (SlL eu8 A4 c4 r1.Slots.e0.Image.Data), .ro (SlL eu8 A5 c5 r1.Slots.e1.Image.Data), .res (Box gb1 63 [.slice A8 r4.1.L.length c8, .int .i64 r4.1.At])] ⟨A8, c8, A4, c4, A5, c5, rfl, rfl⟩ (fun _ w => ((.k (.k (.k (.k (.d (.d (.d (.d .z)))))))) : Keep _ _).sat (Sat.dup (G := [.ro (SlL eu8 A8 c8 r4.1.L), .ro (SlL eu8 A4 c4 r1.Slots.e0.Image.Data), .ro (SlL eu8 A5 c5 r1.Slots.e1.Image.Data)]) rfl ⟨(.tail _ (.tail _ (.head _))), (.tail _ (.tail _ (.tail _ (.head _)))), (.tail _ (.tail _ (.tail _ (.tail _ (.head _))))), trivial⟩ (w.front (.s (.s .z)))))
    · replace h := bif_f hb2 h
      refine St.seq ?_
      refine St.region ?_
      refine St.p rfl rfl ?_
      refine St.p rfl rfl ?_
      refine St.done ?_
      refine St.thenN ?_
      refine St.prune (Γ' := [(0, _), (3, _), (4, _), (8, _), (31, _)]) ⟨rfl, rfl, rfl, rfl, rfl, trivial⟩ (.k (.k (.k (.k (.k (.k .z)))))) ?_
      refine St.cond _ rfl (fun hb3 => ?_) (fun hb3 => ?_)
      · replace h := bif_t hb3 h
        refine St.region ?_
        refine St.p rfl rfl ?_
        refine St.loadB 15 rfl rfl (.tail _ (.tail _ (.head _))) rfl rfl ?_
        refine St.p rfl rfl ?_
        refine St.p rfl rfl ?_
        refine St.store 15 rfl rfl rfl rfl rfl rfl (.s (.s .z)) rfl ?_
        refine St.done ?_
        refine St.blkN ?_
        refine St.thenN ?_
        refine St.prune (Γ' := [(3, _), (4, _)]) ⟨rfl, rfl, trivial⟩ (.k (.k (.k (.k (.k (.k .z)))))) ?_
        refine St.seq ?_
        refine St.region ?_
        refine St.loadB 0 rfl rfl (.head _) rfl rfl ?_
        refine St.store 0 rfl rfl rfl rfl rfl rfl (.s (.s (.s (.s (.s .z))))) rfl ?_
        refine St.done ?_
        refine St.thenN ?_
        refine St.prune (Γ' := [(4, _)]) ⟨rfl, trivial⟩ (.k (.d (.k (.k (.k (.k .z)))))) ?_
        refine St.ret ?_
        repeat (first | refine St.thenR ?_ | refine St.blkR ?_)
        injection h with h
        subst h
        exact St.finR Try.results27 (.cell rfl (.head _) rfl .nil) rfl [.ro (SlL eu8 A6 c6 r2.1.L), .ro (SlL eu8 A4 c4 r1.Slots.e0.Image.Data), .ro (SlL eu8 A5 c5 r1.Slots.e1.Image.Data), .res (Box gb1 63 [.slice A6 r2.1.L.length c6, .int .i64 r2.1.At])] ⟨A6, c6, A4, c4, A5, c5, rfl, rfl⟩ (fun _ w => ((.k (.k (.k (.k (.d (.d (.d (.d .z)))))))) : Keep _ _).sat (Sat.dup (G := [.ro (SlL eu8 A6 c6 r2.1.L), .ro (SlL eu8 A4 c4 r1.Slots.e0.Image.Data), .ro (SlL eu8 A5 c5 r1.Slots.e1.Image.Data)]) rfl ⟨(.tail _ (.tail _ (.head _))), (.tail _ (.tail _ (.tail _ (.head _)))), (.tail _ (.tail _ (.tail _ (.tail _ (.head _))))), trivial⟩ (w.front (.s (.s .z)))))
      · replace h := bif_f hb3 h
        refine St.seq ?_
        refine St.region ?_
        refine St.p rfl rfl ?_
        refine St.p rfl rfl ?_
        refine St.done ?_
        refine St.thenN ?_
        refine St.prune (Γ' := [(0, _), (3, _), (4, _), (8, _), (37, _)]) ⟨rfl, rfl, rfl, rfl, rfl, trivial⟩ (.k (.k (.k (.k (.k (.k .z)))))) ?_
        refine St.cond _ rfl (fun hb4 => ?_) (fun hb4 => ?_)
        · replace h := bif_t hb4 h
          refine St.region ?_
          refine St.p rfl rfl ?_
          obtain ⟨r5, hr5, h⟩ := bnd_e h
          refine St.call (c_field_Codes_Next hr5) ent23 rfl rfl rfl (fun _ w => Sat.dup (G := [.ro (SlL eu8 A6 c6 r2.1.L)]) rfl ⟨(.tail _ (.head _)), trivial⟩ (w.front (.s .z))) ?_
          rintro _ _ ⟨A9, c9, rfl, rfl⟩
          refine St.asrt (F' := .ro (SlL eu8 A9 c9 r5.1.L) :: .res (Box gb1 63 [.slice A9 r5.1.L.length c9, .int .i64 r5.1.At]) :: .ro (SlL eu8 A6 c6 r2.1.L) :: .res (Box g1 35 (bx_T_Device r1 A4 c4 A5 c5)) :: .ro (SlL eu8 A4 c4 r1.Slots.e0.Image.Data) :: .ro (SlL eu8 A5 c5 r1.Slots.e1.Image.Data) :: .res (Box g2 35 [.string (⟨#[]⟩), .string (⟨#[]⟩), .int .i64 0, .int .i64 0, .int .i64 0, .slice none 0 0, .int .u32 0, .string (⟨#[]⟩), .int .i64 0, .int .i64 0, .int .i64 0, .slice none 0 0, .int .u32 0, .int .i64 0, .int .i64 0, .bool false]) :: R) (fun _ w => w) ?_
          refine St.p rfl rfl ?_
          obtain ⟨x3, hx3, h⟩ := bnd_e h
          refine St.ixP (sz := 6) hx3 rfl rfl rfl rfl rfl rfl rfl rfl ?_
          refine St.p rfl rfl ?_
          refine St.ldP (ls := l_T_Slot) 5 [.string r1.Name] [.int .i64 r1.Active, .int .i64 r1.Running, .bool r1.Trial] [(r1.Slots.e0, ((A4, c4), ())), (r1.Slots.e1, ((A5, c5), ()))] (fun ex => .int .u32 x3.Sum) hx3 rfl rfl (.tail _ (.tail _ (.tail _ (.head _)))) rfl rfl rfl ⟨(.tail _ (.tail _ (.tail _ (.tail _ (.head _))))), (.tail _ (.tail _ (.tail _ (.tail _ (.tail _ (.head _)))))), trivial⟩ rfl (fun _ => rfl) fun ex1 => ?_
          obtain ⟨⟨A10, c10⟩, _⟩ := ex1
          refine St.asrt (F' := .ro (SlL eu8 A10 c10 x3.Image.Data) :: .ro (SlL eu8 A9 c9 r5.1.L) :: .res (Box gb1 63 [.slice A9 r5.1.L.length c9, .int .i64 r5.1.At]) :: .ro (SlL eu8 A6 c6 r2.1.L) :: .res (Box g1 35 (bx_T_Device r1 A4 c4 A5 c5)) :: .ro (SlL eu8 A4 c4 r1.Slots.e0.Image.Data) :: .ro (SlL eu8 A5 c5 r1.Slots.e1.Image.Data) :: .res (Box g2 35 [.string (⟨#[]⟩), .string (⟨#[]⟩), .int .i64 0, .int .i64 0, .int .i64 0, .slice none 0 0, .int .u32 0, .string (⟨#[]⟩), .int .i64 0, .int .i64 0, .int .i64 0, .slice none 0 0, .int .u32 0, .int .i64 0, .int .i64 0, .bool false]) :: R) (fun _ w => w) ?_
          refine St.p rfl rfl ?_
          refine St.p rfl rfl ?_
          refine St.ixP (sz := 6) hx3 rfl rfl rfl rfl rfl rfl rfl rfl ?_
          refine St.p rfl rfl ?_
          obtain ⟨z1, hz1, h⟩ := bnd_e h
          refine St.stP (ls := l_T_Slot) 5 [.string r1.Name] [.int .i64 r1.Active, .int .i64 r1.Running, .bool r1.Trial] [(r1.Slots.e0, ((A4, c4), ())), (r1.Slots.e1, ((A5, c5), ()))] (fun ex => ((ex.1.1, ex.1.2), ())) hx3 (Arr2.set_e hz1) rfl rfl (.s (.s (.s (.s .z)))) rfl rfl rfl ⟨(.tail _ (.tail _ (.tail _ (.tail _ (.head _))))), (.tail _ (.tail _ (.tail _ (.tail _ (.tail _ (.head _)))))), trivial⟩ rfl rfl rfl rfl (fun _ => rfl) (fun _ => ⟨(.head _), trivial⟩) fun ye1 hye1 => ?_
          obtain ⟨ex2, ex3, rfl⟩ := pairs2 hye1
          obtain ⟨⟨A11, c11⟩, _⟩ := ex2
          obtain ⟨⟨A12, c12⟩, _⟩ := ex3
          refine St.asrt (F' := .res (Box g1 35 [.string r1.Name, .string z1.e0.Image.Name, .int .i64 z1.e0.Image.Version.Major, .int .i64 z1.e0.Image.Version.Minor, .int .i64 z1.e0.Image.Version.Patch, .slice A11 z1.e0.Image.Data.length c11, .int .u32 z1.e0.Sum, .string z1.e1.Image.Name, .int .i64 z1.e1.Image.Version.Major, .int .i64 z1.e1.Image.Version.Minor, .int .i64 z1.e1.Image.Version.Patch, .slice A12 z1.e1.Image.Data.length c12, .int .u32 z1.e1.Sum, .int .i64 r1.Active, .int .i64 r1.Running, .bool r1.Trial]) :: .ro (SlL eu8 A11 c11 z1.e0.Image.Data) :: .ro (SlL eu8 A12 c12 z1.e1.Image.Data) :: .ro (SlL eu8 A10 c10 x3.Image.Data) :: .ro (SlL eu8 A9 c9 r5.1.L) :: .res (Box gb1 63 [.slice A9 r5.1.L.length c9, .int .i64 r5.1.At]) :: .ro (SlL eu8 A6 c6 r2.1.L) :: .ro (SlL eu8 A4 c4 r1.Slots.e0.Image.Data) :: .ro (SlL eu8 A5 c5 r1.Slots.e1.Image.Data) :: .res (Box g2 35 [.string (⟨#[]⟩), .string (⟨#[]⟩), .int .i64 0, .int .i64 0, .int .i64 0, .slice none 0 0, .int .u32 0, .string (⟨#[]⟩), .int .i64 0, .int .i64 0, .int .i64 0, .slice none 0 0, .int .u32 0, .int .i64 0, .int .i64 0, .bool false]) :: R) (fun _ w => w) ?_
          refine St.done ?_
          refine St.blkN ?_
          refine St.thenN ?_
          refine St.prune (Γ' := [(3, _), (4, _)]) ⟨rfl, rfl, trivial⟩ (.k (.k (.k (.d (.k (.k (.d (.d (.d (.k .z)))))))))) ?_
          refine St.seq ?_
          refine St.region ?_
          refine St.loadB 0 rfl rfl (.head _) rfl rfl ?_
          refine St.store 0 rfl rfl rfl rfl rfl rfl (.s (.s (.s (.s (.s .z))))) rfl ?_
          refine St.done ?_
          refine St.thenN ?_
          refine St.prune (Γ' := [(4, _)]) ⟨rfl, trivial⟩ (.k (.d (.k (.k (.k (.k .z)))))) ?_
          refine St.ret ?_
          repeat (first | refine St.thenR ?_ | refine St.blkR ?_)
          injection h with h
          subst h
          exact St.finR Try.results27 (.cell rfl (.head _) rfl .nil) rfl [.ro (SlL eu8 A9 c9 r5.1.L), .ro (SlL eu8 A11 c11 z1.e0.Image.Data), .ro (SlL eu8 A12 c12 z1.e1.Image.Data), .res (Box gb1 63 [.slice A9 r5.1.L.length c9, .int .i64 r5.1.At])] ⟨A9, c9, A11, c11, A12, c12, rfl, rfl⟩ (fun _ w => ((.k (.k (.k (.k (.d (.d (.d (.d .z)))))))) : Keep _ _).sat (Sat.dup (G := [.ro (SlL eu8 A9 c9 r5.1.L), .ro (SlL eu8 A11 c11 z1.e0.Image.Data), .ro (SlL eu8 A12 c12 z1.e1.Image.Data)]) rfl ⟨(.tail _ (.tail _ (.tail _ (.tail _ (.head _))))), (.tail _ (.tail _ (.head _))), (.tail _ (.tail _ (.tail _ (.head _)))), trivial⟩ (w.front (.s (.s (.s (.s .z)))))))
        · replace h := bif_f hb4 h
          refine St.seq ?_
          refine St.region ?_
          refine St.p rfl rfl ?_
          refine St.p rfl rfl ?_
          refine St.done ?_
          refine St.thenN ?_
          refine St.prune (Γ' := [(0, _), (3, _), (4, _), (8, _), (49, _)]) ⟨rfl, rfl, rfl, rfl, rfl, trivial⟩ (.k (.k (.k (.k (.k (.k .z)))))) ?_
          refine St.cond _ rfl (fun hb5 => ?_) (fun hb5 => ?_)
          · replace h := bif_t hb5 h
            refine St.region ?_
            refine St.p rfl rfl ?_
            obtain ⟨r6, hr6, h⟩ := bnd_e h
            refine St.call (c_field_Codes_Name hr6) ent53 rfl rfl rfl (fun _ w => Sat.dup (G := [.ro (SlL eu8 A6 c6 r2.1.L)]) rfl ⟨(.tail _ (.head _)), trivial⟩ (w.front (.s .z))) ?_
            rintro _ _ ⟨A13, c13, rfl, rfl⟩
            refine St.asrt (F' := .ro (SlL eu8 A13 c13 r6.1.L) :: .res (Box gb1 63 [.slice A13 r6.1.L.length c13, .int .i64 r6.1.At]) :: .ro (SlL eu8 A6 c6 r2.1.L) :: .res (Box g1 35 (bx_T_Device r1 A4 c4 A5 c5)) :: .ro (SlL eu8 A4 c4 r1.Slots.e0.Image.Data) :: .ro (SlL eu8 A5 c5 r1.Slots.e1.Image.Data) :: .res (Box g2 35 [.string (⟨#[]⟩), .string (⟨#[]⟩), .int .i64 0, .int .i64 0, .int .i64 0, .slice none 0 0, .int .u32 0, .string (⟨#[]⟩), .int .i64 0, .int .i64 0, .int .i64 0, .slice none 0 0, .int .u32 0, .int .i64 0, .int .i64 0, .bool false]) :: R) (fun _ w => w) ?_
            refine St.p rfl rfl ?_
            refine St.store 0 rfl rfl rfl rfl rfl rfl (.s (.s (.s .z))) rfl ?_
            refine St.done ?_
            refine St.blkN ?_
            refine St.thenN ?_
            refine St.prune (Γ' := [(3, _), (4, _)]) ⟨rfl, rfl, trivial⟩ (.k (.k (.k (.d (.k (.k (.k .z))))))) ?_
            refine St.seq ?_
            refine St.region ?_
            refine St.loadB 0 rfl rfl (.head _) rfl rfl ?_
            refine St.store 0 rfl rfl rfl rfl rfl rfl (.s (.s (.s (.s (.s .z))))) rfl ?_
            refine St.done ?_
            refine St.thenN ?_
            refine St.prune (Γ' := [(4, _)]) ⟨rfl, trivial⟩ (.k (.d (.k (.k (.k (.k .z)))))) ?_
            refine St.ret ?_
            repeat (first | refine St.thenR ?_ | refine St.blkR ?_)
            injection h with h
            subst h
            exact St.finR Try.results27 (.cell rfl (.head _) rfl .nil) rfl [.ro (SlL eu8 A13 c13 r6.1.L), .ro (SlL eu8 A4 c4 r1.Slots.e0.Image.Data), .ro (SlL eu8 A5 c5 r1.Slots.e1.Image.Data), .res (Box gb1 63 [.slice A13 r6.1.L.length c13, .int .i64 r6.1.At])] ⟨A13, c13, A4, c4, A5, c5, rfl, rfl⟩ (fun _ w => ((.k (.k (.k (.k (.d (.d (.d (.d .z)))))))) : Keep _ _).sat (Sat.dup (G := [.ro (SlL eu8 A13 c13 r6.1.L), .ro (SlL eu8 A4 c4 r1.Slots.e0.Image.Data), .ro (SlL eu8 A5 c5 r1.Slots.e1.Image.Data)]) rfl ⟨(.tail _ (.tail _ (.head _))), (.tail _ (.tail _ (.tail _ (.head _)))), (.tail _ (.tail _ (.tail _ (.tail _ (.head _))))), trivial⟩ (w.front (.s (.s .z)))))
          · replace h := bif_f hb5 h
            refine St.seq ?_
            refine St.region ?_
            refine St.p rfl rfl ?_
            refine St.p rfl rfl ?_
            refine St.done ?_
            refine St.thenN ?_
            refine St.prune (Γ' := [(0, _), (3, _), (4, _), (54, _)]) ⟨rfl, rfl, rfl, rfl, trivial⟩ (.k (.k (.k (.k (.k (.k .z)))))) ?_
            refine St.cond _ rfl (fun hb6 => ?_) (fun hb6 => ?_)
            · replace h := bif_t hb6 h
              obtain ⟨r7, hr7, h⟩ := bnd_e h
              obtain ⟨r8, hr8, h⟩ := bnd_e h
              obtain ⟨x4, hx4, h⟩ := bnd_e h
              obtain ⟨z2, hz2, h⟩ := bnd_e h
              refine St.regionX (iL [(.fl, 0), (.fl, 2), (.fl, 3), (.fl, 6)] (.alt (iL [(.ef, 1)] (iL [(.ef, 4)] (iL [(.ef, 5)] (iL [(.ef, 7), (.fl, 8)] (iL [(.ef, 9)] .nil))))) (iL [(.ef, 4)] (iL [(.ef, 1)] (iL [(.ef, 5)] (iL [(.ef, 7), (.fl, 8)] (iL [(.ef, 9)] .nil))))))) (.ro (SlL eu8 A6 c6 r2.1.L) :: .ro (SlL eu8 A4 c4 r1.Slots.e0.Image.Data) :: .ro (SlL eu8 A5 c5 r1.Slots.e1.Image.Data) :: .res (Box g2 35 [.string (⟨#[]⟩), .string (⟨#[]⟩), .int .i64 0, .int .i64 0, .int .i64 0, .slice none 0 0, .int .u32 0, .string (⟨#[]⟩), .int .i64 0, .int .i64 0, .int .i64 0, .slice none 0 0, .int .u32 0, .int .i64 0, .int .i64 0, .bool false]) :: R) mixed (by kernel_rfl) (fun _ w => ((.k (.d (.d (.k (.k (.k .z)))))) : Keep _ _).sat w) ?_
              refine St.share (Y := ?Ynd3_0) (fun (e : Option Addr × Nat) => [(0, .pointer (some ⟨gb1, 0, none⟩)), (3, .pointer (some ⟨g1, 0, none⟩)), (4, .pointer (some ⟨g2, 0, none⟩)), (54, .bool (r2.2 == 5)), (56, .pointer (some ⟨gb1, 0, none⟩)), (57, .int .i64 r7.2), (58, .pointer (some ⟨gb1, 0, none⟩)), (59, .pointer (some ⟨g1, 0, none⟩)), (60, .string r1.Name), (62, .pointer (some ⟨g1, 1, none⟩))]) (fun e => .ro (SlL eu8 e.1 e.2 r7.1.L) :: .res (Box gb1 63 [.slice e.1 r7.1.L.length e.2, .int .i64 r7.1.At]) :: .ro (SlL eu8 A6 c6 r2.1.L) :: .res (Box g1 35 (bx_T_Device r1 A4 c4 A5 c5)) :: .ro (SlL eu8 A4 c4 r1.Slots.e0.Image.Data) :: .ro (SlL eu8 A5 c5 r1.Slots.e1.Image.Data) :: .res (Box g2 35 [.string (⟨#[]⟩), .string (⟨#[]⟩), .int .i64 0, .int .i64 0, .int .i64 0, .slice none 0 0, .int .u32 0, .string (⟨#[]⟩), .int .i64 0, .int .i64 0, .int .i64 0, .slice none 0 0, .int .u32 0, .int .i64 0, .int .i64 0, .bool false]) :: R) (fun hnd3_0 => ?mnd3_0) ?tnd3_0
              case mnd3_0 =>
                refine St.xfl (fun _ h => h) (Rd.p rfl) rfl ?_
                refine St.xfl (fun _ h => h) (Rd.p rfl) rfl ?_
                refine St.xfl (fun _ h => h) (Rd.p rfl) rfl ?_
                refine St.xfl (fun _ h => h) (Rd.p rfl) rfl ?_
                refine St.xalt ?_ ?_
                · refine St.xef ?_
                  refine St.call (c_field_Codes_Next hr7) ent23 rfl rfl rfl (fun _ w => Sat.dup (G := [.ro (SlL eu8 A6 c6 r2.1.L)]) rfl ⟨(.tail _ (.head _)), trivial⟩ (w.front (.s .z))) ?_
                  rintro _ _ ⟨A14, c14, rfl, rfl⟩
                  refine St.asrt (F' := .ro (SlL eu8 A14 c14 r7.1.L) :: .res (Box gb1 63 [.slice A14 r7.1.L.length c14, .int .i64 r7.1.At]) :: .ro (SlL eu8 A6 c6 r2.1.L) :: .res (Box g1 35 (bx_T_Device r1 A4 c4 A5 c5)) :: .ro (SlL eu8 A4 c4 r1.Slots.e0.Image.Data) :: .ro (SlL eu8 A5 c5 r1.Slots.e1.Image.Data) :: .res (Box g2 35 [.string (⟨#[]⟩), .string (⟨#[]⟩), .int .i64 0, .int .i64 0, .int .i64 0, .slice none 0 0, .int .u32 0, .string (⟨#[]⟩), .int .i64 0, .int .i64 0, .int .i64 0, .slice none 0 0, .int .u32 0, .int .i64 0, .int .i64 0, .bool false]) :: R) (fun _ w => w) ?_
                  refine St.xk (fun _ w => ((.d (.d (.k (.d (.k (.k (.k .z))))))) : Keep _ _).sat w) ?_
                  refine St.xef ?_
                  refine St.loadB 0 rfl rfl (.tail _ (.tail _ (.tail _ (.head _)))) rfl rfl ?_
                  refine St.xk (fun _ w => ((.d (.d (.k (.d (.k (.k (.k .z))))))) : Keep _ _).sat w) ?_
                  refine hnd3_0 _ _ (A14, c14) ?_ ?_
                  · exact ⟨rfl, rfl, rfl, rfl, rfl, rfl, rfl, rfl, rfl, rfl, trivial⟩
                  · exact fun _ w => ((.k (.k (.k (.k (.k (.k (.k .z))))))) : Keep _ _).sat w
                · refine St.xef ?_
                  refine St.loadB 0 rfl rfl (.tail _ (.tail _ (.head _))) rfl rfl ?_
                  refine St.xk (fun _ w => ((.k (.d (.d (.k (.k (.k .z)))))) : Keep _ _).sat w) ?_
                  refine St.xef ?_
                  refine St.call (c_field_Codes_Next hr7) ent23 rfl rfl rfl (fun _ w => Sat.dup (G := [.ro (SlL eu8 A6 c6 r2.1.L)]) rfl ⟨(.tail _ (.head _)), trivial⟩ (w.front (.s .z))) ?_
                  rintro _ _ ⟨A14, c14, rfl, rfl⟩
                  refine St.asrt (F' := .ro (SlL eu8 A14 c14 r7.1.L) :: .res (Box gb1 63 [.slice A14 r7.1.L.length c14, .int .i64 r7.1.At]) :: .ro (SlL eu8 A6 c6 r2.1.L) :: .res (Box g1 35 (bx_T_Device r1 A4 c4 A5 c5)) :: .ro (SlL eu8 A4 c4 r1.Slots.e0.Image.Data) :: .ro (SlL eu8 A5 c5 r1.Slots.e1.Image.Data) :: .res (Box g2 35 [.string (⟨#[]⟩), .string (⟨#[]⟩), .int .i64 0, .int .i64 0, .int .i64 0, .slice none 0 0, .int .u32 0, .string (⟨#[]⟩), .int .i64 0, .int .i64 0, .int .i64 0, .slice none 0 0, .int .u32 0, .int .i64 0, .int .i64 0, .bool false]) :: R) (fun _ w => w) ?_
                  refine St.xk (fun _ w => ((.d (.d (.k (.d (.k (.k (.k .z))))))) : Keep _ _).sat w) ?_
                  refine hnd3_0 _ _ (A14, c14) ?_ ?_
                  · exact ⟨rfl, rfl, rfl, rfl, rfl, rfl, rfl, rfl, rfl, rfl, trivial⟩
                  · exact fun _ w => ((.k (.k (.k (.k (.k (.k (.k .z))))))) : Keep _ _).sat w
              case tnd3_0 =>
                rintro ⟨A14, c14⟩
                refine St.asrt (F' := .ro (SlL eu8 A14 c14 r7.1.L) :: .res (Box gb1 63 [.slice A14 r7.1.L.length c14, .int .i64 r7.1.At]) :: .ro (SlL eu8 A6 c6 r2.1.L) :: .res (Box g1 35 (bx_T_Device r1 A4 c4 A5 c5)) :: .ro (SlL eu8 A4 c4 r1.Slots.e0.Image.Data) :: .ro (SlL eu8 A5 c5 r1.Slots.e1.Image.Data) :: .res (Box g2 35 [.string (⟨#[]⟩), .string (⟨#[]⟩), .int .i64 0, .int .i64 0, .int .i64 0, .slice none 0 0, .int .u32 0, .string (⟨#[]⟩), .int .i64 0, .int .i64 0, .int .i64 0, .slice none 0 0, .int .u32 0, .int .i64 0, .int .i64 0, .bool false]) :: R) (fun _ w => w) ?_
                refine St.xef ?_
                refine St.call (c_field_Codes_Image hr8) ent22 rfl rfl rfl (fun _ w => Sat.dup (G := [.ro (SlL eu8 A14 c14 r7.1.L)]) rfl ⟨(.tail _ (.head _)), trivial⟩ (w.front (.s .z))) ?_
                rintro _ _ ⟨A15, c15, A16, c16, rfl, rfl⟩
                refine St.asrt (F' := .ro (SlL eu8 A15 c15 r8.1.L) :: .ro (SlL eu8 A16 c16 r8.2.Data) :: .res (Box gb1 63 [.slice A15 r8.1.L.length c15, .int .i64 r8.1.At]) :: .ro (SlL eu8 A14 c14 r7.1.L) :: .ro (SlL eu8 A6 c6 r2.1.L) :: .res (Box g1 35 (bx_T_Device r1 A4 c4 A5 c5)) :: .ro (SlL eu8 A4 c4 r1.Slots.e0.Image.Data) :: .ro (SlL eu8 A5 c5 r1.Slots.e1.Image.Data) :: .res (Box g2 35 [.string (⟨#[]⟩), .string (⟨#[]⟩), .int .i64 0, .int .i64 0, .int .i64 0, .slice none 0 0, .int .u32 0, .string (⟨#[]⟩), .int .i64 0, .int .i64 0, .int .i64 0, .slice none 0 0, .int .u32 0, .int .i64 0, .int .i64 0, .bool false]) :: R) (fun _ w => w) ?_
                refine St.xk (fun _ w => ((.d (.d (.d (.d (.k (.d (.k (.k (.k .z))))))))) : Keep _ _).sat w) ?_
                refine St.xef ?_
                refine St.ixP (sz := 6) hx4 rfl rfl rfl rfl rfl rfl rfl rfl ?_
                refine St.xk (fun _ w => ((.d (.d (.d (.d (.k (.d (.k (.k (.k .z))))))))) : Keep _ _).sat w) ?_
                refine St.xfl (fun _ h => h) (Rd.p rfl) rfl ?_
                refine St.xef ?_
                refine St.stP (ls := l_T_Slot) 0 [.string r1.Name] [.int .i64 r1.Active, .int .i64 r1.Running, .bool r1.Trial] [(r1.Slots.e0, ((A4, c4), ())), (r1.Slots.e1, ((A5, c5), ()))] (fun ex => ((A16, c16), ())) hx4 (Arr2.set_e hz2) rfl rfl (.s (.s (.s (.s (.s .z))))) rfl rfl rfl ⟨(.tail _ (.tail _ (.tail _ (.tail _ (.tail _ (.head _)))))), (.tail _ (.tail _ (.tail _ (.tail _ (.tail _ (.tail _ (.head _))))))), trivial⟩ rfl rfl rfl rfl (fun _ => rfl) (fun _ => ⟨(.tail _ (.tail _ (.head _))), trivial⟩) fun ye2 hye2 => ?_
                obtain ⟨ex4, ex5, rfl⟩ := pairs2 hye2
                obtain ⟨⟨A17, c17⟩, _⟩ := ex4
                obtain ⟨⟨A18, c18⟩, _⟩ := ex5
                refine St.asrt (F' := .res (Box g1 35 [.string r1.Name, .string z2.e0.Image.Name, .int .i64 z2.e0.Image.Version.Major, .int .i64 z2.e0.Image.Version.Minor, .int .i64 z2.e0.Image.Version.Patch, .slice A17 z2.e0.Image.Data.length c17, .int .u32 z2.e0.Sum, .string z2.e1.Image.Name, .int .i64 z2.e1.Image.Version.Major, .int .i64 z2.e1.Image.Version.Minor, .int .i64 z2.e1.Image.Version.Patch, .slice A18 z2.e1.Image.Data.length c18, .int .u32 z2.e1.Sum, .int .i64 r1.Active, .int .i64 r1.Running, .bool r1.Trial]) :: .ro (SlL eu8 A17 c17 z2.e0.Image.Data) :: .ro (SlL eu8 A18 c18 z2.e1.Image.Data) :: .ro (SlL eu8 A15 c15 r8.1.L) :: .ro (SlL eu8 A16 c16 r8.2.Data) :: .res (Box gb1 63 [.slice A15 r8.1.L.length c15, .int .i64 r8.1.At]) :: .ro (SlL eu8 A14 c14 r7.1.L) :: .ro (SlL eu8 A6 c6 r2.1.L) :: .ro (SlL eu8 A4 c4 r1.Slots.e0.Image.Data) :: .ro (SlL eu8 A5 c5 r1.Slots.e1.Image.Data) :: .res (Box g2 35 [.string (⟨#[]⟩), .string (⟨#[]⟩), .int .i64 0, .int .i64 0, .int .i64 0, .slice none 0 0, .int .u32 0, .string (⟨#[]⟩), .int .i64 0, .int .i64 0, .int .i64 0, .slice none 0 0, .int .u32 0, .int .i64 0, .int .i64 0, .bool false]) :: R) (fun _ w => w) ?_
                refine St.xk (fun _ w => ((.d (.d (.d (.d (.d (.d (.d (.k (.k (.k (.k .z))))))))))) : Keep _ _).sat w) ?_
                refine St.xdone ?_
                refine St.blkN ?_
                refine St.thenN ?_
                refine St.prune (Γ' := [(3, _), (4, _)]) ⟨rfl, rfl, trivial⟩ (.k (.k (.k (.k (.d (.k (.d (.d (.d (.d (.k .z))))))))))) ?_
                refine St.seq ?_
                refine St.region ?_
                refine St.loadB 0 rfl rfl (.head _) rfl rfl ?_
                refine St.store 0 rfl rfl rfl rfl rfl rfl (.s (.s (.s (.s (.s .z))))) rfl ?_
                refine St.done ?_
                refine St.thenN ?_
                refine St.prune (Γ' := [(4, _)]) ⟨rfl, trivial⟩ (.k (.d (.k (.k (.k (.k .z)))))) ?_
                refine St.ret ?_
                repeat (first | refine St.thenR ?_ | refine St.blkR ?_)
                injection h with h
                subst h
                exact St.finR Try.results27 (.cell rfl (.head _) rfl .nil) rfl [.ro (SlL eu8 A15 c15 r8.1.L), .ro (SlL eu8 A17 c17 z2.e0.Image.Data), .ro (SlL eu8 A18 c18 z2.e1.Image.Data), .res (Box gb1 63 [.slice A15 r8.1.L.length c15, .int .i64 r8.1.At])] ⟨A15, c15, A17, c17, A18, c18, rfl, rfl⟩ (fun _ w => ((.k (.k (.k (.k (.d (.d (.d (.d .z)))))))) : Keep _ _).sat (Sat.dup (G := [.ro (SlL eu8 A15 c15 r8.1.L), .ro (SlL eu8 A17 c17 z2.e0.Image.Data), .ro (SlL eu8 A18 c18 z2.e1.Image.Data)]) rfl ⟨(.tail _ (.tail _ (.tail _ (.tail _ (.head _))))), (.tail _ (.tail _ (.head _))), (.tail _ (.tail _ (.tail _ (.head _)))), trivial⟩ (w.front (.s (.s (.s (.s .z)))))))
            · replace h := bif_f hb6 h
              refine St.skip ?_
              refine St.blkN ?_
              refine St.thenN ?_
              refine St.prune (Γ' := [(3, _), (4, _)]) ⟨rfl, rfl, trivial⟩ (.k (.k (.k (.k (.k (.k .z)))))) ?_
              refine St.seq ?_
              refine St.region ?_
              refine St.loadB 0 rfl rfl (.tail _ (.tail _ (.head _))) rfl rfl ?_
              refine St.store 0 rfl rfl rfl rfl rfl rfl (.s (.s (.s (.s (.s .z))))) rfl ?_
              refine St.done ?_
              refine St.thenN ?_
              refine St.prune (Γ' := [(4, _)]) ⟨rfl, trivial⟩ (.k (.k (.k (.d (.k (.k .z)))))) ?_
              refine St.ret ?_
              repeat (first | refine St.thenR ?_ | refine St.blkR ?_)
              injection h with h
              subst h
              exact St.finR Try.results27 (.cell rfl (.head _) rfl .nil) rfl [.ro (SlL eu8 A6 c6 r2.1.L), .ro (SlL eu8 A4 c4 r1.Slots.e0.Image.Data), .ro (SlL eu8 A5 c5 r1.Slots.e1.Image.Data), .res (Box gb1 63 [.slice A6 r2.1.L.length c6, .int .i64 r2.1.At])] ⟨A6, c6, A4, c4, A5, c5, rfl, rfl⟩ (fun _ w => ((.k (.k (.k (.k (.d (.d (.d (.d .z)))))))) : Keep _ _).sat (Sat.dup (G := [.ro (SlL eu8 A6 c6 r2.1.L), .ro (SlL eu8 A4 c4 r1.Slots.e0.Image.Data), .ro (SlL eu8 A5 c5 r1.Slots.e1.Image.Data)]) rfl ⟨(.tail _ (.tail _ (.head _))), (.tail _ (.tail _ (.tail _ (.head _)))), (.tail _ (.tail _ (.tail _ (.tail _ (.head _))))), trivial⟩ (w.front (.s (.s .z)))))

theorem ent32 : Ent Try.prog 32 := ⟨_, Try.func32, by kernel_rfl, by kernel_rfl⟩

noncomputable def m_ref29_Version (d_p0 : T_Device) : Option T_Version :=
  bnd (m_ref29_Valid d_p0) fun r1 => bif !r1 then (some (⟨0, 0, 0⟩ : T_Version)) else (bnd (elt [d_p0.Slots.e0, d_p0.Slots.e1] d_p0.Running) fun x1 => some x1.Image.Version)

theorem c_ref29_Version {d_p0 : T_Device} {A1 : Option Addr} {c1 : Nat} {A2 : Option Addr} {c2 : Nat} {r : T_Version} (h : m_ref29_Version d_p0 = some r) :
    Fun Try.prog 32 [.agg (bx_T_Device d_p0 A1 c1 A2 c2).toArray] [.ro (SlL eu8 A1 c1 d_p0.Slots.e0.Image.Data), .ro (SlL eu8 A2 c2 d_p0.Slots.e1.Image.Data)] (Val (.agg #[.int .i64 r.Major, .int .i64 r.Minor, .int .i64 r.Patch])) := by
  unfold m_ref29_Version at h
  refine Fun.intro Try.func32 rfl rfl rfl fun w R => ?_
  refine St.seq ?_
  refine St.region ?_
  refine St.box rfl rfl fun g1 => ?_
  refine St.alloc rfl rfl fun g2 => ?_
  refine St.done ?_
  refine St.thenN ?_
  refine St.prune (Γ' := [(1, _), (2, _)]) ⟨rfl, rfl, trivial⟩ (.k (.k (.k (.k .z)))) ?_
  refine St.seq ?_
  refine St.seq ?_
  refine St.region ?_
  refine St.loadB 0 rfl rfl (.tail _ (.head _)) rfl rfl ?_
  obtain ⟨r1, hr1, h⟩ := bnd_e h
  refine St.callV (c_ref29_Valid hr1) ent30 rfl rfl rfl rfl ⟨(.tail _ (.tail _ (.head _))), (.tail _ (.tail _ (.tail _ (.head _)))), trivial⟩ ?_
  refine St.p rfl rfl ?_
  refine St.done ?_
  refine St.thenN ?_
  refine St.prune (Γ' := [(1, _), (2, _), (5, _)]) ⟨rfl, rfl, rfl, trivial⟩ (.k (.k (.k (.k .z)))) ?_
  refine St.cond _ rfl (fun hb1 => ?_) (fun hb1 => ?_)
  · replace h := bif_t hb1 h
    refine St.seq ?_
    refine St.region ?_
    refine St.p rfl rfl ?_
    refine St.store 0 rfl rfl rfl rfl rfl rfl .z rfl ?_
    refine St.done ?_
    refine St.thenN ?_
    refine St.prune (Γ' := [(2, _)]) ⟨rfl, trivial⟩ (.k (.d (.d (.d .z)))) ?_
    refine St.ret ?_
    repeat (first | refine St.thenR ?_ | refine St.blkR ?_)
    injection h with h
    subst h
    exact St.finR Try.results32 (.cell rfl (.head _) rfl .nil) rfl [] ⟨rfl, rfl⟩ (fun _ w => ((.d .z) : Keep _ _).sat w)
  · replace h := bif_f hb1 h
    refine St.skip ?_
    refine St.thenN ?_
    refine St.prune (Γ' := [(1, _), (2, _)]) ⟨rfl, rfl, trivial⟩ (.k (.k (.k (.k .z)))) ?_
    refine St.seq ?_
    refine St.region ?_
    refine St.p rfl rfl ?_
    refine St.loadB 14 rfl rfl (.tail _ (.head _)) rfl rfl ?_
    refine St.p rfl rfl ?_
    obtain ⟨x1, hx1, h⟩ := bnd_e h
    refine St.ixP (sz := 6) hx1 rfl rfl rfl rfl rfl rfl rfl rfl ?_
    refine St.p rfl rfl ?_
    refine St.p rfl rfl ?_
    refine St.ldP (ls := l_T_Slot) 1 [.string d_p0.Name] [.int .i64 d_p0.Active, .int .i64 d_p0.Running, .bool d_p0.Trial] [(d_p0.Slots.e0, ((A1, c1), ())), (d_p0.Slots.e1, ((A2, c2), ()))] (fun ex => .agg #[.int .i64 x1.Image.Version.Major, .int .i64 x1.Image.Version.Minor, .int .i64 x1.Image.Version.Patch]) hx1 rfl rfl (.tail _ (.head _)) rfl rfl rfl ⟨(.tail _ (.tail _ (.head _))), (.tail _ (.tail _ (.tail _ (.head _)))), trivial⟩ rfl (fun _ => rfl) fun ex1 => ?_
    obtain ⟨⟨A3, c3⟩, _⟩ := ex1
    refine St.asrt (F' := .ro (SlL eu8 A3 c3 x1.Image.Data) :: .res (Box g2 28 [.int .i64 0, .int .i64 0, .int .i64 0]) :: .res (Box g1 35 (bx_T_Device d_p0 A1 c1 A2 c2)) :: .ro (SlL eu8 A1 c1 d_p0.Slots.e0.Image.Data) :: .ro (SlL eu8 A2 c2 d_p0.Slots.e1.Image.Data) :: R) (fun _ w => w) ?_
    refine St.store 0 rfl rfl rfl rfl rfl rfl (.s .z) rfl ?_
    refine St.done ?_
    refine St.thenN ?_
    refine St.prune (Γ' := [(2, _)]) ⟨rfl, trivial⟩ (.k (.d (.d (.d (.d .z))))) ?_
    refine St.ret ?_
    repeat (first | refine St.thenR ?_ | refine St.blkR ?_)
    injection h with h
    subst h
    exact St.finR Try.results32 (.cell rfl (.head _) rfl .nil) rfl [] ⟨rfl, rfl⟩ (fun _ w => ((.d .z) : Keep _ _).sat w)

theorem ent39 : Ent Try.prog 39 := ⟨_, Try.func39, by kernel_rfl, by kernel_rfl⟩

noncomputable def m_law29_simple (d_p0 : T_Device) : Option Bool :=
  bnd (m_bank_Erase d_p0) fun r1 => bnd (m_ref29_Erase d_p0) fun r2 => bnd (m_bank_Switch d_p0) fun r3 => bnd (m_ref29_Switch d_p0) fun r4 => bnd (m_bank_Confirm d_p0) fun r5 => bnd (m_ref29_Confirm d_p0) fun r6 => bnd ((bif (r1.2 == r2.2) then (bif (r3.2 == r4.2) then (bif (r5.2 == r6.2) then (bnd (m_ref29_Same r1.1 r2.1) fun r7 => bif r7 then (bnd (m_ref29_Same r3.1 r4.1) fun r8 => bif r8 then (bnd (m_ref29_Same r5.1 r6.1) fun r9 => some r9) else (some false)) else (some false)) else (some false)) else (some false)) else (some false) : Option Bool)) fun o1 => some o1

set_option maxHeartbeats 4000000 in
theorem c_law29_simple {d_p0 : T_Device} {A1 : Option Addr} {c1 : Nat} {A2 : Option Addr} {c2 : Nat} {r : Bool} (h : m_law29_simple d_p0 = some r) :
    Fun Try.prog 39 [.agg (bx_T_Device d_p0 A1 c1 A2 c2).toArray] [.ro (SlL eu8 A1 c1 d_p0.Slots.e0.Image.Data), .ro (SlL eu8 A2 c2 d_p0.Slots.e1.Image.Data)] (Val (.bool r)) := by
  unfold m_law29_simple at h
  refine Fun.intro Try.func39 rfl rfl rfl fun w R => ?_
  refine St.seq ?_
  refine St.region ?_
  refine St.box rfl rfl fun g1 => ?_
  refine St.p rfl rfl ?_
  refine St.done ?_
  refine St.thenN ?_
  refine St.prune (Γ' := [(1, _)]) ⟨rfl, trivial⟩ (.k (.k (.k .z))) ?_
  refine St.seq ?_
  refine St.region ?_
  refine St.loadB 0 rfl rfl (.head _) rfl rfl ?_
  obtain ⟨r1, hr1, h⟩ := bnd_e h
  refine St.call (c_bank_Erase hr1) ent19 rfl rfl rfl (fun _ w => Sat.dup (G := [.ro (SlL eu8 A1 c1 d_p0.Slots.e0.Image.Data), .ro (SlL eu8 A2 c2 d_p0.Slots.e1.Image.Data)]) rfl ⟨(.tail _ (.head _)), (.tail _ (.tail _ (.head _))), trivial⟩ w) ?_
  rintro _ _ ⟨A3, c3, A4, c4, rfl, rfl⟩
  refine St.asrt (F' := .ro (SlL eu8 A3 c3 r1.1.Slots.e0.Image.Data) :: .ro (SlL eu8 A4 c4 r1.1.Slots.e1.Image.Data) :: .res (Box g1 35 (bx_T_Device d_p0 A1 c1 A2 c2)) :: .ro (SlL eu8 A1 c1 d_p0.Slots.e0.Image.Data) :: .ro (SlL eu8 A2 c2 d_p0.Slots.e1.Image.Data) :: R) (fun _ w => w) ?_
  iterate 3 refine St.p rfl rfl ?_
  refine St.alloc rfl rfl fun g2 => ?_
  refine St.store 0 rfl rfl rfl rfl rfl rfl .z rfl ?_
  refine St.p rfl rfl ?_
  refine St.done ?_
  refine St.thenN ?_
  refine St.prune (Γ' := [(1, _), (3, _), (4, _)]) ⟨rfl, rfl, rfl, trivial⟩ (.k (.k (.k (.k (.k (.k .z)))))) ?_
  refine St.seq ?_
  refine St.region ?_
  refine St.loadB 0 rfl rfl (.tail _ (.tail _ (.tail _ (.head _)))) rfl rfl ?_
  obtain ⟨r2, hr2, h⟩ := bnd_e h
  refine St.call (c_ref29_Erase hr2) ent62 rfl rfl rfl (fun _ w => Sat.dup (G := [.ro (SlL eu8 A1 c1 d_p0.Slots.e0.Image.Data), .ro (SlL eu8 A2 c2 d_p0.Slots.e1.Image.Data)]) rfl ⟨(.tail _ (.tail _ (.tail _ (.tail _ (.head _))))), (.tail _ (.tail _ (.tail _ (.tail _ (.tail _ (.head _)))))), trivial⟩ w) ?_
  rintro _ _ ⟨A5, c5, A6, c6, rfl, rfl⟩
  refine St.asrt (F' := .ro (SlL eu8 A5 c5 r2.1.Slots.e0.Image.Data) :: .ro (SlL eu8 A6 c6 r2.1.Slots.e1.Image.Data) :: .res (Box g2 35 (bx_T_Device r1.1 A3 c3 A4 c4)) :: .ro (SlL eu8 A3 c3 r1.1.Slots.e0.Image.Data) :: .ro (SlL eu8 A4 c4 r1.1.Slots.e1.Image.Data) :: .res (Box g1 35 (bx_T_Device d_p0 A1 c1 A2 c2)) :: .ro (SlL eu8 A1 c1 d_p0.Slots.e0.Image.Data) :: .ro (SlL eu8 A2 c2 d_p0.Slots.e1.Image.Data) :: R) (fun _ w => w) ?_
  iterate 3 refine St.p rfl rfl ?_
  refine St.alloc rfl rfl fun g3 => ?_
  refine St.store 0 rfl rfl rfl rfl rfl rfl .z rfl ?_
  refine St.p rfl rfl ?_
  refine St.done ?_
  refine St.thenN ?_
  refine St.prune (Γ' := [(1, _), (3, _), (4, _), (5, _), (6, _)]) ⟨rfl, rfl, rfl, rfl, rfl, trivial⟩ (.k (.k (.k (.k (.k (.k (.k (.k (.k .z))))))))) ?_
  refine St.seq ?_
  refine St.region ?_
  refine St.loadB 0 rfl rfl (.tail _ (.tail _ (.tail _ (.tail _ (.tail _ (.tail _ (.head _))))))) rfl rfl ?_
  obtain ⟨r3, hr3, h⟩ := bnd_e h
  refine St.call (c_bank_Switch hr3) ent14 rfl rfl rfl (fun _ w => Sat.dup (G := [.ro (SlL eu8 A1 c1 d_p0.Slots.e0.Image.Data), .ro (SlL eu8 A2 c2 d_p0.Slots.e1.Image.Data)]) rfl ⟨(.tail _ (.tail _ (.tail _ (.tail _ (.tail _ (.tail _ (.tail _ (.head _)))))))), (.tail _ (.tail _ (.tail _ (.tail _ (.tail _ (.tail _ (.tail _ (.tail _ (.head _))))))))), trivial⟩ w) ?_
  rintro _ _ ⟨A7, c7, A8, c8, rfl, rfl⟩
  refine St.asrt (F' := .ro (SlL eu8 A7 c7 r3.1.Slots.e0.Image.Data) :: .ro (SlL eu8 A8 c8 r3.1.Slots.e1.Image.Data) :: .res (Box g3 35 (bx_T_Device r2.1 A5 c5 A6 c6)) :: .ro (SlL eu8 A5 c5 r2.1.Slots.e0.Image.Data) :: .ro (SlL eu8 A6 c6 r2.1.Slots.e1.Image.Data) :: .res (Box g2 35 (bx_T_Device r1.1 A3 c3 A4 c4)) :: .ro (SlL eu8 A3 c3 r1.1.Slots.e0.Image.Data) :: .ro (SlL eu8 A4 c4 r1.1.Slots.e1.Image.Data) :: .res (Box g1 35 (bx_T_Device d_p0 A1 c1 A2 c2)) :: .ro (SlL eu8 A1 c1 d_p0.Slots.e0.Image.Data) :: .ro (SlL eu8 A2 c2 d_p0.Slots.e1.Image.Data) :: R) (fun _ w => w) ?_
  iterate 3 refine St.p rfl rfl ?_
  refine St.alloc rfl rfl fun g4 => ?_
  refine St.store 0 rfl rfl rfl rfl rfl rfl .z rfl ?_
  refine St.p rfl rfl ?_
  refine St.done ?_
  refine St.thenN ?_
  refine St.prune (Γ' := [(1, _), (3, _), (4, _), (5, _), (6, _), (7, _), (8, _)]) ⟨rfl, rfl, rfl, rfl, rfl, rfl, rfl, trivial⟩ (.k (.k (.k (.k (.k (.k (.k (.k (.k (.k (.k (.k .z)))))))))))) ?_
  refine St.seq ?_
  refine St.region ?_
  refine St.loadB 0 rfl rfl (.tail _ (.tail _ (.tail _ (.tail _ (.tail _ (.tail _ (.tail _ (.tail _ (.tail _ (.head _)))))))))) rfl rfl ?_
  obtain ⟨r4, hr4, h⟩ := bnd_e h
  refine St.call (c_ref29_Switch hr4) ent63 rfl rfl rfl (fun _ w => Sat.dup (G := [.ro (SlL eu8 A1 c1 d_p0.Slots.e0.Image.Data), .ro (SlL eu8 A2 c2 d_p0.Slots.e1.Image.Data)]) rfl ⟨(.tail _ (.tail _ (.tail _ (.tail _ (.tail _ (.tail _ (.tail _ (.tail _ (.tail _ (.tail _ (.head _))))))))))), (.tail _ (.tail _ (.tail _ (.tail _ (.tail _ (.tail _ (.tail _ (.tail _ (.tail _ (.tail _ (.tail _ (.head _)))))))))))), trivial⟩ w) ?_
  rintro _ _ ⟨A9, c9, A10, c10, rfl, rfl⟩
  refine St.asrt (F' := .ro (SlL eu8 A9 c9 r4.1.Slots.e0.Image.Data) :: .ro (SlL eu8 A10 c10 r4.1.Slots.e1.Image.Data) :: .res (Box g4 35 (bx_T_Device r3.1 A7 c7 A8 c8)) :: .ro (SlL eu8 A7 c7 r3.1.Slots.e0.Image.Data) :: .ro (SlL eu8 A8 c8 r3.1.Slots.e1.Image.Data) :: .res (Box g3 35 (bx_T_Device r2.1 A5 c5 A6 c6)) :: .ro (SlL eu8 A5 c5 r2.1.Slots.e0.Image.Data) :: .ro (SlL eu8 A6 c6 r2.1.Slots.e1.Image.Data) :: .res (Box g2 35 (bx_T_Device r1.1 A3 c3 A4 c4)) :: .ro (SlL eu8 A3 c3 r1.1.Slots.e0.Image.Data) :: .ro (SlL eu8 A4 c4 r1.1.Slots.e1.Image.Data) :: .res (Box g1 35 (bx_T_Device d_p0 A1 c1 A2 c2)) :: .ro (SlL eu8 A1 c1 d_p0.Slots.e0.Image.Data) :: .ro (SlL eu8 A2 c2 d_p0.Slots.e1.Image.Data) :: R) (fun _ w => w) ?_
  iterate 3 refine St.p rfl rfl ?_
  refine St.alloc rfl rfl fun g5 => ?_
  refine St.store 0 rfl rfl rfl rfl rfl rfl .z rfl ?_
  refine St.p rfl rfl ?_
  refine St.done ?_
  refine St.thenN ?_
  refine St.prune (Γ' := [(1, _), (3, _), (4, _), (5, _), (6, _), (7, _), (8, _), (9, _), (10, _)]) ⟨rfl, rfl, rfl, rfl, rfl, rfl, rfl, rfl, rfl, trivial⟩ (.k (.k (.k (.k (.k (.k (.k (.k (.k (.k (.k (.k (.k (.k (.k .z))))))))))))))) ?_
  refine St.seq ?_
  refine St.region ?_
  refine St.loadB 0 rfl rfl (.tail _ (.tail _ (.tail _ (.tail _ (.tail _ (.tail _ (.tail _ (.tail _ (.tail _ (.tail _ (.tail _ (.tail _ (.head _))))))))))))) rfl rfl ?_
  obtain ⟨r5, hr5, h⟩ := bnd_e h
  refine St.call (c_bank_Confirm hr5) ent25 rfl rfl rfl (fun _ w => Sat.dup (G := [.ro (SlL eu8 A1 c1 d_p0.Slots.e0.Image.Data), .ro (SlL eu8 A2 c2 d_p0.Slots.e1.Image.Data)]) rfl ⟨(.tail _ (.tail _ (.tail _ (.tail _ (.tail _ (.tail _ (.tail _ (.tail _ (.tail _ (.tail _ (.tail _ (.tail _ (.tail _ (.head _)))))))))))))), (.tail _ (.tail _ (.tail _ (.tail _ (.tail _ (.tail _ (.tail _ (.tail _ (.tail _ (.tail _ (.tail _ (.tail _ (.tail _ (.tail _ (.head _))))))))))))))), trivial⟩ w) ?_
  rintro _ _ ⟨A11, c11, A12, c12, rfl, rfl⟩
  refine St.asrt (F' := .ro (SlL eu8 A11 c11 r5.1.Slots.e0.Image.Data) :: .ro (SlL eu8 A12 c12 r5.1.Slots.e1.Image.Data) :: .res (Box g5 35 (bx_T_Device r4.1 A9 c9 A10 c10)) :: .ro (SlL eu8 A9 c9 r4.1.Slots.e0.Image.Data) :: .ro (SlL eu8 A10 c10 r4.1.Slots.e1.Image.Data) :: .res (Box g4 35 (bx_T_Device r3.1 A7 c7 A8 c8)) :: .ro (SlL eu8 A7 c7 r3.1.Slots.e0.Image.Data) :: .ro (SlL eu8 A8 c8 r3.1.Slots.e1.Image.Data) :: .res (Box g3 35 (bx_T_Device r2.1 A5 c5 A6 c6)) :: .ro (SlL eu8 A5 c5 r2.1.Slots.e0.Image.Data) :: .ro (SlL eu8 A6 c6 r2.1.Slots.e1.Image.Data) :: .res (Box g2 35 (bx_T_Device r1.1 A3 c3 A4 c4)) :: .ro (SlL eu8 A3 c3 r1.1.Slots.e0.Image.Data) :: .ro (SlL eu8 A4 c4 r1.1.Slots.e1.Image.Data) :: .res (Box g1 35 (bx_T_Device d_p0 A1 c1 A2 c2)) :: .ro (SlL eu8 A1 c1 d_p0.Slots.e0.Image.Data) :: .ro (SlL eu8 A2 c2 d_p0.Slots.e1.Image.Data) :: R) (fun _ w => w) ?_
  iterate 3 refine St.p rfl rfl ?_
  refine St.alloc rfl rfl fun g6 => ?_
  refine St.store 0 rfl rfl rfl rfl rfl rfl .z rfl ?_
  refine St.p rfl rfl ?_
  refine St.done ?_
  refine St.thenN ?_
  refine St.prune (Γ' := [(1, _), (3, _), (4, _), (5, _), (6, _), (7, _), (8, _), (9, _), (10, _), (11, _), (12, _)]) ⟨rfl, rfl, rfl, rfl, rfl, rfl, rfl, rfl, rfl, rfl, rfl, trivial⟩ (.k (.k (.k (.k (.k (.k (.k (.k (.k (.k (.k (.k (.k (.k (.k (.k (.k (.k .z)))))))))))))))))) ?_
  refine St.seq ?_
  refine St.region ?_
  refine St.loadB 0 rfl rfl (.tail _ (.tail _ (.tail _ (.tail _ (.tail _ (.tail _ (.tail _ (.tail _ (.tail _ (.tail _ (.tail _ (.tail _ (.tail _ (.tail _ (.tail _ (.head _)))))))))))))))) rfl rfl ?_
  obtain ⟨r6, hr6, h⟩ := bnd_e h
  refine St.call (c_ref29_Confirm hr6) ent64 rfl rfl rfl (fun _ w => Sat.dup (G := [.ro (SlL eu8 A1 c1 d_p0.Slots.e0.Image.Data), .ro (SlL eu8 A2 c2 d_p0.Slots.e1.Image.Data)]) rfl ⟨(.tail _ (.tail _ (.tail _ (.tail _ (.tail _ (.tail _ (.tail _ (.tail _ (.tail _ (.tail _ (.tail _ (.tail _ (.tail _ (.tail _ (.tail _ (.tail _ (.head _))))))))))))))))), (.tail _ (.tail _ (.tail _ (.tail _ (.tail _ (.tail _ (.tail _ (.tail _ (.tail _ (.tail _ (.tail _ (.tail _ (.tail _ (.tail _ (.tail _ (.tail _ (.tail _ (.head _)))))))))))))))))), trivial⟩ w) ?_
  rintro _ _ ⟨A13, c13, A14, c14, rfl, rfl⟩
  refine St.asrt (F' := .ro (SlL eu8 A13 c13 r6.1.Slots.e0.Image.Data) :: .ro (SlL eu8 A14 c14 r6.1.Slots.e1.Image.Data) :: .res (Box g6 35 (bx_T_Device r5.1 A11 c11 A12 c12)) :: .ro (SlL eu8 A11 c11 r5.1.Slots.e0.Image.Data) :: .ro (SlL eu8 A12 c12 r5.1.Slots.e1.Image.Data) :: .res (Box g5 35 (bx_T_Device r4.1 A9 c9 A10 c10)) :: .ro (SlL eu8 A9 c9 r4.1.Slots.e0.Image.Data) :: .ro (SlL eu8 A10 c10 r4.1.Slots.e1.Image.Data) :: .res (Box g4 35 (bx_T_Device r3.1 A7 c7 A8 c8)) :: .ro (SlL eu8 A7 c7 r3.1.Slots.e0.Image.Data) :: .ro (SlL eu8 A8 c8 r3.1.Slots.e1.Image.Data) :: .res (Box g3 35 (bx_T_Device r2.1 A5 c5 A6 c6)) :: .ro (SlL eu8 A5 c5 r2.1.Slots.e0.Image.Data) :: .ro (SlL eu8 A6 c6 r2.1.Slots.e1.Image.Data) :: .res (Box g2 35 (bx_T_Device r1.1 A3 c3 A4 c4)) :: .ro (SlL eu8 A3 c3 r1.1.Slots.e0.Image.Data) :: .ro (SlL eu8 A4 c4 r1.1.Slots.e1.Image.Data) :: .res (Box g1 35 (bx_T_Device d_p0 A1 c1 A2 c2)) :: .ro (SlL eu8 A1 c1 d_p0.Slots.e0.Image.Data) :: .ro (SlL eu8 A2 c2 d_p0.Slots.e1.Image.Data) :: R) (fun _ w => w) ?_
  iterate 3 refine St.p rfl rfl ?_
  refine St.alloc rfl rfl fun g7 => ?_
  refine St.store 0 rfl rfl rfl rfl rfl rfl .z rfl ?_
  refine St.p rfl rfl ?_
  refine St.done ?_
  refine St.thenN ?_
  refine St.prune (Γ' := [(3, _), (4, _), (5, _), (6, _), (7, _), (8, _), (9, _), (10, _), (11, _), (12, _), (13, _), (14, _)]) ⟨rfl, rfl, rfl, rfl, rfl, rfl, rfl, rfl, rfl, rfl, rfl, rfl, trivial⟩ (.k (.k (.k (.k (.k (.k (.k (.k (.k (.k (.k (.k (.k (.k (.k (.k (.k (.k (.d (.d (.d .z))))))))))))))))))))) ?_
  refine St.seq ?_
  obtain ⟨o1, hj1, h⟩ := bnd_e h
  refine St.cutE (fun (e1 : Unit) => [(2, .bool o1)]) (fun e1 => R) ?_ ?_
  · refine St.region ?_
    iterate 4 refine St.p rfl rfl ?_
    refine St.gSplit (dj := 48) _ rfl (fun hb1 => ?_) (fun hb1 => ?_)
    · replace hj1 := bif_t hb1 hj1
      refine St.gOn (dj := 48) rfl rfl ?_
      refine St.p rfl rfl ?_
      refine St.gOn (dj := 48) rfl rfl ?_
      refine St.p rfl rfl ?_
      refine St.gOn (dj := 48) rfl rfl ?_
      iterate 3 refine St.p rfl rfl ?_
      refine St.gSplit (dj := 53) _ rfl (fun hb2 => ?_) (fun hb2 => ?_)
      · replace hj1 := bif_t hb2 hj1
        refine St.gOn (dj := 53) rfl rfl ?_
        refine St.p rfl rfl ?_
        refine St.gOn (dj := 53) rfl rfl ?_
        refine St.p rfl rfl ?_
        refine St.gOn (dj := 53) rfl rfl ?_
        iterate 3 refine St.p rfl rfl ?_
        refine St.gSplit (dj := 58) _ rfl (fun hb3 => ?_) (fun hb3 => ?_)
        · replace hj1 := bif_t hb3 hj1
          refine St.gOn (dj := 58) rfl rfl ?_
          refine St.loadB 0 rfl rfl (.tail _ (.tail _ (.tail _ (.tail _ (.tail _ (.tail _ (.tail _ (.tail _ (.tail _ (.tail _ (.tail _ (.tail _ (.tail _ (.tail _ (.tail _ (.head _)))))))))))))))) rfl rfl ?_
          refine St.gOn (dj := 58) rfl rfl ?_
          refine St.loadB 0 rfl rfl (.tail _ (.tail _ (.tail _ (.tail _ (.tail _ (.tail _ (.tail _ (.tail _ (.tail _ (.tail _ (.tail _ (.tail _ (.head _))))))))))))) rfl rfl ?_
          refine St.gOn (dj := 58) rfl rfl ?_
          obtain ⟨r7, hr7, hj1⟩ := bnd_e hj1
          refine St.callV (c_ref29_Same hr7) ent26 rfl rfl rfl rfl ⟨(.tail _ (.tail _ (.tail _ (.tail _ (.tail _ (.tail _ (.tail _ (.tail _ (.tail _ (.tail _ (.tail _ (.tail _ (.tail _ (.tail _ (.tail _ (.tail _ (.head _))))))))))))))))), (.tail _ (.tail _ (.tail _ (.tail _ (.tail _ (.tail _ (.tail _ (.tail _ (.tail _ (.tail _ (.tail _ (.tail _ (.tail _ (.tail _ (.tail _ (.tail _ (.tail _ (.head _)))))))))))))))))), (.tail _ (.tail _ (.tail _ (.tail _ (.tail _ (.tail _ (.tail _ (.tail _ (.tail _ (.tail _ (.tail _ (.tail _ (.tail _ (.head _)))))))))))))), (.tail _ (.tail _ (.tail _ (.tail _ (.tail _ (.tail _ (.tail _ (.tail _ (.tail _ (.tail _ (.tail _ (.tail _ (.tail _ (.tail _ (.head _))))))))))))))), trivial⟩ ?_
          refine St.p rfl rfl ?_
          refine St.p rfl rfl ?_
          refine St.gSplit (dj := 63) _ rfl (fun hb4 => ?_) (fun hb4 => ?_)
          · replace hj1 := bif_t hb4 hj1
            refine St.gOn (dj := 63) rfl rfl ?_
            refine St.loadB 0 rfl rfl (.tail _ (.tail _ (.tail _ (.tail _ (.tail _ (.tail _ (.tail _ (.tail _ (.tail _ (.head _)))))))))) rfl rfl ?_
            refine St.gOn (dj := 63) rfl rfl ?_
            refine St.loadB 0 rfl rfl (.tail _ (.tail _ (.tail _ (.tail _ (.tail _ (.tail _ (.head _))))))) rfl rfl ?_
            refine St.gOn (dj := 63) rfl rfl ?_
            obtain ⟨r8, hr8, hj1⟩ := bnd_e hj1
            refine St.callV (c_ref29_Same hr8) ent26 rfl rfl rfl rfl ⟨(.tail _ (.tail _ (.tail _ (.tail _ (.tail _ (.tail _ (.tail _ (.tail _ (.tail _ (.tail _ (.head _))))))))))), (.tail _ (.tail _ (.tail _ (.tail _ (.tail _ (.tail _ (.tail _ (.tail _ (.tail _ (.tail _ (.tail _ (.head _)))))))))))), (.tail _ (.tail _ (.tail _ (.tail _ (.tail _ (.tail _ (.tail _ (.head _)))))))), (.tail _ (.tail _ (.tail _ (.tail _ (.tail _ (.tail _ (.tail _ (.tail _ (.head _))))))))), trivial⟩ ?_
            refine St.p rfl rfl ?_
            refine St.p rfl rfl ?_
            refine St.gSplit (dj := 68) _ rfl (fun hb5 => ?_) (fun hb5 => ?_)
            · replace hj1 := bif_t hb5 hj1
              refine St.gOn (dj := 68) rfl rfl ?_
              refine St.loadB 0 rfl rfl (.tail _ (.tail _ (.tail _ (.head _)))) rfl rfl ?_
              refine St.gOn (dj := 68) rfl rfl ?_
              refine St.loadB 0 rfl rfl (.head _) rfl rfl ?_
              refine St.gOn (dj := 68) rfl rfl ?_
              obtain ⟨r9, hr9, hj1⟩ := bnd_e hj1
              refine St.callV (c_ref29_Same hr9) ent26 rfl rfl rfl rfl ⟨(.tail _ (.tail _ (.tail _ (.tail _ (.head _))))), (.tail _ (.tail _ (.tail _ (.tail _ (.tail _ (.head _)))))), (.tail _ (.head _)), (.tail _ (.tail _ (.head _))), trivial⟩ ?_
              refine St.p rfl rfl ?_
              refine St.p rfl rfl ?_
              refine St.done ?_
              injection hj1 with hj1
              subst hj1
              refine St.thenN ?_
              exact St.hereE () ⟨rfl, trivial⟩ (fun _ w => ((.d (.d (.d (.d (.d (.d (.d (.d (.d (.d (.d (.d (.d (.d (.d (.d (.d (.d .z)))))))))))))))))) : Keep _ _).sat w)
            · replace hj1 := bif_f hb5 hj1
              refine St.gOff (dj := 68) rfl rfl rfl rfl ?_
              refine St.gOff (dj := 68) rfl rfl rfl rfl ?_
              refine St.gOff (dj := 68) rfl rfl rfl rfl ?_
              refine St.p rfl rfl ?_
              refine St.p rfl rfl ?_
              refine St.done ?_
              injection hj1 with hj1
              subst hj1
              refine St.thenN ?_
              exact St.hereE () ⟨rfl, trivial⟩ (fun _ w => ((.d (.d (.d (.d (.d (.d (.d (.d (.d (.d (.d (.d (.d (.d (.d (.d (.d (.d .z)))))))))))))))))) : Keep _ _).sat w)
          · replace hj1 := bif_f hb4 hj1
            refine St.gOff (dj := 63) rfl rfl rfl rfl ?_
            refine St.gOff (dj := 63) rfl rfl rfl rfl ?_
            refine St.gOff (dj := 63) rfl rfl rfl rfl ?_
            refine St.p rfl rfl ?_
            refine St.p rfl rfl ?_
            refine St.gOff (dj := 68) rfl rfl rfl rfl ?_
            refine St.gOff (dj := 68) rfl rfl rfl rfl ?_
            refine St.gOff (dj := 68) rfl rfl rfl rfl ?_
            refine St.p rfl rfl ?_
            refine St.p rfl rfl ?_
            refine St.done ?_
            injection hj1 with hj1
            subst hj1
            refine St.thenN ?_
            exact St.hereE () ⟨rfl, trivial⟩ (fun _ w => ((.d (.d (.d (.d (.d (.d (.d (.d (.d (.d (.d (.d (.d (.d (.d (.d (.d (.d .z)))))))))))))))))) : Keep _ _).sat w)
        · replace hj1 := bif_f hb3 hj1
          refine St.gOff (dj := 58) rfl rfl rfl rfl ?_
          refine St.gOff (dj := 58) rfl rfl rfl rfl ?_
          refine St.gOff (dj := 58) rfl rfl rfl rfl ?_
          refine St.p rfl rfl ?_
          refine St.p rfl rfl ?_
          refine St.gOff (dj := 63) rfl rfl rfl rfl ?_
          refine St.gOff (dj := 63) rfl rfl rfl rfl ?_
          refine St.gOff (dj := 63) rfl rfl rfl rfl ?_
          refine St.p rfl rfl ?_
          refine St.p rfl rfl ?_
          refine St.gOff (dj := 68) rfl rfl rfl rfl ?_
          refine St.gOff (dj := 68) rfl rfl rfl rfl ?_
          refine St.gOff (dj := 68) rfl rfl rfl rfl ?_
          refine St.p rfl rfl ?_
          refine St.p rfl rfl ?_
          refine St.done ?_
          injection hj1 with hj1
          subst hj1
          refine St.thenN ?_
          exact St.hereE () ⟨rfl, trivial⟩ (fun _ w => ((.d (.d (.d (.d (.d (.d (.d (.d (.d (.d (.d (.d (.d (.d (.d (.d (.d (.d .z)))))))))))))))))) : Keep _ _).sat w)
      · replace hj1 := bif_f hb2 hj1
        refine St.gOff (dj := 53) rfl rfl rfl rfl ?_
        refine St.gOff (dj := 53) rfl rfl rfl rfl ?_
        refine St.gOff (dj := 53) rfl rfl rfl rfl ?_
        refine St.p rfl rfl ?_
        refine St.p rfl rfl ?_
        refine St.gOff (dj := 58) rfl rfl rfl rfl ?_
        refine St.gOff (dj := 58) rfl rfl rfl rfl ?_
        refine St.gOff (dj := 58) rfl rfl rfl rfl ?_
        refine St.p rfl rfl ?_
        refine St.p rfl rfl ?_
        refine St.gOff (dj := 63) rfl rfl rfl rfl ?_
        refine St.gOff (dj := 63) rfl rfl rfl rfl ?_
        refine St.gOff (dj := 63) rfl rfl rfl rfl ?_
        refine St.p rfl rfl ?_
        refine St.p rfl rfl ?_
        refine St.gOff (dj := 68) rfl rfl rfl rfl ?_
        refine St.gOff (dj := 68) rfl rfl rfl rfl ?_
        refine St.gOff (dj := 68) rfl rfl rfl rfl ?_
        refine St.p rfl rfl ?_
        refine St.p rfl rfl ?_
        refine St.done ?_
        injection hj1 with hj1
        subst hj1
        refine St.thenN ?_
        exact St.hereE () ⟨rfl, trivial⟩ (fun _ w => ((.d (.d (.d (.d (.d (.d (.d (.d (.d (.d (.d (.d (.d (.d (.d (.d (.d (.d .z)))))))))))))))))) : Keep _ _).sat w)
    · replace hj1 := bif_f hb1 hj1
      refine St.gOff (dj := 48) rfl rfl rfl rfl ?_
      refine St.gOff (dj := 48) rfl rfl rfl rfl ?_
      refine St.gOff (dj := 48) rfl rfl rfl rfl ?_
      refine St.p rfl rfl ?_
      refine St.p rfl rfl ?_
      refine St.gOff (dj := 53) rfl rfl rfl rfl ?_
      refine St.gOff (dj := 53) rfl rfl rfl rfl ?_
      refine St.gOff (dj := 53) rfl rfl rfl rfl ?_
      refine St.p rfl rfl ?_
      refine St.p rfl rfl ?_
      refine St.gOff (dj := 58) rfl rfl rfl rfl ?_
      refine St.gOff (dj := 58) rfl rfl rfl rfl ?_
      refine St.gOff (dj := 58) rfl rfl rfl rfl ?_
      refine St.p rfl rfl ?_
      refine St.p rfl rfl ?_
      refine St.gOff (dj := 63) rfl rfl rfl rfl ?_
      refine St.gOff (dj := 63) rfl rfl rfl rfl ?_
      refine St.gOff (dj := 63) rfl rfl rfl rfl ?_
      refine St.p rfl rfl ?_
      refine St.p rfl rfl ?_
      refine St.gOff (dj := 68) rfl rfl rfl rfl ?_
      refine St.gOff (dj := 68) rfl rfl rfl rfl ?_
      refine St.gOff (dj := 68) rfl rfl rfl rfl ?_
      refine St.p rfl rfl ?_
      refine St.p rfl rfl ?_
      refine St.done ?_
      injection hj1 with hj1
      subst hj1
      refine St.thenN ?_
      exact St.hereE () ⟨rfl, trivial⟩ (fun _ w => ((.d (.d (.d (.d (.d (.d (.d (.d (.d (.d (.d (.d (.d (.d (.d (.d (.d (.d .z)))))))))))))))))) : Keep _ _).sat w)
  · rintro e1
    refine St.ret ?_
    repeat (first | refine St.thenR ?_ | refine St.blkR ?_)
    injection h with h
    subst h
    exact St.finR Try.results39 (.tmp rfl .nil) rfl [] ⟨rfl, rfl⟩ (fun _ w => (.z : Keep _ _).sat w)

theorem ent7 : Ent Try.prog 7 := ⟨_, Try.func7, by kernel_rfl, by kernel_rfl⟩

noncomputable def m_law29_BankAnswers (codes : (List Int)) (raw : T_Device) (i_p2 : T_Image) (n_p3 : Int) (sum : Int) : Option Bool :=
  bnd (m_law29_awake) fun r1 => bif !r1 then (some false) else (bnd ((bif decide ((i_p2.Data.length : Int) > 600) then (some true) else (bif decide ((raw.Slots.e0.Image.Data.length : Int) > 600) then (some true) else (some (decide ((raw.Slots.e1.Image.Data.length : Int) > 600)))) : Option Bool)) fun o1 => bif o1 then (some true) else (bnd (m_field_New codes 160) fun r2 => bnd (m_field_Codes_Next r2 2) fun r3 => bnd (elt ([⟨#[98, 105, 111, 115]⟩, ⟨#[109, 101]⟩]) r3.2) fun x1 => bnd (m_field_Codes_Device r3.1 x1) fun r4 => bnd (m_field_Codes_Image r4.1 r4.2.Name) fun r5 => bnd (m_law29_odd r5.1 r4.2) fun r6 => bnd (loopM (τ := Bool ⊕ (List Int × Int)) (fun (s1 : Int × List Int × Int) => bif decide (s1.1 < ((3 : Nat) : Int)) then (bnd (elt ([r4.2, r6.2, raw]) s1.1) fun x2 => bnd (m_field_Codes_Next (⟨s1.2.1, s1.2.2⟩ : T_Codes) (IntKind.wrap .i64 ((r5.2.Data.length : Int) + 2))) fun r7 => bnd (m_ref28_Sum x2.Slots.e0.Image) fun r8 => bnd (m_ref28_Sum x2.Slots.e1.Image) fun r9 => bnd (m_field_Codes_Next r7.1 3) fun r10 => bnd (elt ([r8, r9, sum]) r10.2) fun x3 => bnd ((bnd (m_field_Codes_Next r10.1 5) fun r11 => bif (r11.2 == 4) then (some (n_p3, i_p2, r11.1.L, r11.1.At)) else (some (r7.2, r5.2, r11.1.L, r11.1.At)) : Option (Int × T_Image × List Int × Int))) fun o4 => bnd (m_bank_New o4.2.1) fun r12 => bnd (m_ref29_New o4.2.1) fun r13 => bnd ((bif (r12.2 != r13.2) then (some true) else (bnd (m_ref29_Same r12.1 r13.1) fun r14 => bif !r14 then (some true) else (bnd (m_bank_Valid x2) fun r15 => bnd (m_ref29_Valid x2) fun r16 => bif !(r15 == r16) then (some true) else (bnd (m_bank_Version x2) fun r17 => bnd (m_ref29_Version x2) fun r18 => bif !((r17.Major == r18.Major) && ((r17.Minor == r18.Minor) && ((r17.Patch == r18.Patch) && true))) then (some true) else (bnd (m_bank_Whole x2.Slots.e0) fun r19 => bnd (m_ref29_Whole x2.Slots.e0) fun r20 => bif !(r19 == r20) then (some true) else (bnd (m_bank_Whole x2.Slots.e1) fun r21 => bnd (m_ref29_Whole x2.Slots.e1) fun r22 => some (!(r21 == r22))))))) : Option Bool)) fun o5 => bif o5 then (some (.done (.inl false))) else (bnd (m_bank_Write x2 o4.2.1 o4.1) fun r23 => bnd (m_ref29_Write x2 o4.2.1 o4.1) fun r24 => bnd ((bif (r23.2 != r24.2) then (some true) else (bnd (m_ref29_Same r23.1 r24.1) fun r25 => some (!r25)) : Option Bool)) fun o6 => bif o6 then (some (.done (.inl false))) else (bnd (m_bank_Finish x2 x3) fun r26 => bnd (m_ref29_Finish x2 x3) fun r27 => bnd ((bif (r26.2 != r27.2) then (some true) else (bnd (m_ref29_Same r26.1 r27.1) fun r28 => bif !r28 then (some true) else (bnd (m_bank_Spoil x2 o4.2.1 x3) fun r29 => bnd (m_ref29_Spoil x2 o4.2.1 x3) fun r30 => bnd (m_ref29_Same r29 r30) fun r31 => bif !r31 then (some true) else (bnd (m_bank_Boot x2) fun r32 => bnd (m_ref29_Boot x2) fun r33 => bnd (m_ref29_Same r32 r33) fun r34 => some (!r34)))) : Option Bool)) fun o7 => bif o7 then (some (.done (.inl false))) else (bnd (m_law29_simple x2) fun r35 => bif !r35 then (some (.done (.inl false))) else (some (.next (IntKind.wrap .i64 (s1.1 + 1), o4.2.2.1, o4.2.2.2))))))) else (some (.done (.inr (s1.2.1, s1.2.2))))) (0, r6.1.L, r6.1.At)) fun o2 => retOr o2 fun o3 => some true))

set_option maxHeartbeats 4000000 in
theorem c_law29_BankAnswers {codes : (List Int)} {raw : T_Device} {i_p2 : T_Image} {n_p3 : Int} {sum : Int} {A1 : Option Addr} {c1 : Nat} {A2 : Option Addr} {c2 : Nat} {A3 : Option Addr} {c3 : Nat} {A4 : Option Addr} {c4 : Nat} {r : Bool} (h : m_law29_BankAnswers codes raw i_p2 n_p3 sum = some r) :
    Fun Try.prog 7 [.slice A1 codes.length c1, .agg (bx_T_Device raw A2 c2 A3 c3).toArray, .agg (bx_T_Image i_p2 A4 c4).toArray, .int .i64 n_p3, .int .u32 sum] [.ro (SlL eu8 A1 c1 codes), .ro (SlL eu8 A2 c2 raw.Slots.e0.Image.Data), .ro (SlL eu8 A3 c3 raw.Slots.e1.Image.Data), .ro (SlL eu8 A4 c4 i_p2.Data)] (Val (.bool r)) := by
  unfold m_law29_BankAnswers at h
  refine Fun.intro Try.func7 rfl rfl rfl fun w R => ?_
  refine St.seq ?_
  refine St.region ?_
  refine St.box rfl rfl fun g1 => ?_
  refine St.box rfl rfl fun g2 => ?_
  refine St.p rfl rfl ?_
  refine St.done ?_
  refine St.thenN ?_
  refine St.prune (Γ' := [(0, _), (3, _), (4, _), (6, _), (7, _)]) ⟨rfl, rfl, rfl, rfl, rfl, trivial⟩ (.k (.k (.k (.k (.k (.k .z)))))) ?_
  refine St.seq ?_
  refine St.seq ?_
  refine St.region ?_
  obtain ⟨r1, hr1, h⟩ := bnd_e h
  refine St.callV (c_law29_awake hr1) ent9 rfl rfl rfl rfl trivial ?_
  refine St.p rfl rfl ?_
  refine St.done ?_
  refine St.thenN ?_
  refine St.prune (Γ' := [(0, _), (3, _), (4, _), (6, _), (7, _), (24, _)]) ⟨rfl, rfl, rfl, rfl, rfl, rfl, trivial⟩ (.k (.k (.k (.k (.k (.k .z)))))) ?_
  refine St.cond _ rfl (fun hb1 => ?_) (fun hb1 => ?_)
  · replace h := bif_t hb1 h
    refine St.seq ?_
    refine St.region ?_
    refine St.p rfl rfl ?_
    refine St.done ?_
    refine St.thenN ?_
    refine St.prune (Γ' := [(10, _)]) ⟨rfl, trivial⟩ (.d (.d (.d (.d (.d (.d .z)))))) ?_
    refine St.ret ?_
    repeat (first | refine St.thenR ?_ | refine St.blkR ?_)
    injection h with h
    subst h
    exact St.finR Try.results7 (.tmp rfl .nil) rfl [] ⟨rfl, rfl⟩ (fun _ w => (.z : Keep _ _).sat w)
  · replace h := bif_f hb1 h
    refine St.skip ?_
    refine St.thenN ?_
    refine St.prune (Γ' := [(0, _), (3, _), (4, _), (6, _), (7, _)]) ⟨rfl, rfl, rfl, rfl, rfl, trivial⟩ (.k (.k (.k (.k (.k (.k .z)))))) ?_
    refine St.seq ?_
    refine St.seq ?_
    obtain ⟨o1, hj1, h⟩ := bnd_e h
    refine St.cutE (fun (e1 : Unit) => [(0, .slice A1 codes.length c1), (3, .int .i64 n_p3), (4, .int .u32 sum), (6, .pointer (some ⟨g1, 0, none⟩)), (7, .pointer (some ⟨g2, 0, none⟩)), (46, .bool o1)]) (fun e1 => .res (Box g2 30 (bx_T_Image i_p2 A4 c4)) :: .res (Box g1 35 (bx_T_Device raw A2 c2 A3 c3)) :: .ro (SlL eu8 A1 c1 codes) :: .ro (SlL eu8 A2 c2 raw.Slots.e0.Image.Data) :: .ro (SlL eu8 A3 c3 raw.Slots.e1.Image.Data) :: .ro (SlL eu8 A4 c4 i_p2.Data) :: R) ?_ ?_
    · refine St.region ?_
      refine St.p rfl rfl ?_
      refine St.loadB 4 rfl rfl (.head _) rfl rfl ?_
      iterate 3 refine St.p rfl rfl ?_
      refine St.gSplit (dj := 29) _ rfl (fun hb2 => ?_) (fun hb2 => ?_)
      · replace hj1 := bif_t hb2 hj1
        refine St.gOff (dj := 29) rfl rfl rfl rfl ?_
        refine St.gOff (dj := 29) rfl rfl rfl rfl ?_
        refine St.gOff (dj := 29) rfl rfl rfl rfl ?_
        refine St.gOff (dj := 29) rfl rfl rfl rfl ?_
        refine St.gOff (dj := 29) rfl rfl rfl rfl ?_
        refine St.gOff (dj := 29) rfl rfl rfl rfl ?_
        refine St.gOff (dj := 29) rfl rfl rfl rfl ?_
        refine St.p rfl rfl ?_
        refine St.p rfl rfl ?_
        refine St.gOff (dj := 38) rfl rfl rfl rfl ?_
        refine St.gOff (dj := 38) rfl rfl rfl rfl ?_
        refine St.gOff (dj := 38) rfl rfl rfl rfl ?_
        refine St.gOff (dj := 38) rfl rfl rfl rfl ?_
        refine St.gOff (dj := 38) rfl rfl rfl rfl ?_
        refine St.gOff (dj := 38) rfl rfl rfl rfl ?_
        refine St.gOff (dj := 38) rfl rfl rfl rfl ?_
        refine St.p rfl rfl ?_
        refine St.done ?_
        injection hj1 with hj1
        subst hj1
        refine St.thenN ?_
        exact St.hereE () ⟨rfl, rfl, rfl, rfl, rfl, rfl, trivial⟩ (fun _ w => ((.k (.k (.k (.k (.k (.k .z)))))) : Keep _ _).sat w)
      · replace hj1 := bif_f hb2 hj1
        refine St.gOn (dj := 29) rfl rfl ?_
        refine St.p rfl rfl ?_
        refine St.gOn (dj := 29) rfl rfl ?_
        refine St.p rfl rfl ?_
        refine St.gOn (dj := 29) rfl rfl ?_
        refine St.p rfl rfl ?_
        refine St.gOn (dj := 29) rfl rfl ?_
        refine St.p rfl rfl ?_
        refine St.gOn (dj := 29) rfl rfl ?_
        refine St.loadB 5 rfl rfl (.tail _ (.head _)) rfl rfl ?_
        refine St.gOn (dj := 29) rfl rfl ?_
        refine St.p rfl rfl ?_
        refine St.gOn (dj := 29) rfl rfl ?_
        iterate 3 refine St.p rfl rfl ?_
        refine St.gSplit (dj := 38) _ rfl (fun hb3 => ?_) (fun hb3 => ?_)
        · replace hj1 := bif_t hb3 hj1
          refine St.gOff (dj := 38) rfl rfl rfl rfl ?_
          refine St.gOff (dj := 38) rfl rfl rfl rfl ?_
          refine St.gOff (dj := 38) rfl rfl rfl rfl ?_
          refine St.gOff (dj := 38) rfl rfl rfl rfl ?_
          refine St.gOff (dj := 38) rfl rfl rfl rfl ?_
          refine St.gOff (dj := 38) rfl rfl rfl rfl ?_
          refine St.gOff (dj := 38) rfl rfl rfl rfl ?_
          refine St.p rfl rfl ?_
          refine St.done ?_
          injection hj1 with hj1
          subst hj1
          refine St.thenN ?_
          exact St.hereE () ⟨rfl, rfl, rfl, rfl, rfl, rfl, trivial⟩ (fun _ w => ((.k (.k (.k (.k (.k (.k .z)))))) : Keep _ _).sat w)
        · replace hj1 := bif_f hb3 hj1
          refine St.gOn (dj := 38) rfl rfl ?_
          refine St.p rfl rfl ?_
          refine St.gOn (dj := 38) rfl rfl ?_
          refine St.p rfl rfl ?_
          refine St.gOn (dj := 38) rfl rfl ?_
          refine St.p rfl rfl ?_
          refine St.gOn (dj := 38) rfl rfl ?_
          refine St.p rfl rfl ?_
          refine St.gOn (dj := 38) rfl rfl ?_
          refine St.loadB 11 rfl rfl (.tail _ (.head _)) rfl rfl ?_
          refine St.gOn (dj := 38) rfl rfl ?_
          refine St.p rfl rfl ?_
          refine St.gOn (dj := 38) rfl rfl ?_
          refine St.p rfl rfl ?_
          refine St.p rfl rfl ?_
          refine St.done ?_
          injection hj1 with hj1
          subst hj1
          refine St.thenN ?_
          exact St.hereE () ⟨rfl, rfl, rfl, rfl, rfl, rfl, trivial⟩ (fun _ w => ((.k (.k (.k (.k (.k (.k .z)))))) : Keep _ _).sat w)
    · rintro e1
      refine St.cond _ rfl (fun hb4 => ?_) (fun hb4 => ?_)
      · replace h := bif_t hb4 h
        refine St.seq ?_
        refine St.region ?_
        refine St.p rfl rfl ?_
        refine St.done ?_
        refine St.thenN ?_
        refine St.prune (Γ' := [(10, _)]) ⟨rfl, trivial⟩ (.d (.d (.d (.d (.d (.d .z)))))) ?_
        refine St.ret ?_
        repeat (first | refine St.thenR ?_ | refine St.blkR ?_)
        injection h with h
        subst h
        exact St.finR Try.results7 (.tmp rfl .nil) rfl [] ⟨rfl, rfl⟩ (fun _ w => (.z : Keep _ _).sat w)
      · replace h := bif_f hb4 h
        refine St.skip ?_
        refine St.thenN ?_
        refine St.prune (Γ' := [(0, _), (3, _), (4, _), (6, _), (7, _)]) ⟨rfl, rfl, rfl, rfl, rfl, trivial⟩ (.k (.k (.k (.k (.k (.k .z)))))) ?_
        refine St.seq ?_
        refine St.region ?_
        refine St.p rfl rfl ?_
        obtain ⟨r2, hr2, h⟩ := bnd_e h
        refine St.call (c_field_New hr2) ent10 rfl rfl rfl (fun _ w => Sat.dup (G := [.ro (SlL eu8 A1 c1 codes)]) rfl ⟨(.tail _ (.tail _ (.head _))), trivial⟩ w) ?_
        rintro _ _ ⟨g3, A5, c5, rfl, rfl⟩
        refine St.asrt (F' := .ro (SlL eu8 A5 c5 r2.L) :: .res (Box g3 63 [.slice A5 r2.L.length c5, .int .i64 r2.At]) :: .res (Box g2 30 (bx_T_Image i_p2 A4 c4)) :: .res (Box g1 35 (bx_T_Device raw A2 c2 A3 c3)) :: .ro (SlL eu8 A1 c1 codes) :: .ro (SlL eu8 A2 c2 raw.Slots.e0.Image.Data) :: .ro (SlL eu8 A3 c3 raw.Slots.e1.Image.Data) :: .ro (SlL eu8 A4 c4 i_p2.Data) :: R) (fun _ w => w) ?_
        refine St.p rfl rfl ?_
        refine St.done ?_
        refine St.thenN ?_
        refine St.prune (Γ' := [(3, _), (4, _), (6, _), (7, _), (11, _)]) ⟨rfl, rfl, rfl, rfl, rfl, trivial⟩ (.k (.k (.k (.k (.d (.k (.k (.k .z)))))))) ?_
        refine St.seq ?_
        refine St.region ?_
        refine St.p rfl rfl ?_
        refine St.buildSlice rfl rfl rfl rfl rfl rfl rfl rfl fun g4 => ?_
        refine St.p rfl rfl ?_
        obtain ⟨r3, hr3, h⟩ := bnd_e h
        refine St.call (c_field_Codes_Next hr3) ent23 rfl rfl rfl (fun _ w => Sat.dup (G := [.ro (SlL eu8 A5 c5 r2.L)]) rfl ⟨(.tail _ (.tail _ (.head _))), trivial⟩ (w.front (.s (.s .z)))) ?_
        rintro _ _ ⟨A6, c6, rfl, rfl⟩
        refine St.asrt (F' := .ro (SlL eu8 A6 c6 r3.1.L) :: .res (Box g3 63 [.slice A6 r3.1.L.length c6, .int .i64 r3.1.At]) :: .res (Box g4 9 [.string (⟨#[98, 105, 111, 115]⟩), .string (⟨#[109, 101]⟩)]) :: .ro (SlL eu8 A5 c5 r2.L) :: .res (Box g2 30 (bx_T_Image i_p2 A4 c4)) :: .res (Box g1 35 (bx_T_Device raw A2 c2 A3 c3)) :: .ro (SlL eu8 A2 c2 raw.Slots.e0.Image.Data) :: .ro (SlL eu8 A3 c3 raw.Slots.e1.Image.Data) :: .ro (SlL eu8 A4 c4 i_p2.Data) :: R) (fun _ w => w) ?_
        refine St.asrt (fun _ w => (w.front (.s (.s .z))).litL (E := estr) (e := 9) [⟨#[98, 105, 111, 115]⟩, ⟨#[109, 101]⟩] rfl rfl) ?_
        obtain ⟨x1, hx1, h⟩ := bnd_e h
        refine St.ixO hx1 rfl rfl rfl (.head _) rfl rfl rfl rfl rfl fun g5 hA => ?_
        cases hA
        refine St.ldO 0 hx1 rfl rfl (.head _) rfl rfl ?_
        obtain ⟨r4, hr4, h⟩ := bnd_e h
        refine St.call (c_field_Codes_Device hr4) ent18 rfl rfl rfl (fun _ w => Sat.dup (G := [.ro (SlL eu8 A6 c6 r3.1.L)]) rfl ⟨(.tail _ (.tail _ (.head _))), trivial⟩ (w.front (.s (.s .z)))) ?_
        rintro _ _ ⟨A7, c7, A8, c8, A9, c9, rfl, rfl⟩
        refine St.asrt (F' := .ro (SlL eu8 A7 c7 r4.1.L) :: .ro (SlL eu8 A8 c8 r4.2.Slots.e0.Image.Data) :: .ro (SlL eu8 A9 c9 r4.2.Slots.e1.Image.Data) :: .res (Box g3 63 [.slice A7 r4.1.L.length c7, .int .i64 r4.1.At]) :: .res (OwnL estr 9 (some ⟨g4, 0, none⟩) ([⟨#[98, 105, 111, 115]⟩, ⟨#[109, 101]⟩] : List ByteArray).length ([⟨#[98, 105, 111, 115]⟩, ⟨#[109, 101]⟩])) :: .ro (SlL eu8 A6 c6 r3.1.L) :: .ro (SlL eu8 A5 c5 r2.L) :: .res (Box g2 30 (bx_T_Image i_p2 A4 c4)) :: .res (Box g1 35 (bx_T_Device raw A2 c2 A3 c3)) :: .ro (SlL eu8 A2 c2 raw.Slots.e0.Image.Data) :: .ro (SlL eu8 A3 c3 raw.Slots.e1.Image.Data) :: .ro (SlL eu8 A4 c4 i_p2.Data) :: R) (fun _ w => w) ?_
        refine St.alloc rfl rfl fun g6 => ?_
        refine St.store 0 rfl rfl rfl rfl rfl rfl .z rfl ?_
        refine St.done ?_
        refine St.thenN ?_
        refine St.prune (Γ' := [(3, _), (4, _), (6, _), (7, _), (11, _), (12, _)]) ⟨rfl, rfl, rfl, rfl, rfl, rfl, trivial⟩ (.k (.k (.k (.k (.k (.d (.d (.d (.k (.k (.k (.k (.k .z))))))))))))) ?_
        refine St.seq ?_
        refine St.region ?_
        refine St.p rfl rfl ?_
        refine St.p rfl rfl ?_
        refine St.loadB 0 rfl rfl (.head _) rfl rfl ?_
        obtain ⟨r5, hr5, h⟩ := bnd_e h
        refine St.call (c_field_Codes_Image hr5) ent22 rfl rfl rfl (fun _ w => Sat.dup (G := [.ro (SlL eu8 A7 c7 r4.1.L)]) rfl ⟨(.tail _ (.tail _ (.head _))), trivial⟩ (w.front (.s (.s (.s (.s .z)))))) ?_
        rintro _ _ ⟨A10, c10, A11, c11, rfl, rfl⟩
        refine St.asrt (F' := .ro (SlL eu8 A10 c10 r5.1.L) :: .ro (SlL eu8 A11 c11 r5.2.Data) :: .res (Box g3 63 [.slice A10 r5.1.L.length c10, .int .i64 r5.1.At]) :: .res (Box g6 35 (bx_T_Device r4.2 A8 c8 A9 c9)) :: .ro (SlL eu8 A7 c7 r4.1.L) :: .ro (SlL eu8 A8 c8 r4.2.Slots.e0.Image.Data) :: .ro (SlL eu8 A9 c9 r4.2.Slots.e1.Image.Data) :: .res (Box g2 30 (bx_T_Image i_p2 A4 c4)) :: .res (Box g1 35 (bx_T_Device raw A2 c2 A3 c3)) :: .ro (SlL eu8 A2 c2 raw.Slots.e0.Image.Data) :: .ro (SlL eu8 A3 c3 raw.Slots.e1.Image.Data) :: .ro (SlL eu8 A4 c4 i_p2.Data) :: R) (fun _ w => w) ?_
        refine St.alloc rfl rfl fun g7 => ?_
        refine St.store 0 rfl rfl rfl rfl rfl rfl .z rfl ?_
        refine St.done ?_
        refine St.thenN ?_
        refine St.prune (Γ' := [(3, _), (4, _), (6, _), (7, _), (11, _), (12, _), (13, _)]) ⟨rfl, rfl, rfl, rfl, rfl, rfl, rfl, trivial⟩ (.k (.k (.k (.k (.k (.d (.k (.k (.k (.k (.k (.k (.k .z))))))))))))) ?_
        refine St.seq ?_
        refine St.seq ?_
        refine St.regionX (iL [(.fl, 0), (.fl, 1), (.fx, 2), (.fl, 4), (.fl, 7), (.ef, 3), (.ef, 5), (.fl, 6)] .nil) (.res (Box g7 30 (bx_T_Image r5.2 A11 c11)) :: .ro (SlL eu8 A10 c10 r5.1.L) :: .ro (SlL eu8 A11 c11 r5.2.Data) :: .res (Box g6 35 (bx_T_Device r4.2 A8 c8 A9 c9)) :: .ro (SlL eu8 A8 c8 r4.2.Slots.e0.Image.Data) :: .ro (SlL eu8 A9 c9 r4.2.Slots.e1.Image.Data) :: .res (Box g2 30 (bx_T_Image i_p2 A4 c4)) :: .res (Box g1 35 (bx_T_Device raw A2 c2 A3 c3)) :: .ro (SlL eu8 A2 c2 raw.Slots.e0.Image.Data) :: .ro (SlL eu8 A3 c3 raw.Slots.e1.Image.Data) :: .ro (SlL eu8 A4 c4 i_p2.Data) :: R) mixed (by kernel_rfl) (fun _ w => ((.k (.k (.k (.d (.k (.k (.k (.k (.k (.k (.k (.k .z)))))))))))) : Keep _ _).sat w) ?_
        refine St.xfl (fun _ h => h) (Rd.loadB 0 rfl (.tail _ (.tail _ (.tail _ (.head _)))) rfl rfl) rfl ?_
        refine St.xfl (fun _ h => h) (Rd.p rfl) rfl ?_
        refine St.xfx (Rd.loadB 0 rfl (.tail _ (.tail _ (.tail _ (.tail _ (.head _))))) rfl rfl) rfl ?_
        refine St.xfl (fun _ h => h) (Rd.loadB 0 rfl (.tail _ (.tail _ (.tail _ (.tail _ (.tail _ (.tail _ (.tail _ (.head _)))))))) rfl rfl) rfl ?_
        refine St.xfl (fun _ h => h) (Rd.p rfl) rfl ?_
        refine St.xef ?_
        obtain ⟨r6, hr6, h⟩ := bnd_e h
        refine St.call (c_law29_odd hr6) ent27 rfl rfl rfl (fun _ w => Sat.dup (G := [.ro (SlL eu8 A10 c10 r5.1.L), .ro (SlL eu8 A8 c8 r4.2.Slots.e0.Image.Data), .ro (SlL eu8 A9 c9 r4.2.Slots.e1.Image.Data)]) rfl ⟨(.tail _ (.tail _ (.head _))), (.tail _ (.tail _ (.tail _ (.tail _ (.tail _ (.head _)))))), (.tail _ (.tail _ (.tail _ (.tail _ (.tail _ (.tail _ (.head _))))))), trivial⟩ (w.front (.s (.s (.s .z))))) ?_
        rintro _ _ ⟨A12, c12, A13, c13, A14, c14, rfl, rfl⟩
        refine St.asrt (F' := .ro (SlL eu8 A12 c12 r6.1.L) :: .ro (SlL eu8 A13 c13 r6.2.Slots.e0.Image.Data) :: .ro (SlL eu8 A14 c14 r6.2.Slots.e1.Image.Data) :: .res (Box g3 63 [.slice A12 r6.1.L.length c12, .int .i64 r6.1.At]) :: .res (Box g7 30 (bx_T_Image r5.2 A11 c11)) :: .ro (SlL eu8 A10 c10 r5.1.L) :: .ro (SlL eu8 A11 c11 r5.2.Data) :: .res (Box g6 35 (bx_T_Device r4.2 A8 c8 A9 c9)) :: .ro (SlL eu8 A8 c8 r4.2.Slots.e0.Image.Data) :: .ro (SlL eu8 A9 c9 r4.2.Slots.e1.Image.Data) :: .res (Box g2 30 (bx_T_Image i_p2 A4 c4)) :: .res (Box g1 35 (bx_T_Device raw A2 c2 A3 c3)) :: .ro (SlL eu8 A2 c2 raw.Slots.e0.Image.Data) :: .ro (SlL eu8 A3 c3 raw.Slots.e1.Image.Data) :: .ro (SlL eu8 A4 c4 i_p2.Data) :: R) (fun _ w => w) ?_
        refine St.xk (fun _ w => ((.d (.d (.d (.d (.k (.k (.k (.k (.k (.k (.k (.k (.k (.k (.k .z))))))))))))))) : Keep _ _).sat w) ?_
        refine St.xef ?_
        refine St.buildSlice rfl rfl rfl rfl rfl rfl rfl rfl fun g8 => ?_
        refine St.xk (fun _ w => ((.d (.d (.d (.d (.d (.k (.k (.k (.k (.k (.k (.k (.k (.k (.k (.k .z)))))))))))))))) : Keep _ _).sat w) ?_
        refine St.xfl (fun _ h => h) (Rd.p rfl) rfl ?_
        refine St.xdone ?_
        refine St.thenN ?_
        refine St.prune (Γ' := [(3, _), (4, _), (7, _), (11, _), (13, _), (65, _), (66, _), (67, _)]) ⟨rfl, rfl, rfl, rfl, rfl, rfl, rfl, rfl, trivial⟩ (.k (.k (.k (.k (.k (.k (.d (.k (.d (.k (.k (.k (.d (.k (.k (.k .z)))))))))))))))) ?_
        refine St.asrt (fun _ w => Sat.litC (ls := l_T_Device) (e := 35) [(r4.2, ((A8, c8), ((A9, c9), ()))), (r6.2, ((A13, c13), ((A14, c14), ()))), (raw, ((A2, c2), ((A3, c3), ())))] rfl rfl rfl ⟨(.tail _ (.tail _ (.tail _ (.tail _ (.tail _ (.tail _ (.head _))))))), (.tail _ (.tail _ (.tail _ (.tail _ (.tail _ (.tail _ (.tail _ (.head _)))))))), (.tail _ (.head _)), (.tail _ (.tail _ (.head _))), (.tail _ (.tail _ (.tail _ (.tail _ (.tail _ (.tail _ (.tail _ (.tail _ (.tail _ (.head _)))))))))), (.tail _ (.tail _ (.tail _ (.tail _ (.tail _ (.tail _ (.tail _ (.tail _ (.tail _ (.tail _ (.head _))))))))))), trivial⟩ (w.front .z)) ?_
        refine St.asrt (fun _ w => (w.front .z).meltC) ?_
        refine St.prune (Γ' := [(3, _), (4, _), (7, _), (11, _), (13, _), (65, _), (66, _), (67, _)]) ⟨rfl, rfl, rfl, rfl, rfl, rfl, rfl, rfl, trivial⟩ (.k (.k (.d (.d (.k (.k (.k (.d (.d (.k (.d (.d (.k .z))))))))))))) ?_
        obtain ⟨o2, hl1, h⟩ := bnd_e h
        refine St.cutI (fun (o3 : List Int × Int) (e3 : Option Addr × Nat) => []) (fun o3 e3 => R) (fun o3 => o2 = .inr o3) ?_ ?_
        · refine St.block ?_
          refine St.loop hl1 (fun (s1 : Int × List Int × Int) (e2 : Option Addr × Nat) => [(3, .int .i64 n_p3), (4, .int .u32 sum), (7, .pointer (some ⟨g2, 0, none⟩)), (11, .pointer (some ⟨g3, 0, none⟩)), (13, .pointer (some ⟨g7, 0, none⟩)), (65, .slice (some ⟨g8, 0, none⟩) ([r4.2, r6.2, raw]).length ([r4.2, r6.2, raw] : List T_Device).length), (66, .int .i64 ((3 : Nat) : Int)), (67, .int .i64 s1.1)]) (fun s1 e2 => .ro (SlL eu8 e2.1 e2.2 s1.2.1) :: .ro (Sl (codL l_T_Device) (some ⟨g8, 0, none⟩) ([r4.2, r6.2, raw] : List T_Device).length ([r4.2, r6.2, raw])) :: .res (Box g3 63 [.slice e2.1 s1.2.1.length e2.2, .int .i64 s1.2.2]) :: .res (Box g7 30 (bx_T_Image r5.2 A11 c11)) :: .ro (SlL eu8 A11 c11 r5.2.Data) :: .res (Box g2 30 (bx_T_Image i_p2 A4 c4)) :: .ro (SlL eu8 A4 c4 i_p2.Data) :: R) (fun _ _ => True) (A12, c12) trivial ⟨rfl, rfl, rfl, rfl, rfl, rfl, rfl, rfl, trivial⟩ (fun _ w => ((.k (.k (.k (.k (.k (.k (.k .z))))))) : Keep _ _).sat (((((((w.front (.s (.s (.s (.s (.s (.s .z))))))).front (.s (.s (.s (.s (.s (.s .z))))))).front (.s (.s (.s (.s (.s (.s .z))))))).front (.s (.s (.s (.s (.s (.s .z))))))).front (.s (.s (.s (.s (.s (.s .z))))))).front (.s (.s (.s (.s (.s .z)))))).front (.s (.s (.s (.s (.s (.s .z)))))))) ?_
          rintro s1 ⟨A15, c15⟩ - hit1
          obtain ⟨st1, hm1, hd1⟩ := iter_e hit1
          have h1 := hm1
          refine St.seq ?_
          refine St.region ?_
          refine St.p rfl rfl ?_
          refine St.done ?_
          refine St.thenN ?_
          refine St.seq ?_
          refine St.cond _ rfl (fun hb5 => ?_) (fun hb5 => ?_)
          · replace h1 := bif_t hb5 h1
            refine St.skip ?_
            refine St.thenN ?_
            refine St.prune (Γ' := [(3, _), (4, _), (7, _), (11, _), (13, _), (65, _), (66, _), (67, _)]) ⟨rfl, rfl, rfl, rfl, rfl, rfl, rfl, rfl, trivial⟩ (.k (.k (.k (.k (.k (.k (.k .z))))))) ?_
            refine St.seq ?_
            refine St.block ?_
            refine St.seq ?_
            refine St.region ?_
            obtain ⟨x2, hx2, h1⟩ := bnd_e h1
            refine St.ixN hx2 rfl rfl rfl (.tail _ (.head _)) rfl rfl rfl rfl rfl fun b1 ob1 ex1 => ?_
            obtain ⟨⟨A17, c17⟩, ⟨⟨A18, c18⟩, _⟩⟩ := ex1
            refine St.asrt (F' := .ro (Cells b1 ob1 (bx_T_Device x2 A17 c17 A18 c18)) :: .ro (SlL eu8 A17 c17 x2.Slots.e0.Image.Data) :: .ro (SlL eu8 A18 c18 x2.Slots.e1.Image.Data) :: .ro (SlL eu8 A15 c15 s1.2.1) :: .ro (Sl (codL l_T_Device) (some ⟨g8, 0, none⟩) ([r4.2, r6.2, raw] : List T_Device).length ([r4.2, r6.2, raw])) :: .res (Box g3 63 [.slice A15 s1.2.1.length c15, .int .i64 s1.2.2]) :: .res (Box g7 30 (bx_T_Image r5.2 A11 c11)) :: .ro (SlL eu8 A11 c11 r5.2.Data) :: .res (Box g2 30 (bx_T_Image i_p2 A4 c4)) :: .ro (SlL eu8 A4 c4 i_p2.Data) :: R) (fun _ w => w) ?_
            refine St.load ob1 0 rfl rfl (.head _) rfl rfl ?_
            refine St.alloc rfl rfl fun g9 => ?_
            refine St.store 0 rfl rfl rfl rfl rfl rfl .z rfl ?_
            refine St.done ?_
            refine St.thenN ?_
            refine St.prune (Γ' := [(3, _), (4, _), (7, _), (11, _), (13, _), (15, _), (65, _), (66, _), (67, _)]) ⟨rfl, rfl, rfl, rfl, rfl, rfl, rfl, rfl, rfl, trivial⟩ (.k (.d (.k (.k (.k (.k (.k (.k (.k (.k (.k .z))))))))))) ?_
            refine St.seq ?_
            obtain ⟨r7, hr7, h1⟩ := bnd_e h1
            obtain ⟨r8, hr8, h1⟩ := bnd_e h1
            obtain ⟨r9, hr9, h1⟩ := bnd_e h1
            obtain ⟨r10, hr10, h1⟩ := bnd_e h1
            obtain ⟨x3, hx3, h1⟩ := bnd_e h1
            refine St.regionX (iL [(.fl, 0), (.fl, 1), (.fl, 2), (.fl, 3), (.fl, 4), (.fl, 5), (.fl, 7), (.fl, 8), (.fl, 9), (.fl, 10), (.fl, 12), (.fl, 13), (.fl, 14), (.fl, 15), (.fl, 17), (.fl, 19)] (.alt (iL [(.ef, 6), (.qc, 11), (.qc, 16)] (.alt (iL [(.ef, 18)] (.alt (iL [(.ef, 20)] (.alt (iL [(.ef, 21)] (.alt (iL [(.ef, 22)] (iL [(.ef, 23)] (iL [(.ef, 24), (.fl, 25), (.fl, 26)] .nil))) (iL [(.ef, 23)] (.alt (iL [(.ef, 22)] (iL [(.ef, 24), (.fl, 25), (.fl, 26)] .nil)) (iL [(.ef, 24), (.fl, 25)] (iL [(.ef, 22), (.fl, 26)] .nil)))))) (iL [(.ef, 23)] (.alt (iL [(.ef, 21)] (.alt (iL [(.ef, 22)] (iL [(.ef, 24), (.fl, 25), (.fl, 26)] .nil)) (iL [(.ef, 24), (.fl, 25)] (iL [(.ef, 22), (.fl, 26)] .nil)))) (iL [(.ef, 24), (.fl, 25)] (iL [(.ef, 21)] (iL [(.ef, 22), (.fl, 26)] .nil))))))) (iL [(.ef, 23)] (iL [(.ef, 20)] (.alt (iL [(.ef, 21)] (.alt (iL [(.ef, 22)] (iL [(.ef, 24), (.fl, 25), (.fl, 26)] .nil)) (iL [(.ef, 24), (.fl, 25)] (iL [(.ef, 22), (.fl, 26)] .nil)))) (iL [(.ef, 24), (.fl, 25)] (iL [(.ef, 21)] (iL [(.ef, 22), (.fl, 26)] .nil)))))))) (.alt (iL [(.ef, 20)] (.alt (iL [(.ef, 18)] (.alt (iL [(.ef, 21)] (.alt (iL [(.ef, 22)] (iL [(.ef, 23)] (iL [(.ef, 24), (.fl, 25), (.fl, 26)] .nil))) (iL [(.ef, 23)] (.alt (iL [(.ef, 22)] (iL [(.ef, 24), (.fl, 25), (.fl, 26)] .nil)) (iL [(.ef, 24), (.fl, 25)] (iL [(.ef, 22), (.fl, 26)] .nil)))))) (iL [(.ef, 23)] (.alt (iL [(.ef, 21)] (.alt (iL [(.ef, 22)] (iL [(.ef, 24), (.fl, 25), (.fl, 26)] .nil)) (iL [(.ef, 24), (.fl, 25)] (iL [(.ef, 22), (.fl, 26)] .nil)))) (iL [(.ef, 24), (.fl, 25)] (iL [(.ef, 21)] (iL [(.ef, 22), (.fl, 26)] .nil))))))) (iL [(.ef, 23)] (.alt (iL [(.ef, 18)] (.alt (iL [(.ef, 21)] (.alt (iL [(.ef, 22)] (iL [(.ef, 24), (.fl, 25), (.fl, 26)] .nil)) (iL [(.ef, 24), (.fl, 25)] (iL [(.ef, 22), (.fl, 26)] .nil)))) (iL [(.ef, 24), (.fl, 25)] (iL [(.ef, 21)] (iL [(.ef, 22), (.fl, 26)] .nil))))) (iL [(.ef, 24), (.fl, 25)] (iL [(.ef, 18)] (iL [(.ef, 21)] (iL [(.ef, 22), (.fl, 26)] .nil)))))))) (iL [(.ef, 23)] (.alt (iL [(.ef, 18)] (iL [(.ef, 20)] (.alt (iL [(.ef, 21)] (.alt (iL [(.ef, 22)] (iL [(.ef, 24), (.fl, 25), (.fl, 26)] .nil)) (iL [(.ef, 24), (.fl, 25)] (iL [(.ef, 22), (.fl, 26)] .nil)))) (iL [(.ef, 24), (.fl, 25)] (iL [(.ef, 21)] (iL [(.ef, 22), (.fl, 26)] .nil)))))) (iL [(.ef, 20)] (.alt (iL [(.ef, 18)] (.alt (iL [(.ef, 21)] (.alt (iL [(.ef, 22)] (iL [(.ef, 24), (.fl, 25), (.fl, 26)] .nil)) (iL [(.ef, 24), (.fl, 25)] (iL [(.ef, 22), (.fl, 26)] .nil)))) (iL [(.ef, 24), (.fl, 25)] (iL [(.ef, 21)] (iL [(.ef, 22), (.fl, 26)] .nil))))) (iL [(.ef, 24), (.fl, 25)] (iL [(.ef, 18)] (iL [(.ef, 21)] (iL [(.ef, 22), (.fl, 26)] .nil))))))))))) (iL [(.ef, 23)] (iL [(.ef, 6), (.qc, 11), (.qc, 16)] (.alt (iL [(.ef, 18)] (iL [(.ef, 20)] (.alt (iL [(.ef, 21)] (.alt (iL [(.ef, 22)] (iL [(.ef, 24), (.fl, 25), (.fl, 26)] .nil)) (iL [(.ef, 24), (.fl, 25)] (iL [(.ef, 22), (.fl, 26)] .nil)))) (iL [(.ef, 24), (.fl, 25)] (iL [(.ef, 21)] (iL [(.ef, 22), (.fl, 26)] .nil)))))) (iL [(.ef, 20)] (.alt (iL [(.ef, 18)] (.alt (iL [(.ef, 21)] (.alt (iL [(.ef, 22)] (iL [(.ef, 24), (.fl, 25), (.fl, 26)] .nil)) (iL [(.ef, 24), (.fl, 25)] (iL [(.ef, 22), (.fl, 26)] .nil)))) (iL [(.ef, 24), (.fl, 25)] (iL [(.ef, 21)] (iL [(.ef, 22), (.fl, 26)] .nil))))) (iL [(.ef, 24), (.fl, 25)] (iL [(.ef, 18)] (iL [(.ef, 21)] (iL [(.ef, 22), (.fl, 26)] .nil))))))))))) (.res (Box g9 35 (bx_T_Device x2 A17 c17 A18 c18)) :: .ro (SlL eu8 A17 c17 x2.Slots.e0.Image.Data) :: .ro (SlL eu8 A18 c18 x2.Slots.e1.Image.Data) :: .ro (SlL eu8 A15 c15 s1.2.1) :: .ro (Sl (codL l_T_Device) (some ⟨g8, 0, none⟩) ([r4.2, r6.2, raw] : List T_Device).length ([r4.2, r6.2, raw])) :: .res (Box g7 30 (bx_T_Image r5.2 A11 c11)) :: .ro (SlL eu8 A11 c11 r5.2.Data) :: .res (Box g2 30 (bx_T_Image i_p2 A4 c4)) :: .ro (SlL eu8 A4 c4 i_p2.Data) :: R) mixed (by kernel_rfl) (fun _ w => ((.k (.k (.k (.k (.k (.d (.k (.k (.k (.k .z)))))))))) : Keep _ _).sat w) ?_
            refine St.share (Y := ?Ynd1_0) (fun (e : Nat × Nat × Option Addr × Nat × Option Addr × Nat) => [(3, .int .i64 n_p3), (4, .int .u32 sum), (7, .pointer (some ⟨g2, 0, none⟩)), (11, .pointer (some ⟨g3, 0, none⟩)), (13, .pointer (some ⟨g7, 0, none⟩)), (15, .pointer (some ⟨g9, 0, none⟩)), (16, .pointer (some ⟨e.2.1, 0, none⟩)), (17, .int .i64 r7.2), (18, .int .u32 x3), (65, .slice (some ⟨g8, 0, none⟩) ([r4.2, r6.2, raw]).length ([r4.2, r6.2, raw] : List T_Device).length), (66, .int .i64 ((3 : Nat) : Int)), (67, .int .i64 s1.1), (71, .agg (bx_T_Image r5.2 A11 c11).toArray), (72, .pointer (some ⟨g3, 0, none⟩)), (73, .pointer (some ⟨g7, 4, none⟩)), (74, .slice A11 r5.2.Data.length c11), (75, .int .i64 (r5.2.Data.length : Int)), (76, .int .i64 (IntKind.wrap .i64 ((r5.2.Data.length : Int) + 2))), (77, .int .i64 r7.2), (78, .pointer (some ⟨g9, 1, none⟩)), (79, .pointer (some ⟨g9, 1, none⟩)), (80, .pointer (some ⟨g9, 1, none⟩)), (81, .agg (bx_T_Image x2.Slots.e0.Image A17 c17).toArray), (82, .int .u32 r8), (83, .pointer (some ⟨g9, 1, none⟩)), (84, .pointer (some ⟨g9, 7, none⟩)), (85, .pointer (some ⟨g9, 7, none⟩)), (86, .agg (bx_T_Image x2.Slots.e1.Image A18 c18).toArray), (87, .int .u32 r9), (88, .int .u32 sum), (89, .slice (some ⟨e.1, 0, none⟩) ([r8, r9, sum]).length ([r8, r9, sum] : List Int).length), (90, .pointer (some ⟨g3, 0, none⟩)), (91, .int .i64 r10.2), (92, .pointer (some ⟨e.1, Int.toNat r10.2 * 1, none⟩)), (93, .int .u32 x3)]) (fun e => .res (Box e.2.1 30 (bx_T_Image r5.2 A11 c11)) :: .res (OwnL eu32 23 (some ⟨e.1, 0, none⟩) ([r8, r9, sum] : List Int).length ([r8, r9, sum])) :: .ro (SlL eu8 e.2.2.1 e.2.2.2.1 r10.1.L) :: .res (Box g3 63 [.slice e.2.2.1 r10.1.L.length e.2.2.2.1, .int .i64 r10.1.At]) :: .ro (SlL eu8 e.2.2.2.2.1 e.2.2.2.2.2 r7.1.L) :: .res (Box g9 35 (bx_T_Device x2 A17 c17 A18 c18)) :: .ro (SlL eu8 A17 c17 x2.Slots.e0.Image.Data) :: .ro (SlL eu8 A18 c18 x2.Slots.e1.Image.Data) :: .ro (SlL eu8 A15 c15 s1.2.1) :: .ro (Sl (codL l_T_Device) (some ⟨g8, 0, none⟩) ([r4.2, r6.2, raw] : List T_Device).length ([r4.2, r6.2, raw])) :: .res (Box g7 30 (bx_T_Image r5.2 A11 c11)) :: .ro (SlL eu8 A11 c11 r5.2.Data) :: .res (Box g2 30 (bx_T_Image i_p2 A4 c4)) :: .ro (SlL eu8 A4 c4 i_p2.Data) :: R) (fun hnd1_0 => ?mnd1_0) ?tnd1_0
            case mnd1_0 =>
              refine St.share (Y := ?Ynd1_1) (fun (e : Nat × Nat × Option Addr × Nat × Option Addr × Nat) => [(3, .int .i64 n_p3), (4, .int .u32 sum), (7, .pointer (some ⟨g2, 0, none⟩)), (11, .pointer (some ⟨g3, 0, none⟩)), (13, .pointer (some ⟨g7, 0, none⟩)), (15, .pointer (some ⟨g9, 0, none⟩)), (16, .pointer (some ⟨e.2.1, 0, none⟩)), (65, .slice (some ⟨g8, 0, none⟩) ([r4.2, r6.2, raw]).length ([r4.2, r6.2, raw] : List T_Device).length), (66, .int .i64 ((3 : Nat) : Int)), (67, .int .i64 s1.1), (71, .agg (bx_T_Image r5.2 A11 c11).toArray), (72, .pointer (some ⟨g3, 0, none⟩)), (73, .pointer (some ⟨g7, 4, none⟩)), (74, .slice A11 r5.2.Data.length c11), (75, .int .i64 (r5.2.Data.length : Int)), (76, .int .i64 (IntKind.wrap .i64 ((r5.2.Data.length : Int) + 2))), (77, .int .i64 r7.2), (78, .pointer (some ⟨g9, 1, none⟩)), (79, .pointer (some ⟨g9, 1, none⟩)), (80, .pointer (some ⟨g9, 1, none⟩)), (81, .agg (bx_T_Image x2.Slots.e0.Image A17 c17).toArray), (82, .int .u32 r8), (83, .pointer (some ⟨g9, 1, none⟩)), (84, .pointer (some ⟨g9, 7, none⟩)), (85, .pointer (some ⟨g9, 7, none⟩)), (86, .agg (bx_T_Image x2.Slots.e1.Image A18 c18).toArray), (87, .int .u32 r9), (88, .int .u32 sum), (89, .slice (some ⟨e.1, 0, none⟩) ([r8, r9, sum]).length ([r8, r9, sum] : List Int).length), (90, .pointer (some ⟨g3, 0, none⟩)), (91, .int .i64 r10.2), (92, .pointer (some ⟨e.1, Int.toNat r10.2 * 1, none⟩)), (93, .int .u32 x3)]) (fun e => .res (Box e.2.1 30 [.string (⟨#[]⟩), .int .i64 0, .int .i64 0, .int .i64 0, .slice none 0 0]) :: .res (OwnL eu32 23 (some ⟨e.1, 0, none⟩) ([r8, r9, sum] : List Int).length ([r8, r9, sum])) :: .ro (SlL eu8 e.2.2.1 e.2.2.2.1 r10.1.L) :: .res (Box g3 63 [.slice e.2.2.1 r10.1.L.length e.2.2.2.1, .int .i64 r10.1.At]) :: .ro (SlL eu8 e.2.2.2.2.1 e.2.2.2.2.2 r7.1.L) :: .res (Box g9 35 (bx_T_Device x2 A17 c17 A18 c18)) :: .ro (SlL eu8 A17 c17 x2.Slots.e0.Image.Data) :: .ro (SlL eu8 A18 c18 x2.Slots.e1.Image.Data) :: .ro (SlL eu8 A15 c15 s1.2.1) :: .ro (Sl (codL l_T_Device) (some ⟨g8, 0, none⟩) ([r4.2, r6.2, raw] : List T_Device).length ([r4.2, r6.2, raw])) :: .res (Box g7 30 (bx_T_Image r5.2 A11 c11)) :: .ro (SlL eu8 A11 c11 r5.2.Data) :: .res (Box g2 30 (bx_T_Image i_p2 A4 c4)) :: .ro (SlL eu8 A4 c4 i_p2.Data) :: R) (fun hnd1_1 => ?mnd1_1) ?tnd1_1
              case mnd1_1 =>
                refine St.share (Y := ?Ynd1_2) (fun (e : Nat × Nat × Option Addr × Nat × Option Addr × Nat) => [(3, .int .i64 n_p3), (4, .int .u32 sum), (7, .pointer (some ⟨g2, 0, none⟩)), (11, .pointer (some ⟨g3, 0, none⟩)), (13, .pointer (some ⟨g7, 0, none⟩)), (15, .pointer (some ⟨g9, 0, none⟩)), (16, .pointer (some ⟨e.2.1, 0, none⟩)), (17, .int .i64 r7.2), (65, .slice (some ⟨g8, 0, none⟩) ([r4.2, r6.2, raw]).length ([r4.2, r6.2, raw] : List T_Device).length), (66, .int .i64 ((3 : Nat) : Int)), (67, .int .i64 s1.1), (71, .agg (bx_T_Image r5.2 A11 c11).toArray), (72, .pointer (some ⟨g3, 0, none⟩)), (73, .pointer (some ⟨g7, 4, none⟩)), (74, .slice A11 r5.2.Data.length c11), (75, .int .i64 (r5.2.Data.length : Int)), (76, .int .i64 (IntKind.wrap .i64 ((r5.2.Data.length : Int) + 2))), (77, .int .i64 r7.2), (78, .pointer (some ⟨g9, 1, none⟩)), (79, .pointer (some ⟨g9, 1, none⟩)), (80, .pointer (some ⟨g9, 1, none⟩)), (81, .agg (bx_T_Image x2.Slots.e0.Image A17 c17).toArray), (82, .int .u32 r8), (83, .pointer (some ⟨g9, 1, none⟩)), (84, .pointer (some ⟨g9, 7, none⟩)), (85, .pointer (some ⟨g9, 7, none⟩)), (86, .agg (bx_T_Image x2.Slots.e1.Image A18 c18).toArray), (87, .int .u32 r9), (88, .int .u32 sum), (89, .slice (some ⟨e.1, 0, none⟩) ([r8, r9, sum]).length ([r8, r9, sum] : List Int).length), (90, .pointer (some ⟨g3, 0, none⟩)), (91, .int .i64 r10.2), (92, .pointer (some ⟨e.1, Int.toNat r10.2 * 1, none⟩))]) (fun e => .res (Box e.2.1 30 (bx_T_Image r5.2 A11 c11)) :: .res (OwnL eu32 23 (some ⟨e.1, 0, none⟩) ([r8, r9, sum] : List Int).length ([r8, r9, sum])) :: .ro (SlL eu8 e.2.2.1 e.2.2.2.1 r10.1.L) :: .res (Box g3 63 [.slice e.2.2.1 r10.1.L.length e.2.2.2.1, .int .i64 r10.1.At]) :: .ro (SlL eu8 e.2.2.2.2.1 e.2.2.2.2.2 r7.1.L) :: .res (Box g9 35 (bx_T_Device x2 A17 c17 A18 c18)) :: .ro (SlL eu8 A17 c17 x2.Slots.e0.Image.Data) :: .ro (SlL eu8 A18 c18 x2.Slots.e1.Image.Data) :: .ro (SlL eu8 A15 c15 s1.2.1) :: .ro (Sl (codL l_T_Device) (some ⟨g8, 0, none⟩) ([r4.2, r6.2, raw] : List T_Device).length ([r4.2, r6.2, raw])) :: .res (Box g7 30 (bx_T_Image r5.2 A11 c11)) :: .ro (SlL eu8 A11 c11 r5.2.Data) :: .res (Box g2 30 (bx_T_Image i_p2 A4 c4)) :: .ro (SlL eu8 A4 c4 i_p2.Data) :: R) (fun hnd1_2 => ?mnd1_2) ?tnd1_2
                case mnd1_2 =>
                  refine St.share (Y := ?Ynd1_3) (fun (e : Nat × Nat × Option Addr × Nat × Option Addr × Nat) => [(3, .int .i64 n_p3), (4, .int .u32 sum), (7, .pointer (some ⟨g2, 0, none⟩)), (11, .pointer (some ⟨g3, 0, none⟩)), (13, .pointer (some ⟨g7, 0, none⟩)), (15, .pointer (some ⟨g9, 0, none⟩)), (16, .pointer (some ⟨e.2.1, 0, none⟩)), (65, .slice (some ⟨g8, 0, none⟩) ([r4.2, r6.2, raw]).length ([r4.2, r6.2, raw] : List T_Device).length), (66, .int .i64 ((3 : Nat) : Int)), (67, .int .i64 s1.1), (71, .agg (bx_T_Image r5.2 A11 c11).toArray), (72, .pointer (some ⟨g3, 0, none⟩)), (73, .pointer (some ⟨g7, 4, none⟩)), (74, .slice A11 r5.2.Data.length c11), (75, .int .i64 (r5.2.Data.length : Int)), (76, .int .i64 (IntKind.wrap .i64 ((r5.2.Data.length : Int) + 2))), (77, .int .i64 r7.2), (78, .pointer (some ⟨g9, 1, none⟩)), (79, .pointer (some ⟨g9, 1, none⟩)), (80, .pointer (some ⟨g9, 1, none⟩)), (81, .agg (bx_T_Image x2.Slots.e0.Image A17 c17).toArray), (82, .int .u32 r8), (83, .pointer (some ⟨g9, 1, none⟩)), (84, .pointer (some ⟨g9, 7, none⟩)), (85, .pointer (some ⟨g9, 7, none⟩)), (86, .agg (bx_T_Image x2.Slots.e1.Image A18 c18).toArray), (87, .int .u32 r9), (88, .int .u32 sum), (89, .slice (some ⟨e.1, 0, none⟩) ([r8, r9, sum]).length ([r8, r9, sum] : List Int).length), (90, .pointer (some ⟨g3, 0, none⟩)), (91, .int .i64 r10.2), (92, .pointer (some ⟨e.1, Int.toNat r10.2 * 1, none⟩))]) (fun e => .res (Box e.2.1 30 [.string (⟨#[]⟩), .int .i64 0, .int .i64 0, .int .i64 0, .slice none 0 0]) :: .res (OwnL eu32 23 (some ⟨e.1, 0, none⟩) ([r8, r9, sum] : List Int).length ([r8, r9, sum])) :: .ro (SlL eu8 e.2.2.1 e.2.2.2.1 r10.1.L) :: .res (Box g3 63 [.slice e.2.2.1 r10.1.L.length e.2.2.2.1, .int .i64 r10.1.At]) :: .ro (SlL eu8 e.2.2.2.2.1 e.2.2.2.2.2 r7.1.L) :: .res (Box g9 35 (bx_T_Device x2 A17 c17 A18 c18)) :: .ro (SlL eu8 A17 c17 x2.Slots.e0.Image.Data) :: .ro (SlL eu8 A18 c18 x2.Slots.e1.Image.Data) :: .ro (SlL eu8 A15 c15 s1.2.1) :: .ro (Sl (codL l_T_Device) (some ⟨g8, 0, none⟩) ([r4.2, r6.2, raw] : List T_Device).length ([r4.2, r6.2, raw])) :: .res (Box g7 30 (bx_T_Image r5.2 A11 c11)) :: .ro (SlL eu8 A11 c11 r5.2.Data) :: .res (Box g2 30 (bx_T_Image i_p2 A4 c4)) :: .ro (SlL eu8 A4 c4 i_p2.Data) :: R) (fun hnd1_3 => ?mnd1_3) ?tnd1_3
                  case mnd1_3 =>
                    refine St.share (Y := ?Ynd1_4) (fun (e : Nat × Nat × Option Addr × Nat × Option Addr × Nat) => [(3, .int .i64 n_p3), (4, .int .u32 sum), (7, .pointer (some ⟨g2, 0, none⟩)), (11, .pointer (some ⟨g3, 0, none⟩)), (13, .pointer (some ⟨g7, 0, none⟩)), (15, .pointer (some ⟨g9, 0, none⟩)), (16, .pointer (some ⟨e.2.1, 0, none⟩)), (17, .int .i64 r7.2), (65, .slice (some ⟨g8, 0, none⟩) ([r4.2, r6.2, raw]).length ([r4.2, r6.2, raw] : List T_Device).length), (66, .int .i64 ((3 : Nat) : Int)), (67, .int .i64 s1.1), (71, .agg (bx_T_Image r5.2 A11 c11).toArray), (72, .pointer (some ⟨g3, 0, none⟩)), (73, .pointer (some ⟨g7, 4, none⟩)), (74, .slice A11 r5.2.Data.length c11), (75, .int .i64 (r5.2.Data.length : Int)), (76, .int .i64 (IntKind.wrap .i64 ((r5.2.Data.length : Int) + 2))), (77, .int .i64 r7.2), (78, .pointer (some ⟨g9, 1, none⟩)), (79, .pointer (some ⟨g9, 1, none⟩)), (80, .pointer (some ⟨g9, 1, none⟩)), (81, .agg (bx_T_Image x2.Slots.e0.Image A17 c17).toArray), (82, .int .u32 r8), (83, .pointer (some ⟨g9, 1, none⟩)), (84, .pointer (some ⟨g9, 7, none⟩)), (85, .pointer (some ⟨g9, 7, none⟩)), (86, .agg (bx_T_Image x2.Slots.e1.Image A18 c18).toArray), (87, .int .u32 r9), (88, .int .u32 sum), (89, .slice (some ⟨e.1, 0, none⟩) 3 3), (90, .pointer (some ⟨g3, 0, none⟩)), (91, .int .i64 r10.2)]) (fun e => .res (Box e.2.1 30 (bx_T_Image r5.2 A11 c11)) :: .ro (SlL eu8 e.2.2.1 e.2.2.2.1 r10.1.L) :: .res (Box g3 63 [.slice e.2.2.1 r10.1.L.length e.2.2.2.1, .int .i64 r10.1.At]) :: .res (Box e.1 23 [.int .u32 r8, .int .u32 r9, .int .u32 sum]) :: .ro (SlL eu8 e.2.2.2.2.1 e.2.2.2.2.2 r7.1.L) :: .res (Box g9 35 (bx_T_Device x2 A17 c17 A18 c18)) :: .ro (SlL eu8 A17 c17 x2.Slots.e0.Image.Data) :: .ro (SlL eu8 A18 c18 x2.Slots.e1.Image.Data) :: .ro (SlL eu8 A15 c15 s1.2.1) :: .ro (Sl (codL l_T_Device) (some ⟨g8, 0, none⟩) ([r4.2, r6.2, raw] : List T_Device).length ([r4.2, r6.2, raw])) :: .res (Box g7 30 (bx_T_Image r5.2 A11 c11)) :: .ro (SlL eu8 A11 c11 r5.2.Data) :: .res (Box g2 30 (bx_T_Image i_p2 A4 c4)) :: .ro (SlL eu8 A4 c4 i_p2.Data) :: R) (fun hnd1_4 => ?mnd1_4) ?tnd1_4
                    case mnd1_4 =>
                      refine St.share (Y := ?Ynd1_5) (fun (e : Nat × Nat × Option Addr × Nat × Option Addr × Nat) => [(3, .int .i64 n_p3), (4, .int .u32 sum), (7, .pointer (some ⟨g2, 0, none⟩)), (11, .pointer (some ⟨g3, 0, none⟩)), (13, .pointer (some ⟨g7, 0, none⟩)), (15, .pointer (some ⟨g9, 0, none⟩)), (16, .pointer (some ⟨e.2.1, 0, none⟩)), (65, .slice (some ⟨g8, 0, none⟩) ([r4.2, r6.2, raw]).length ([r4.2, r6.2, raw] : List T_Device).length), (66, .int .i64 ((3 : Nat) : Int)), (67, .int .i64 s1.1), (71, .agg (bx_T_Image r5.2 A11 c11).toArray), (72, .pointer (some ⟨g3, 0, none⟩)), (73, .pointer (some ⟨g7, 4, none⟩)), (74, .slice A11 r5.2.Data.length c11), (75, .int .i64 (r5.2.Data.length : Int)), (76, .int .i64 (IntKind.wrap .i64 ((r5.2.Data.length : Int) + 2))), (77, .int .i64 r7.2), (78, .pointer (some ⟨g9, 1, none⟩)), (79, .pointer (some ⟨g9, 1, none⟩)), (80, .pointer (some ⟨g9, 1, none⟩)), (81, .agg (bx_T_Image x2.Slots.e0.Image A17 c17).toArray), (82, .int .u32 r8), (83, .pointer (some ⟨g9, 1, none⟩)), (84, .pointer (some ⟨g9, 7, none⟩)), (85, .pointer (some ⟨g9, 7, none⟩)), (86, .agg (bx_T_Image x2.Slots.e1.Image A18 c18).toArray), (87, .int .u32 r9), (88, .int .u32 sum), (89, .slice (some ⟨e.1, 0, none⟩) 3 3), (90, .pointer (some ⟨g3, 0, none⟩)), (91, .int .i64 r10.2)]) (fun e => .res (Box e.2.1 30 [.string (⟨#[]⟩), .int .i64 0, .int .i64 0, .int .i64 0, .slice none 0 0]) :: .ro (SlL eu8 e.2.2.1 e.2.2.2.1 r10.1.L) :: .res (Box g3 63 [.slice e.2.2.1 r10.1.L.length e.2.2.2.1, .int .i64 r10.1.At]) :: .res (Box e.1 23 [.int .u32 r8, .int .u32 r9, .int .u32 sum]) :: .ro (SlL eu8 e.2.2.2.2.1 e.2.2.2.2.2 r7.1.L) :: .res (Box g9 35 (bx_T_Device x2 A17 c17 A18 c18)) :: .ro (SlL eu8 A17 c17 x2.Slots.e0.Image.Data) :: .ro (SlL eu8 A18 c18 x2.Slots.e1.Image.Data) :: .ro (SlL eu8 A15 c15 s1.2.1) :: .ro (Sl (codL l_T_Device) (some ⟨g8, 0, none⟩) ([r4.2, r6.2, raw] : List T_Device).length ([r4.2, r6.2, raw])) :: .res (Box g7 30 (bx_T_Image r5.2 A11 c11)) :: .ro (SlL eu8 A11 c11 r5.2.Data) :: .res (Box g2 30 (bx_T_Image i_p2 A4 c4)) :: .ro (SlL eu8 A4 c4 i_p2.Data) :: R) (fun hnd1_5 => ?mnd1_5) ?tnd1_5
                      case mnd1_5 =>
                        refine St.share (Y := ?Ynd1_6) (fun (e : Nat × Option Addr × Nat × Option Addr × Nat) => [(3, .int .i64 n_p3), (4, .int .u32 sum), (7, .pointer (some ⟨g2, 0, none⟩)), (11, .pointer (some ⟨g3, 0, none⟩)), (13, .pointer (some ⟨g7, 0, none⟩)), (15, .pointer (some ⟨g9, 0, none⟩)), (65, .slice (some ⟨g8, 0, none⟩) ([r4.2, r6.2, raw]).length ([r4.2, r6.2, raw] : List T_Device).length), (66, .int .i64 ((3 : Nat) : Int)), (67, .int .i64 s1.1), (71, .agg (bx_T_Image r5.2 A11 c11).toArray), (72, .pointer (some ⟨g3, 0, none⟩)), (73, .pointer (some ⟨g7, 4, none⟩)), (74, .slice A11 r5.2.Data.length c11), (75, .int .i64 (r5.2.Data.length : Int)), (76, .int .i64 (IntKind.wrap .i64 ((r5.2.Data.length : Int) + 2))), (77, .int .i64 r7.2), (78, .pointer (some ⟨g9, 1, none⟩)), (79, .pointer (some ⟨g9, 1, none⟩)), (80, .pointer (some ⟨g9, 1, none⟩)), (81, .agg (bx_T_Image x2.Slots.e0.Image A17 c17).toArray), (82, .int .u32 r8), (83, .pointer (some ⟨g9, 1, none⟩)), (84, .pointer (some ⟨g9, 7, none⟩)), (85, .pointer (some ⟨g9, 7, none⟩)), (86, .agg (bx_T_Image x2.Slots.e1.Image A18 c18).toArray), (87, .int .u32 r9), (88, .int .u32 sum), (89, .slice (some ⟨e.1, 0, none⟩) 3 3), (90, .pointer (some ⟨g3, 0, none⟩)), (91, .int .i64 r10.2)]) (fun e => .ro (SlL eu8 e.2.1 e.2.2.1 r10.1.L) :: .res (Box g3 63 [.slice e.2.1 r10.1.L.length e.2.2.1, .int .i64 r10.1.At]) :: .res (Box e.1 23 [.int .u32 r8, .int .u32 r9, .int .u32 sum]) :: .ro (SlL eu8 e.2.2.2.1 e.2.2.2.2 r7.1.L) :: .res (Box g9 35 (bx_T_Device x2 A17 c17 A18 c18)) :: .ro (SlL eu8 A17 c17 x2.Slots.e0.Image.Data) :: .ro (SlL eu8 A18 c18 x2.Slots.e1.Image.Data) :: .ro (SlL eu8 A15 c15 s1.2.1) :: .ro (Sl (codL l_T_Device) (some ⟨g8, 0, none⟩) ([r4.2, r6.2, raw] : List T_Device).length ([r4.2, r6.2, raw])) :: .res (Box g7 30 (bx_T_Image r5.2 A11 c11)) :: .ro (SlL eu8 A11 c11 r5.2.Data) :: .res (Box g2 30 (bx_T_Image i_p2 A4 c4)) :: .ro (SlL eu8 A4 c4 i_p2.Data) :: R) (fun hnd1_6 => ?mnd1_6) ?tnd1_6
                        case mnd1_6 =>
                          refine St.share (Y := ?Ynd1_7) (fun (e : Nat × Nat × Option Addr × Nat) => [(3, .int .i64 n_p3), (4, .int .u32 sum), (7, .pointer (some ⟨g2, 0, none⟩)), (11, .pointer (some ⟨g3, 0, none⟩)), (13, .pointer (some ⟨g7, 0, none⟩)), (15, .pointer (some ⟨g9, 0, none⟩)), (16, .pointer (some ⟨e.2.1, 0, none⟩)), (65, .slice (some ⟨g8, 0, none⟩) ([r4.2, r6.2, raw]).length ([r4.2, r6.2, raw] : List T_Device).length), (66, .int .i64 ((3 : Nat) : Int)), (67, .int .i64 s1.1), (71, .agg (bx_T_Image r5.2 A11 c11).toArray), (72, .pointer (some ⟨g3, 0, none⟩)), (73, .pointer (some ⟨g7, 4, none⟩)), (74, .slice A11 r5.2.Data.length c11), (75, .int .i64 (r5.2.Data.length : Int)), (76, .int .i64 (IntKind.wrap .i64 ((r5.2.Data.length : Int) + 2))), (77, .int .i64 r7.2), (78, .pointer (some ⟨g9, 1, none⟩)), (79, .pointer (some ⟨g9, 1, none⟩)), (80, .pointer (some ⟨g9, 1, none⟩)), (81, .agg (bx_T_Image x2.Slots.e0.Image A17 c17).toArray), (82, .int .u32 r8), (83, .pointer (some ⟨g9, 1, none⟩)), (84, .pointer (some ⟨g9, 7, none⟩)), (85, .pointer (some ⟨g9, 7, none⟩)), (86, .agg (bx_T_Image x2.Slots.e1.Image A18 c18).toArray), (87, .int .u32 r9), (88, .int .u32 sum), (89, .slice (some ⟨e.1, 0, none⟩) 3 3), (90, .pointer (some ⟨g3, 0, none⟩))]) (fun e => .res (Box e.2.1 30 [.string (⟨#[]⟩), .int .i64 0, .int .i64 0, .int .i64 0, .slice none 0 0]) :: .res (Box e.1 23 [.int .u32 r8, .int .u32 r9, .int .u32 sum]) :: .ro (SlL eu8 e.2.2.1 e.2.2.2 r7.1.L) :: .res (Box g3 63 [.slice e.2.2.1 r7.1.L.length e.2.2.2, .int .i64 r7.1.At]) :: .res (Box g9 35 (bx_T_Device x2 A17 c17 A18 c18)) :: .ro (SlL eu8 A17 c17 x2.Slots.e0.Image.Data) :: .ro (SlL eu8 A18 c18 x2.Slots.e1.Image.Data) :: .ro (SlL eu8 A15 c15 s1.2.1) :: .ro (Sl (codL l_T_Device) (some ⟨g8, 0, none⟩) ([r4.2, r6.2, raw] : List T_Device).length ([r4.2, r6.2, raw])) :: .res (Box g7 30 (bx_T_Image r5.2 A11 c11)) :: .ro (SlL eu8 A11 c11 r5.2.Data) :: .res (Box g2 30 (bx_T_Image i_p2 A4 c4)) :: .ro (SlL eu8 A4 c4 i_p2.Data) :: R) (fun hnd1_7 => ?mnd1_7) ?tnd1_7
                          case mnd1_7 =>
                            refine St.share (Y := ?Ynd1_8) (fun (e : Nat × Option Addr × Nat × Option Addr × Nat) => [(3, .int .i64 n_p3), (4, .int .u32 sum), (7, .pointer (some ⟨g2, 0, none⟩)), (11, .pointer (some ⟨g3, 0, none⟩)), (13, .pointer (some ⟨g7, 0, none⟩)), (15, .pointer (some ⟨g9, 0, none⟩)), (16, .pointer (some ⟨e.1, 0, none⟩)), (65, .slice (some ⟨g8, 0, none⟩) ([r4.2, r6.2, raw]).length ([r4.2, r6.2, raw] : List T_Device).length), (66, .int .i64 ((3 : Nat) : Int)), (67, .int .i64 s1.1), (71, .agg (bx_T_Image r5.2 A11 c11).toArray), (72, .pointer (some ⟨g3, 0, none⟩)), (73, .pointer (some ⟨g7, 4, none⟩)), (74, .slice A11 r5.2.Data.length c11), (75, .int .i64 (r5.2.Data.length : Int)), (76, .int .i64 (IntKind.wrap .i64 ((r5.2.Data.length : Int) + 2))), (77, .int .i64 r7.2), (78, .pointer (some ⟨g9, 1, none⟩)), (79, .pointer (some ⟨g9, 1, none⟩)), (80, .pointer (some ⟨g9, 1, none⟩)), (81, .agg (bx_T_Image x2.Slots.e0.Image A17 c17).toArray), (82, .int .u32 r8), (83, .pointer (some ⟨g9, 1, none⟩)), (84, .pointer (some ⟨g9, 7, none⟩)), (85, .pointer (some ⟨g9, 7, none⟩)), (86, .agg (bx_T_Image x2.Slots.e1.Image A18 c18).toArray), (87, .int .u32 r9), (88, .int .u32 sum), (90, .pointer (some ⟨g3, 0, none⟩)), (91, .int .i64 r10.2)]) (fun e => .res (Box e.1 30 [.string (⟨#[]⟩), .int .i64 0, .int .i64 0, .int .i64 0, .slice none 0 0]) :: .ro (SlL eu8 e.2.1 e.2.2.1 r10.1.L) :: .res (Box g3 63 [.slice e.2.1 r10.1.L.length e.2.2.1, .int .i64 r10.1.At]) :: .ro (SlL eu8 e.2.2.2.1 e.2.2.2.2 r7.1.L) :: .res (Box g9 35 (bx_T_Device x2 A17 c17 A18 c18)) :: .ro (SlL eu8 A17 c17 x2.Slots.e0.Image.Data) :: .ro (SlL eu8 A18 c18 x2.Slots.e1.Image.Data) :: .ro (SlL eu8 A15 c15 s1.2.1) :: .ro (Sl (codL l_T_Device) (some ⟨g8, 0, none⟩) ([r4.2, r6.2, raw] : List T_Device).length ([r4.2, r6.2, raw])) :: .res (Box g7 30 (bx_T_Image r5.2 A11 c11)) :: .ro (SlL eu8 A11 c11 r5.2.Data) :: .res (Box g2 30 (bx_T_Image i_p2 A4 c4)) :: .ro (SlL eu8 A4 c4 i_p2.Data) :: R) (fun hnd1_8 => ?mnd1_8) ?tnd1_8
                            case mnd1_8 =>
                              refine St.share (Y := ?Ynd1_9) (fun (e : Nat × Option Addr × Nat) => [(3, .int .i64 n_p3), (4, .int .u32 sum), (7, .pointer (some ⟨g2, 0, none⟩)), (11, .pointer (some ⟨g3, 0, none⟩)), (13, .pointer (some ⟨g7, 0, none⟩)), (15, .pointer (some ⟨g9, 0, none⟩)), (16, .pointer (some ⟨e.1, 0, none⟩)), (65, .slice (some ⟨g8, 0, none⟩) ([r4.2, r6.2, raw]).length ([r4.2, r6.2, raw] : List T_Device).length), (66, .int .i64 ((3 : Nat) : Int)), (67, .int .i64 s1.1), (71, .agg (bx_T_Image r5.2 A11 c11).toArray), (72, .pointer (some ⟨g3, 0, none⟩)), (73, .pointer (some ⟨g7, 4, none⟩)), (74, .slice A11 r5.2.Data.length c11), (75, .int .i64 (r5.2.Data.length : Int)), (76, .int .i64 (IntKind.wrap .i64 ((r5.2.Data.length : Int) + 2))), (77, .int .i64 r7.2), (78, .pointer (some ⟨g9, 1, none⟩)), (79, .pointer (some ⟨g9, 1, none⟩)), (80, .pointer (some ⟨g9, 1, none⟩)), (81, .agg (bx_T_Image x2.Slots.e0.Image A17 c17).toArray), (82, .int .u32 r8), (83, .pointer (some ⟨g9, 1, none⟩)), (84, .pointer (some ⟨g9, 7, none⟩)), (85, .pointer (some ⟨g9, 7, none⟩)), (86, .agg (bx_T_Image x2.Slots.e1.Image A18 c18).toArray), (87, .int .u32 r9), (88, .int .u32 sum), (90, .pointer (some ⟨g3, 0, none⟩))]) (fun e => .res (Box e.1 30 [.string (⟨#[]⟩), .int .i64 0, .int .i64 0, .int .i64 0, .slice none 0 0]) :: .ro (SlL eu8 e.2.1 e.2.2 r7.1.L) :: .res (Box g3 63 [.slice e.2.1 r7.1.L.length e.2.2, .int .i64 r7.1.At]) :: .res (Box g9 35 (bx_T_Device x2 A17 c17 A18 c18)) :: .ro (SlL eu8 A17 c17 x2.Slots.e0.Image.Data) :: .ro (SlL eu8 A18 c18 x2.Slots.e1.Image.Data) :: .ro (SlL eu8 A15 c15 s1.2.1) :: .ro (Sl (codL l_T_Device) (some ⟨g8, 0, none⟩) ([r4.2, r6.2, raw] : List T_Device).length ([r4.2, r6.2, raw])) :: .res (Box g7 30 (bx_T_Image r5.2 A11 c11)) :: .ro (SlL eu8 A11 c11 r5.2.Data) :: .res (Box g2 30 (bx_T_Image i_p2 A4 c4)) :: .ro (SlL eu8 A4 c4 i_p2.Data) :: R) (fun hnd1_9 => ?mnd1_9) ?tnd1_9
                              case mnd1_9 =>
                                refine St.xfl (fun _ h => h) (Rd.loadB 0 rfl (.tail _ (.tail _ (.tail _ (.tail _ (.tail _ (.head _)))))) rfl rfl) rfl ?_
                                refine St.xfl (fun _ h => h) (Rd.p rfl) rfl ?_
                                refine St.xfl (fun _ h => h) (Rd.p rfl) rfl ?_
                                refine St.xfl (fun _ h => h) (Rd.loadB 4 rfl (.tail _ (.tail _ (.tail _ (.tail _ (.tail _ (.head _)))))) rfl rfl) rfl ?_
                                refine St.xfl (fun _ h => h) (Rd.p rfl) rfl ?_
                                refine St.xfl (fun _ h => h) (Rd.p rfl) rfl ?_
                                refine St.xfl (fun _ h => h) (Rd.p rfl) rfl ?_
                                refine St.xfl (fun _ h => h) (Rd.p rfl) rfl ?_
                                refine St.xfl (fun _ h => h) (Rd.p rfl) rfl ?_
                                refine St.xfl (fun _ h => h) (Rd.loadB 1 rfl (.head _) rfl rfl) rfl ?_
                                refine St.xfl (fun _ h => h) (Rd.p rfl) rfl ?_
                                refine St.xfl (fun _ h => h) (Rd.p rfl) rfl ?_
                                refine St.xfl (fun _ h => h) (Rd.p rfl) rfl ?_
                                refine St.xfl (fun _ h => h) (Rd.loadB 7 rfl (.head _) rfl rfl) rfl ?_
                                refine St.xfl (fun _ h => h) (Rd.p rfl) rfl ?_
                                refine St.xfl (fun _ h => h) (Rd.p rfl) rfl ?_
                                refine St.xalt ?_ ?_
                                · refine St.xef ?_
                                  refine St.call (c_field_Codes_Next hr7) ent23 rfl rfl rfl (fun _ w => Sat.dup (G := [.ro (SlL eu8 A15 c15 s1.2.1)]) rfl ⟨(.tail _ (.tail _ (.tail _ (.tail _ (.head _))))), trivial⟩ (w.front (.s (.s (.s (.s (.s .z))))))) ?_
                                  rintro _ _ ⟨A19, c19, rfl, rfl⟩
                                  refine St.asrt (F' := .ro (SlL eu8 A19 c19 r7.1.L) :: .res (Box g3 63 [.slice A19 r7.1.L.length c19, .int .i64 r7.1.At]) :: .res (Box g9 35 (bx_T_Device x2 A17 c17 A18 c18)) :: .ro (SlL eu8 A17 c17 x2.Slots.e0.Image.Data) :: .ro (SlL eu8 A18 c18 x2.Slots.e1.Image.Data) :: .ro (SlL eu8 A15 c15 s1.2.1) :: .ro (Sl (codL l_T_Device) (some ⟨g8, 0, none⟩) ([r4.2, r6.2, raw] : List T_Device).length ([r4.2, r6.2, raw])) :: .res (Box g7 30 (bx_T_Image r5.2 A11 c11)) :: .ro (SlL eu8 A11 c11 r5.2.Data) :: .res (Box g2 30 (bx_T_Image i_p2 A4 c4)) :: .ro (SlL eu8 A4 c4 i_p2.Data) :: R) (fun _ w => w) ?_
                                  refine St.xk (fun _ w => ((.d (.d (.k (.k (.k (.k (.k (.k (.k (.k (.k .z))))))))))) : Keep _ _).sat w) ?_
                                  refine St.xqc (fun _ h => h) (c_ref28_Sum hr8) ent28 rfl rfl rfl rfl ⟨(.tail _ (.head _)), trivial⟩ ?_
                                  refine St.xqc (fun _ h => h) (c_ref28_Sum hr9) ent28 rfl rfl rfl rfl ⟨(.tail _ (.tail _ (.head _))), trivial⟩ ?_
                                  refine St.xalt ?_ ?_
                                  · refine St.xef ?_
                                    refine St.buildSlice rfl rfl rfl rfl rfl rfl rfl rfl fun g10 => ?_
                                    refine St.xk (fun _ w => ((.d (.d (.d (.k (.k (.k (.k (.k (.k (.k (.k (.k .z)))))))))))) : Keep _ _).sat w) ?_
                                    refine St.xalt ?_ ?_
                                    · refine St.xef ?_
                                      refine St.call (c_field_Codes_Next hr10) ent23 rfl rfl rfl (fun _ w => Sat.dup (G := [.ro (SlL eu8 A19 c19 r7.1.L)]) rfl ⟨(.tail _ (.tail _ (.head _))), trivial⟩ (w.front (.s (.s .z)))) ?_
                                      rintro _ _ ⟨A20, c20, rfl, rfl⟩
                                      refine St.asrt (F' := .ro (SlL eu8 A20 c20 r10.1.L) :: .res (Box g3 63 [.slice A20 r10.1.L.length c20, .int .i64 r10.1.At]) :: .res (Box g10 23 [.int .u32 r8, .int .u32 r9, .int .u32 sum]) :: .ro (SlL eu8 A19 c19 r7.1.L) :: .res (Box g9 35 (bx_T_Device x2 A17 c17 A18 c18)) :: .ro (SlL eu8 A17 c17 x2.Slots.e0.Image.Data) :: .ro (SlL eu8 A18 c18 x2.Slots.e1.Image.Data) :: .ro (SlL eu8 A15 c15 s1.2.1) :: .ro (Sl (codL l_T_Device) (some ⟨g8, 0, none⟩) ([r4.2, r6.2, raw] : List T_Device).length ([r4.2, r6.2, raw])) :: .res (Box g7 30 (bx_T_Image r5.2 A11 c11)) :: .ro (SlL eu8 A11 c11 r5.2.Data) :: .res (Box g2 30 (bx_T_Image i_p2 A4 c4)) :: .ro (SlL eu8 A4 c4 i_p2.Data) :: R) (fun _ w => w) ?_
                                      refine St.xk (fun _ w => ((.d (.d (.d (.d (.k (.k (.k (.k (.k (.k (.k (.k (.k .z))))))))))))) : Keep _ _).sat w) ?_
                                      refine hnd1_6 _ _ (g10, A20, c20, A19, c19) ?_ ?_
                                      · exact ⟨rfl, rfl, rfl, rfl, rfl, rfl, rfl, rfl, rfl, rfl, rfl, rfl, rfl, rfl, rfl, rfl, rfl, rfl, rfl, rfl, rfl, rfl, rfl, rfl, rfl, rfl, rfl, rfl, rfl, rfl, trivial⟩
                                      · exact fun _ w => ((.k (.k (.k (.k (.k (.k (.k (.k (.k (.k (.k (.k (.k .z))))))))))))) : Keep _ _).sat w
                                    · refine St.xef ?_
                                      refine St.alloc rfl rfl fun g12 => ?_
                                      refine St.xk (fun _ w => ((.d (.d (.d (.d (.k (.k (.k (.k (.k (.k (.k (.k (.k .z))))))))))))) : Keep _ _).sat w) ?_
                                      refine hnd1_7 _ _ (g10, g12, A19, c19) ?_ ?_
                                      · exact ⟨rfl, rfl, rfl, rfl, rfl, rfl, rfl, rfl, rfl, rfl, rfl, rfl, rfl, rfl, rfl, rfl, rfl, rfl, rfl, rfl, rfl, rfl, rfl, rfl, rfl, rfl, rfl, rfl, rfl, rfl, trivial⟩
                                      · exact fun _ w => ((.k (.k (.k (.k (.k (.k (.k (.k (.k (.k (.k (.k (.k .z))))))))))))) : Keep _ _).sat w
                                  · refine St.xalt ?_ ?_
                                    · refine St.xef ?_
                                      refine St.call (c_field_Codes_Next hr10) ent23 rfl rfl rfl (fun _ w => Sat.dup (G := [.ro (SlL eu8 A19 c19 r7.1.L)]) rfl ⟨(.tail _ (.head _)), trivial⟩ (w.front (.s .z))) ?_
                                      rintro _ _ ⟨A20, c20, rfl, rfl⟩
                                      refine St.asrt (F' := .ro (SlL eu8 A20 c20 r10.1.L) :: .res (Box g3 63 [.slice A20 r10.1.L.length c20, .int .i64 r10.1.At]) :: .ro (SlL eu8 A19 c19 r7.1.L) :: .res (Box g9 35 (bx_T_Device x2 A17 c17 A18 c18)) :: .ro (SlL eu8 A17 c17 x2.Slots.e0.Image.Data) :: .ro (SlL eu8 A18 c18 x2.Slots.e1.Image.Data) :: .ro (SlL eu8 A15 c15 s1.2.1) :: .ro (Sl (codL l_T_Device) (some ⟨g8, 0, none⟩) ([r4.2, r6.2, raw] : List T_Device).length ([r4.2, r6.2, raw])) :: .res (Box g7 30 (bx_T_Image r5.2 A11 c11)) :: .ro (SlL eu8 A11 c11 r5.2.Data) :: .res (Box g2 30 (bx_T_Image i_p2 A4 c4)) :: .ro (SlL eu8 A4 c4 i_p2.Data) :: R) (fun _ w => w) ?_
                                      refine St.xk (fun _ w => ((.d (.d (.d (.k (.k (.k (.k (.k (.k (.k (.k (.k .z)))))))))))) : Keep _ _).sat w) ?_
                                      refine St.xalt ?_ ?_
                                      · refine St.xef ?_
                                        refine St.buildSlice rfl rfl rfl rfl rfl rfl rfl rfl fun g10 => ?_
                                        refine St.xk (fun _ w => ((.d (.d (.d (.d (.k (.k (.k (.k (.k (.k (.k (.k (.k .z))))))))))))) : Keep _ _).sat w) ?_
                                        refine hnd1_6 _ _ (g10, A20, c20, A19, c19) ?_ ?_
                                        · exact ⟨rfl, rfl, rfl, rfl, rfl, rfl, rfl, rfl, rfl, rfl, rfl, rfl, rfl, rfl, rfl, rfl, rfl, rfl, rfl, rfl, rfl, rfl, rfl, rfl, rfl, rfl, rfl, rfl, rfl, rfl, trivial⟩
                                        · exact fun _ w => ((.k (.k (.k (.k (.k (.k (.k (.k (.k (.k (.k (.k (.k .z))))))))))))) : Keep _ _).sat (((((((((((((w.front (.s (.s (.s (.s (.s (.s (.s (.s (.s (.s (.s (.s .z))))))))))))).front (.s (.s (.s (.s (.s (.s (.s (.s (.s (.s (.s (.s .z))))))))))))).front (.s (.s (.s (.s (.s (.s (.s (.s (.s (.s (.s (.s .z))))))))))))).front (.s (.s (.s (.s (.s (.s (.s (.s (.s (.s (.s (.s .z))))))))))))).front (.s (.s (.s (.s (.s (.s (.s (.s (.s (.s (.s (.s .z))))))))))))).front (.s (.s (.s (.s (.s (.s (.s (.s (.s (.s (.s (.s .z))))))))))))).front (.s (.s (.s (.s (.s (.s (.s (.s (.s (.s (.s (.s .z))))))))))))).front (.s (.s (.s (.s (.s (.s (.s (.s (.s (.s (.s (.s .z))))))))))))).front (.s (.s (.s (.s (.s (.s (.s (.s (.s (.s (.s (.s .z))))))))))))).front (.s (.s (.s (.s (.s (.s (.s (.s (.s (.s (.s (.s .z))))))))))))).front (.s (.s (.s (.s (.s (.s (.s (.s (.s (.s .z))))))))))).front (.s (.s (.s (.s (.s (.s (.s (.s (.s (.s (.s (.s .z))))))))))))).front (.s (.s (.s (.s (.s (.s (.s (.s (.s (.s (.s (.s .z)))))))))))))
                                      · refine St.xef ?_
                                        refine St.alloc rfl rfl fun g12 => ?_
                                        refine St.xk (fun _ w => ((.d (.d (.d (.d (.k (.k (.k (.k (.k (.k (.k (.k (.k .z))))))))))))) : Keep _ _).sat w) ?_
                                        refine hnd1_8 _ _ (g12, A20, c20, A19, c19) ?_ ?_
                                        · exact ⟨rfl, rfl, rfl, rfl, rfl, rfl, rfl, rfl, rfl, rfl, rfl, rfl, rfl, rfl, rfl, rfl, rfl, rfl, rfl, rfl, rfl, rfl, rfl, rfl, rfl, rfl, rfl, rfl, rfl, rfl, trivial⟩
                                        · exact fun _ w => ((.k (.k (.k (.k (.k (.k (.k (.k (.k (.k (.k (.k (.k .z))))))))))))) : Keep _ _).sat w
                                    · refine St.xef ?_
                                      refine St.alloc rfl rfl fun g12 => ?_
                                      refine St.xk (fun _ w => ((.d (.d (.d (.k (.k (.k (.k (.k (.k (.k (.k (.k .z)))))))))))) : Keep _ _).sat w) ?_
                                      refine hnd1_9 _ _ (g12, A19, c19) ?_ ?_
                                      · exact ⟨rfl, rfl, rfl, rfl, rfl, rfl, rfl, rfl, rfl, rfl, rfl, rfl, rfl, rfl, rfl, rfl, rfl, rfl, rfl, rfl, rfl, rfl, rfl, rfl, rfl, rfl, rfl, rfl, rfl, trivial⟩
                                      · exact fun _ w => ((.k (.k (.k (.k (.k (.k (.k (.k (.k (.k (.k (.k .z)))))))))))) : Keep _ _).sat w
                                · refine St.xef ?_
                                  refine St.alloc rfl rfl fun g12 => ?_
                                  refine St.xk (fun _ w => ((.d (.k (.k (.k (.k (.k (.d (.k (.k (.k (.k .z))))))))))) : Keep _ _).sat w) ?_
                                  refine St.xef ?_
                                  refine St.call (c_field_Codes_Next hr7) ent23 rfl rfl rfl (fun _ w => Sat.dup (G := [.ro (SlL eu8 A15 c15 s1.2.1)]) rfl ⟨(.tail _ (.tail _ (.tail _ (.tail _ (.tail _ (.head _)))))), trivial⟩ (w.front (.s (.s (.s (.s (.s (.s .z)))))))) ?_
                                  rintro _ _ ⟨A19, c19, rfl, rfl⟩
                                  refine St.asrt (F' := .ro (SlL eu8 A19 c19 r7.1.L) :: .res (Box g3 63 [.slice A19 r7.1.L.length c19, .int .i64 r7.1.At]) :: .res (Box g12 30 [.string (⟨#[]⟩), .int .i64 0, .int .i64 0, .int .i64 0, .slice none 0 0]) :: .res (Box g9 35 (bx_T_Device x2 A17 c17 A18 c18)) :: .ro (SlL eu8 A17 c17 x2.Slots.e0.Image.Data) :: .ro (SlL eu8 A18 c18 x2.Slots.e1.Image.Data) :: .ro (SlL eu8 A15 c15 s1.2.1) :: .ro (Sl (codL l_T_Device) (some ⟨g8, 0, none⟩) ([r4.2, r6.2, raw] : List T_Device).length ([r4.2, r6.2, raw])) :: .res (Box g7 30 (bx_T_Image r5.2 A11 c11)) :: .ro (SlL eu8 A11 c11 r5.2.Data) :: .res (Box g2 30 (bx_T_Image i_p2 A4 c4)) :: .ro (SlL eu8 A4 c4 i_p2.Data) :: R) (fun _ w => w) ?_
                                  refine St.xk (fun _ w => ((.d (.d (.d (.k (.k (.k (.k (.k (.k (.k (.k (.k .z)))))))))))) : Keep _ _).sat w) ?_
                                  refine St.xqc (fun _ h => h) (c_ref28_Sum hr8) ent28 rfl rfl rfl rfl ⟨(.tail _ (.head _)), trivial⟩ ?_
                                  refine St.xqc (fun _ h => h) (c_ref28_Sum hr9) ent28 rfl rfl rfl rfl ⟨(.tail _ (.tail _ (.head _))), trivial⟩ ?_
                                  refine hnd1_9 _ _ (g12, A19, c19) ?_ ?_
                                  · exact ⟨rfl, rfl, rfl, rfl, rfl, rfl, rfl, rfl, rfl, rfl, rfl, rfl, rfl, rfl, rfl, rfl, rfl, rfl, rfl, rfl, rfl, rfl, rfl, rfl, rfl, rfl, rfl, rfl, rfl, trivial⟩
                                  · exact fun _ w => ((.k (.k (.k (.k (.k (.k (.k (.k (.k (.k (.k (.k .z)))))))))))) : Keep _ _).sat ((((((((((((w.front (.s (.s (.s (.s (.s (.s (.s (.s (.s (.s (.s .z)))))))))))).front (.s (.s (.s (.s (.s (.s (.s (.s (.s (.s (.s .z)))))))))))).front (.s (.s (.s (.s (.s (.s (.s (.s (.s (.s (.s .z)))))))))))).front (.s (.s (.s (.s (.s (.s (.s (.s (.s (.s (.s .z)))))))))))).front (.s (.s (.s (.s (.s (.s (.s (.s (.s (.s (.s .z)))))))))))).front (.s (.s (.s (.s (.s (.s (.s (.s (.s (.s (.s .z)))))))))))).front (.s (.s (.s (.s (.s (.s (.s (.s (.s (.s (.s .z)))))))))))).front (.s (.s (.s (.s (.s (.s (.s (.s (.s (.s (.s .z)))))))))))).front (.s (.s (.s (.s (.s (.s (.s (.s (.s (.s (.s .z)))))))))))).front (.s (.s (.s (.s (.s (.s (.s (.s (.s (.s .z))))))))))).front (.s (.s (.s (.s (.s (.s (.s (.s (.s (.s .z))))))))))).front (.s (.s (.s (.s (.s (.s (.s (.s (.s (.s (.s .z))))))))))))
                              case tnd1_9 =>
                                rintro ⟨g12, A19, c19⟩
                                refine St.asrt (F' := .res (Box g12 30 [.string (⟨#[]⟩), .int .i64 0, .int .i64 0, .int .i64 0, .slice none 0 0]) :: .ro (SlL eu8 A19 c19 r7.1.L) :: .res (Box g3 63 [.slice A19 r7.1.L.length c19, .int .i64 r7.1.At]) :: .res (Box g9 35 (bx_T_Device x2 A17 c17 A18 c18)) :: .ro (SlL eu8 A17 c17 x2.Slots.e0.Image.Data) :: .ro (SlL eu8 A18 c18 x2.Slots.e1.Image.Data) :: .ro (SlL eu8 A15 c15 s1.2.1) :: .ro (Sl (codL l_T_Device) (some ⟨g8, 0, none⟩) ([r4.2, r6.2, raw] : List T_Device).length ([r4.2, r6.2, raw])) :: .res (Box g7 30 (bx_T_Image r5.2 A11 c11)) :: .ro (SlL eu8 A11 c11 r5.2.Data) :: .res (Box g2 30 (bx_T_Image i_p2 A4 c4)) :: .ro (SlL eu8 A4 c4 i_p2.Data) :: R) (fun _ w => w) ?_
                                refine St.xalt ?_ ?_
                                · refine St.xef ?_
                                  refine St.buildSlice rfl rfl rfl rfl rfl rfl rfl rfl fun g10 => ?_
                                  refine St.xk (fun _ w => ((.d (.d (.d (.d (.k (.k (.k (.k (.k (.k (.k (.k (.k .z))))))))))))) : Keep _ _).sat w) ?_
                                  refine hnd1_7 _ _ (g10, g12, A19, c19) ?_ ?_
                                  · exact ⟨rfl, rfl, rfl, rfl, rfl, rfl, rfl, rfl, rfl, rfl, rfl, rfl, rfl, rfl, rfl, rfl, rfl, rfl, rfl, rfl, rfl, rfl, rfl, rfl, rfl, rfl, rfl, rfl, rfl, rfl, trivial⟩
                                  · exact fun _ w => ((.k (.k (.k (.k (.k (.k (.k (.k (.k (.k (.k (.k (.k .z))))))))))))) : Keep _ _).sat (((((((((((((w.front (.s (.s (.s (.s (.s (.s (.s (.s (.s (.s (.s (.s .z))))))))))))).front (.s (.s (.s (.s (.s (.s (.s (.s (.s (.s (.s (.s .z))))))))))))).front (.s (.s (.s (.s (.s (.s (.s (.s (.s (.s (.s (.s .z))))))))))))).front (.s (.s (.s (.s (.s (.s (.s (.s (.s (.s (.s (.s .z))))))))))))).front (.s (.s (.s (.s (.s (.s (.s (.s (.s (.s (.s (.s .z))))))))))))).front (.s (.s (.s (.s (.s (.s (.s (.s (.s (.s (.s (.s .z))))))))))))).front (.s (.s (.s (.s (.s (.s (.s (.s (.s (.s (.s (.s .z))))))))))))).front (.s (.s (.s (.s (.s (.s (.s (.s (.s (.s (.s (.s .z))))))))))))).front (.s (.s (.s (.s (.s (.s (.s (.s (.s (.s (.s (.s .z))))))))))))).front (.s (.s (.s (.s (.s (.s (.s (.s (.s (.s (.s (.s .z))))))))))))).front (.s (.s (.s (.s (.s (.s (.s (.s (.s (.s (.s (.s .z))))))))))))).front (.s (.s (.s (.s (.s (.s (.s (.s (.s (.s (.s .z)))))))))))).front (.s (.s (.s (.s (.s (.s (.s (.s (.s (.s (.s (.s .z)))))))))))))
                                · refine St.xef ?_
                                  refine St.call (c_field_Codes_Next hr10) ent23 rfl rfl rfl (fun _ w => Sat.dup (G := [.ro (SlL eu8 A19 c19 r7.1.L)]) rfl ⟨(.tail _ (.tail _ (.head _))), trivial⟩ (w.front (.s (.s .z)))) ?_
                                  rintro _ _ ⟨A20, c20, rfl, rfl⟩
                                  refine St.asrt (F' := .ro (SlL eu8 A20 c20 r10.1.L) :: .res (Box g3 63 [.slice A20 r10.1.L.length c20, .int .i64 r10.1.At]) :: .res (Box g12 30 [.string (⟨#[]⟩), .int .i64 0, .int .i64 0, .int .i64 0, .slice none 0 0]) :: .ro (SlL eu8 A19 c19 r7.1.L) :: .res (Box g9 35 (bx_T_Device x2 A17 c17 A18 c18)) :: .ro (SlL eu8 A17 c17 x2.Slots.e0.Image.Data) :: .ro (SlL eu8 A18 c18 x2.Slots.e1.Image.Data) :: .ro (SlL eu8 A15 c15 s1.2.1) :: .ro (Sl (codL l_T_Device) (some ⟨g8, 0, none⟩) ([r4.2, r6.2, raw] : List T_Device).length ([r4.2, r6.2, raw])) :: .res (Box g7 30 (bx_T_Image r5.2 A11 c11)) :: .ro (SlL eu8 A11 c11 r5.2.Data) :: .res (Box g2 30 (bx_T_Image i_p2 A4 c4)) :: .ro (SlL eu8 A4 c4 i_p2.Data) :: R) (fun _ w => w) ?_
                                  refine St.xk (fun _ w => ((.d (.d (.d (.d (.k (.k (.k (.k (.k (.k (.k (.k (.k .z))))))))))))) : Keep _ _).sat w) ?_
                                  refine hnd1_8 _ _ (g12, A20, c20, A19, c19) ?_ ?_
                                  · exact ⟨rfl, rfl, rfl, rfl, rfl, rfl, rfl, rfl, rfl, rfl, rfl, rfl, rfl, rfl, rfl, rfl, rfl, rfl, rfl, rfl, rfl, rfl, rfl, rfl, rfl, rfl, rfl, rfl, rfl, rfl, trivial⟩
                                  · exact fun _ w => ((.k (.k (.k (.k (.k (.k (.k (.k (.k (.k (.k (.k (.k .z))))))))))))) : Keep _ _).sat (((((((((((((w.front (.s (.s (.s (.s (.s (.s (.s (.s (.s (.s (.s (.s .z))))))))))))).front (.s (.s (.s (.s (.s (.s (.s (.s (.s (.s (.s (.s .z))))))))))))).front (.s (.s (.s (.s (.s (.s (.s (.s (.s (.s (.s (.s .z))))))))))))).front (.s (.s (.s (.s (.s (.s (.s (.s (.s (.s (.s (.s .z))))))))))))).front (.s (.s (.s (.s (.s (.s (.s (.s (.s (.s (.s (.s .z))))))))))))).front (.s (.s (.s (.s (.s (.s (.s (.s (.s (.s (.s (.s .z))))))))))))).front (.s (.s (.s (.s (.s (.s (.s (.s (.s (.s (.s (.s .z))))))))))))).front (.s (.s (.s (.s (.s (.s (.s (.s (.s (.s (.s (.s .z))))))))))))).front (.s (.s (.s (.s (.s (.s (.s (.s (.s (.s (.s (.s .z))))))))))))).front (.s (.s (.s (.s (.s (.s (.s (.s (.s (.s (.s (.s .z))))))))))))).front (.s (.s (.s (.s (.s (.s (.s (.s (.s (.s (.s .z)))))))))))).front (.s (.s (.s (.s (.s (.s (.s (.s (.s (.s (.s .z)))))))))))).front (.s (.s (.s (.s (.s (.s (.s (.s (.s (.s (.s (.s .z)))))))))))))
                            case tnd1_8 =>
                              rintro ⟨g12, A20, c20, A19, c19⟩
                              refine St.asrt (F' := .res (Box g12 30 [.string (⟨#[]⟩), .int .i64 0, .int .i64 0, .int .i64 0, .slice none 0 0]) :: .ro (SlL eu8 A20 c20 r10.1.L) :: .res (Box g3 63 [.slice A20 r10.1.L.length c20, .int .i64 r10.1.At]) :: .ro (SlL eu8 A19 c19 r7.1.L) :: .res (Box g9 35 (bx_T_Device x2 A17 c17 A18 c18)) :: .ro (SlL eu8 A17 c17 x2.Slots.e0.Image.Data) :: .ro (SlL eu8 A18 c18 x2.Slots.e1.Image.Data) :: .ro (SlL eu8 A15 c15 s1.2.1) :: .ro (Sl (codL l_T_Device) (some ⟨g8, 0, none⟩) ([r4.2, r6.2, raw] : List T_Device).length ([r4.2, r6.2, raw])) :: .res (Box g7 30 (bx_T_Image r5.2 A11 c11)) :: .ro (SlL eu8 A11 c11 r5.2.Data) :: .res (Box g2 30 (bx_T_Image i_p2 A4 c4)) :: .ro (SlL eu8 A4 c4 i_p2.Data) :: R) (fun _ w => w) ?_
                              refine St.xalt ?_ ?_
                              · refine St.xef ?_
                                refine St.buildSlice rfl rfl rfl rfl rfl rfl rfl rfl fun g10 => ?_
                                refine St.xk (fun _ w => ((.d (.d (.d (.d (.d (.k (.k (.k (.k (.k (.k (.k (.k (.k .z)))))))))))))) : Keep _ _).sat w) ?_
                                refine hnd1_5 _ _ (g10, g12, A20, c20, A19, c19) ?_ ?_
                                · exact ⟨rfl, rfl, rfl, rfl, rfl, rfl, rfl, rfl, rfl, rfl, rfl, rfl, rfl, rfl, rfl, rfl, rfl, rfl, rfl, rfl, rfl, rfl, rfl, rfl, rfl, rfl, rfl, rfl, rfl, rfl, rfl, trivial⟩
                                · exact fun _ w => ((.k (.k (.k (.k (.k (.k (.k (.k (.k (.k (.k (.k (.k (.k .z)))))))))))))) : Keep _ _).sat ((((((((((((((w.front (.s (.s (.s (.s (.s (.s (.s (.s (.s (.s (.s (.s (.s .z)))))))))))))).front (.s (.s (.s (.s (.s (.s (.s (.s (.s (.s (.s (.s (.s .z)))))))))))))).front (.s (.s (.s (.s (.s (.s (.s (.s (.s (.s (.s (.s (.s .z)))))))))))))).front (.s (.s (.s (.s (.s (.s (.s (.s (.s (.s (.s (.s (.s .z)))))))))))))).front (.s (.s (.s (.s (.s (.s (.s (.s (.s (.s (.s (.s (.s .z)))))))))))))).front (.s (.s (.s (.s (.s (.s (.s (.s (.s (.s (.s (.s (.s .z)))))))))))))).front (.s (.s (.s (.s (.s (.s (.s (.s (.s (.s (.s (.s (.s .z)))))))))))))).front (.s (.s (.s (.s (.s (.s (.s (.s (.s (.s (.s (.s (.s .z)))))))))))))).front (.s (.s (.s (.s (.s (.s (.s (.s (.s (.s (.s (.s (.s .z)))))))))))))).front (.s (.s (.s (.s (.s (.s (.s (.s (.s (.s (.s (.s (.s .z)))))))))))))).front (.s (.s (.s (.s (.s (.s (.s (.s (.s (.s .z))))))))))).front (.s (.s (.s (.s (.s (.s (.s (.s (.s (.s (.s (.s (.s .z)))))))))))))).front (.s (.s (.s (.s (.s (.s (.s (.s (.s (.s (.s (.s (.s .z)))))))))))))).front (.s (.s (.s (.s (.s (.s (.s (.s (.s (.s (.s (.s (.s .z))))))))))))))
                              · refine St.xef ?_
                                refine St.store 0 rfl rfl rfl rfl rfl rfl .z rfl ?_
                                refine St.xk (fun _ w => ((.d (.d (.d (.d (.k (.k (.k (.k (.k (.k (.k (.k (.k .z))))))))))))) : Keep _ _).sat w) ?_
                                refine St.xfl (fun _ h => h) (Rd.p rfl) rfl ?_
                                refine St.xef ?_
                                refine St.buildSlice rfl rfl rfl rfl rfl rfl rfl rfl fun g10 => ?_
                                refine St.xk (fun _ w => ((.d (.d (.d (.d (.d (.k (.k (.k (.k (.k (.k (.k (.k (.k .z)))))))))))))) : Keep _ _).sat w) ?_
                                refine hnd1_4 _ _ (g10, g12, A20, c20, A19, c19) ?_ ?_
                                · exact ⟨rfl, rfl, rfl, rfl, rfl, rfl, rfl, rfl, rfl, rfl, rfl, rfl, rfl, rfl, rfl, rfl, rfl, rfl, rfl, rfl, rfl, rfl, rfl, rfl, rfl, rfl, rfl, rfl, rfl, rfl, rfl, rfl, trivial⟩
                                · exact fun _ w => ((.k (.k (.k (.k (.k (.k (.k (.k (.k (.k (.k (.k (.k (.k .z)))))))))))))) : Keep _ _).sat ((((((((((((((w.front (.s (.s (.s (.s (.s (.s (.s (.s (.s (.s (.s (.s (.s .z)))))))))))))).front (.s (.s (.s (.s (.s (.s (.s (.s (.s (.s (.s (.s (.s .z)))))))))))))).front (.s (.s (.s (.s (.s (.s (.s (.s (.s (.s (.s (.s (.s .z)))))))))))))).front (.s (.s (.s (.s (.s (.s (.s (.s (.s (.s (.s (.s (.s .z)))))))))))))).front (.s (.s (.s (.s (.s (.s (.s (.s (.s (.s (.s (.s (.s .z)))))))))))))).front (.s (.s (.s (.s (.s (.s (.s (.s (.s (.s (.s (.s (.s .z)))))))))))))).front (.s (.s (.s (.s (.s (.s (.s (.s (.s (.s (.s (.s (.s .z)))))))))))))).front (.s (.s (.s (.s (.s (.s (.s (.s (.s (.s (.s (.s (.s .z)))))))))))))).front (.s (.s (.s (.s (.s (.s (.s (.s (.s (.s (.s (.s (.s .z)))))))))))))).front (.s (.s (.s (.s (.s (.s (.s (.s (.s (.s (.s (.s (.s .z)))))))))))))).front (.s (.s (.s (.s (.s (.s (.s (.s (.s (.s .z))))))))))).front (.s (.s (.s (.s (.s (.s (.s (.s (.s (.s (.s (.s (.s .z)))))))))))))).front (.s (.s (.s (.s (.s (.s (.s (.s (.s (.s (.s (.s (.s .z)))))))))))))).front (.s (.s (.s (.s (.s (.s (.s (.s (.s (.s (.s (.s (.s .z))))))))))))))
                          case tnd1_7 =>
                            rintro ⟨g10, g12, A19, c19⟩
                            refine St.asrt (F' := .res (Box g12 30 [.string (⟨#[]⟩), .int .i64 0, .int .i64 0, .int .i64 0, .slice none 0 0]) :: .res (Box g10 23 [.int .u32 r8, .int .u32 r9, .int .u32 sum]) :: .ro (SlL eu8 A19 c19 r7.1.L) :: .res (Box g3 63 [.slice A19 r7.1.L.length c19, .int .i64 r7.1.At]) :: .res (Box g9 35 (bx_T_Device x2 A17 c17 A18 c18)) :: .ro (SlL eu8 A17 c17 x2.Slots.e0.Image.Data) :: .ro (SlL eu8 A18 c18 x2.Slots.e1.Image.Data) :: .ro (SlL eu8 A15 c15 s1.2.1) :: .ro (Sl (codL l_T_Device) (some ⟨g8, 0, none⟩) ([r4.2, r6.2, raw] : List T_Device).length ([r4.2, r6.2, raw])) :: .res (Box g7 30 (bx_T_Image r5.2 A11 c11)) :: .ro (SlL eu8 A11 c11 r5.2.Data) :: .res (Box g2 30 (bx_T_Image i_p2 A4 c4)) :: .ro (SlL eu8 A4 c4 i_p2.Data) :: R) (fun _ w => w) ?_
                            refine St.xef ?_
                            refine St.call (c_field_Codes_Next hr10) ent23 rfl rfl rfl (fun _ w => Sat.dup (G := [.ro (SlL eu8 A19 c19 r7.1.L)]) rfl ⟨(.tail _ (.tail _ (.tail _ (.head _)))), trivial⟩ (w.front (.s (.s (.s .z))))) ?_
                            rintro _ _ ⟨A20, c20, rfl, rfl⟩
                            refine St.asrt (F' := .ro (SlL eu8 A20 c20 r10.1.L) :: .res (Box g3 63 [.slice A20 r10.1.L.length c20, .int .i64 r10.1.At]) :: .res (Box g12 30 [.string (⟨#[]⟩), .int .i64 0, .int .i64 0, .int .i64 0, .slice none 0 0]) :: .res (Box g10 23 [.int .u32 r8, .int .u32 r9, .int .u32 sum]) :: .ro (SlL eu8 A19 c19 r7.1.L) :: .res (Box g9 35 (bx_T_Device x2 A17 c17 A18 c18)) :: .ro (SlL eu8 A17 c17 x2.Slots.e0.Image.Data) :: .ro (SlL eu8 A18 c18 x2.Slots.e1.Image.Data) :: .ro (SlL eu8 A15 c15 s1.2.1) :: .ro (Sl (codL l_T_Device) (some ⟨g8, 0, none⟩) ([r4.2, r6.2, raw] : List T_Device).length ([r4.2, r6.2, raw])) :: .res (Box g7 30 (bx_T_Image r5.2 A11 c11)) :: .ro (SlL eu8 A11 c11 r5.2.Data) :: .res (Box g2 30 (bx_T_Image i_p2 A4 c4)) :: .ro (SlL eu8 A4 c4 i_p2.Data) :: R) (fun _ w => w) ?_
                            refine St.xk (fun _ w => ((.d (.d (.d (.d (.d (.k (.k (.k (.k (.k (.k (.k (.k (.k .z)))))))))))))) : Keep _ _).sat w) ?_
                            refine hnd1_5 _ _ (g10, g12, A20, c20, A19, c19) ?_ ?_
                            · exact ⟨rfl, rfl, rfl, rfl, rfl, rfl, rfl, rfl, rfl, rfl, rfl, rfl, rfl, rfl, rfl, rfl, rfl, rfl, rfl, rfl, rfl, rfl, rfl, rfl, rfl, rfl, rfl, rfl, rfl, rfl, rfl, trivial⟩
                            · exact fun _ w => ((.k (.k (.k (.k (.k (.k (.k (.k (.k (.k (.k (.k (.k (.k .z)))))))))))))) : Keep _ _).sat ((((((((((((((w.front (.s (.s (.s (.s (.s (.s (.s (.s (.s (.s (.s (.s (.s .z)))))))))))))).front (.s (.s (.s (.s (.s (.s (.s (.s (.s (.s (.s (.s (.s .z)))))))))))))).front (.s (.s (.s (.s (.s (.s (.s (.s (.s (.s (.s (.s (.s .z)))))))))))))).front (.s (.s (.s (.s (.s (.s (.s (.s (.s (.s (.s (.s (.s .z)))))))))))))).front (.s (.s (.s (.s (.s (.s (.s (.s (.s (.s (.s (.s (.s .z)))))))))))))).front (.s (.s (.s (.s (.s (.s (.s (.s (.s (.s (.s (.s (.s .z)))))))))))))).front (.s (.s (.s (.s (.s (.s (.s (.s (.s (.s (.s (.s (.s .z)))))))))))))).front (.s (.s (.s (.s (.s (.s (.s (.s (.s (.s (.s (.s (.s .z)))))))))))))).front (.s (.s (.s (.s (.s (.s (.s (.s (.s (.s (.s (.s (.s .z)))))))))))))).front (.s (.s (.s (.s (.s (.s (.s (.s (.s (.s (.s (.s (.s .z)))))))))))))).front (.s (.s (.s (.s (.s (.s (.s (.s (.s (.s (.s (.s (.s .z)))))))))))))).front (.s (.s (.s (.s (.s (.s (.s (.s (.s (.s (.s (.s .z))))))))))))).front (.s (.s (.s (.s (.s (.s (.s (.s (.s (.s (.s (.s .z))))))))))))).front (.s (.s (.s (.s (.s (.s (.s (.s (.s (.s (.s (.s (.s .z))))))))))))))
                        case tnd1_6 =>
                          rintro ⟨g10, A20, c20, A19, c19⟩
                          refine St.asrt (F' := .ro (SlL eu8 A20 c20 r10.1.L) :: .res (Box g3 63 [.slice A20 r10.1.L.length c20, .int .i64 r10.1.At]) :: .res (Box g10 23 [.int .u32 r8, .int .u32 r9, .int .u32 sum]) :: .ro (SlL eu8 A19 c19 r7.1.L) :: .res (Box g9 35 (bx_T_Device x2 A17 c17 A18 c18)) :: .ro (SlL eu8 A17 c17 x2.Slots.e0.Image.Data) :: .ro (SlL eu8 A18 c18 x2.Slots.e1.Image.Data) :: .ro (SlL eu8 A15 c15 s1.2.1) :: .ro (Sl (codL l_T_Device) (some ⟨g8, 0, none⟩) ([r4.2, r6.2, raw] : List T_Device).length ([r4.2, r6.2, raw])) :: .res (Box g7 30 (bx_T_Image r5.2 A11 c11)) :: .ro (SlL eu8 A11 c11 r5.2.Data) :: .res (Box g2 30 (bx_T_Image i_p2 A4 c4)) :: .ro (SlL eu8 A4 c4 i_p2.Data) :: R) (fun _ w => w) ?_
                          refine St.xalt ?_ ?_
                          · refine St.xef ?_
                            refine St.asrt (fun _ w => (w.front (.s (.s .z))).litL (E := eu32) (e := 23) [r8, r9, sum] rfl rfl) ?_
                            refine St.ixO hx3 rfl rfl rfl (.head _) rfl rfl rfl rfl rfl fun g11 hA => ?_
                            cases hA
                            refine St.xk (fun _ w => ((.d (.d (.d (.d (.k (.k (.k (.k (.k (.k (.k (.k (.k .z))))))))))))) : Keep _ _).sat w) ?_
                            refine St.xalt ?_ ?_
                            · refine St.xef ?_
                              refine St.ldO 0 hx3 rfl rfl (.head _) rfl rfl ?_
                              refine St.xk (fun _ w => ((.d (.d (.d (.d (.k (.k (.k (.k (.k (.k (.k (.k (.k .z))))))))))))) : Keep _ _).sat w) ?_
                              refine St.xef ?_
                              refine St.alloc rfl rfl fun g12 => ?_
                              refine St.xk (fun _ w => ((.d (.d (.d (.d (.d (.k (.k (.k (.k (.k (.k (.k (.k (.k .z)))))))))))))) : Keep _ _).sat w) ?_
                              refine hnd1_1 _ _ (g10, g12, A20, c20, A19, c19) ?_ ?_
                              · exact ⟨rfl, rfl, rfl, rfl, rfl, rfl, rfl, rfl, rfl, rfl, rfl, rfl, rfl, rfl, rfl, rfl, rfl, rfl, rfl, rfl, rfl, rfl, rfl, rfl, rfl, rfl, rfl, rfl, rfl, rfl, rfl, rfl, rfl, trivial⟩
                              · exact fun _ w => ((.k (.k (.k (.k (.k (.k (.k (.k (.k (.k (.k (.k (.k (.k .z)))))))))))))) : Keep _ _).sat w
                            · refine St.xef ?_
                              refine St.alloc rfl rfl fun g12 => ?_
                              refine St.xk (fun _ w => ((.d (.d (.d (.d (.d (.k (.k (.k (.k (.k (.k (.k (.k (.k .z)))))))))))))) : Keep _ _).sat w) ?_
                              refine hnd1_3 _ _ (g10, g12, A20, c20, A19, c19) ?_ ?_
                              · exact ⟨rfl, rfl, rfl, rfl, rfl, rfl, rfl, rfl, rfl, rfl, rfl, rfl, rfl, rfl, rfl, rfl, rfl, rfl, rfl, rfl, rfl, rfl, rfl, rfl, rfl, rfl, rfl, rfl, rfl, rfl, rfl, rfl, trivial⟩
                              · exact fun _ w => ((.k (.k (.k (.k (.k (.k (.k (.k (.k (.k (.k (.k (.k (.k .z)))))))))))))) : Keep _ _).sat w
                          · refine St.xef ?_
                            refine St.alloc rfl rfl fun g12 => ?_
                            refine St.xk (fun _ w => ((.d (.d (.d (.d (.d (.k (.k (.k (.k (.k (.k (.k (.k (.k .z)))))))))))))) : Keep _ _).sat w) ?_
                            refine hnd1_5 _ _ (g10, g12, A20, c20, A19, c19) ?_ ?_
                            · exact ⟨rfl, rfl, rfl, rfl, rfl, rfl, rfl, rfl, rfl, rfl, rfl, rfl, rfl, rfl, rfl, rfl, rfl, rfl, rfl, rfl, rfl, rfl, rfl, rfl, rfl, rfl, rfl, rfl, rfl, rfl, rfl, trivial⟩
                            · exact fun _ w => ((.k (.k (.k (.k (.k (.k (.k (.k (.k (.k (.k (.k (.k (.k .z)))))))))))))) : Keep _ _).sat w
                      case tnd1_5 =>
                        rintro ⟨g10, g12, A20, c20, A19, c19⟩
                        refine St.asrt (F' := .res (Box g12 30 [.string (⟨#[]⟩), .int .i64 0, .int .i64 0, .int .i64 0, .slice none 0 0]) :: .ro (SlL eu8 A20 c20 r10.1.L) :: .res (Box g3 63 [.slice A20 r10.1.L.length c20, .int .i64 r10.1.At]) :: .res (Box g10 23 [.int .u32 r8, .int .u32 r9, .int .u32 sum]) :: .ro (SlL eu8 A19 c19 r7.1.L) :: .res (Box g9 35 (bx_T_Device x2 A17 c17 A18 c18)) :: .ro (SlL eu8 A17 c17 x2.Slots.e0.Image.Data) :: .ro (SlL eu8 A18 c18 x2.Slots.e1.Image.Data) :: .ro (SlL eu8 A15 c15 s1.2.1) :: .ro (Sl (codL l_T_Device) (some ⟨g8, 0, none⟩) ([r4.2, r6.2, raw] : List T_Device).length ([r4.2, r6.2, raw])) :: .res (Box g7 30 (bx_T_Image r5.2 A11 c11)) :: .ro (SlL eu8 A11 c11 r5.2.Data) :: .res (Box g2 30 (bx_T_Image i_p2 A4 c4)) :: .ro (SlL eu8 A4 c4 i_p2.Data) :: R) (fun _ w => w) ?_
                        refine St.xalt ?_ ?_
                        · refine St.xef ?_
                          refine St.asrt (fun _ w => (w.front (.s (.s (.s .z)))).litL (E := eu32) (e := 23) [r8, r9, sum] rfl rfl) ?_
                          refine St.ixO hx3 rfl rfl rfl (.head _) rfl rfl rfl rfl rfl fun g11 hA => ?_
                          cases hA
                          refine St.xk (fun _ w => ((.d (.d (.d (.d (.d (.k (.k (.k (.k (.k (.k (.k (.k (.k .z)))))))))))))) : Keep _ _).sat w) ?_
                          refine hnd1_3 _ _ (g10, g12, A20, c20, A19, c19) ?_ ?_
                          · exact ⟨rfl, rfl, rfl, rfl, rfl, rfl, rfl, rfl, rfl, rfl, rfl, rfl, rfl, rfl, rfl, rfl, rfl, rfl, rfl, rfl, rfl, rfl, rfl, rfl, rfl, rfl, rfl, rfl, rfl, rfl, rfl, rfl, trivial⟩
                          · exact fun _ w => ((.k (.k (.k (.k (.k (.k (.k (.k (.k (.k (.k (.k (.k (.k .z)))))))))))))) : Keep _ _).sat ((((((((((((((w.front (.s (.s (.s (.s (.s (.s (.s (.s (.s (.s (.s (.s (.s .z)))))))))))))).front (.s (.s (.s (.s (.s (.s (.s (.s (.s (.s (.s (.s (.s .z)))))))))))))).front (.s (.s (.s (.s (.s (.s (.s (.s (.s (.s (.s (.s (.s .z)))))))))))))).front (.s (.s (.s (.s (.s (.s (.s (.s (.s (.s (.s (.s (.s .z)))))))))))))).front (.s (.s (.s (.s (.s (.s (.s (.s (.s (.s (.s (.s (.s .z)))))))))))))).front (.s (.s (.s (.s (.s (.s (.s (.s (.s (.s (.s (.s (.s .z)))))))))))))).front (.s (.s (.s (.s (.s (.s (.s (.s (.s (.s (.s (.s (.s .z)))))))))))))).front (.s (.s (.s (.s (.s (.s (.s (.s (.s (.s (.s (.s (.s .z)))))))))))))).front (.s (.s (.s (.s (.s (.s (.s (.s (.s (.s (.s (.s (.s .z)))))))))))))).front (.s (.s (.s (.s (.s (.s (.s (.s (.s (.s (.s (.s (.s .z)))))))))))))).front (.s (.s (.s (.s (.s (.s (.s (.s (.s (.s (.s (.s (.s .z)))))))))))))).front (.s (.s (.s (.s (.s (.s (.s (.s (.s (.s (.s (.s (.s .z)))))))))))))).front (.s (.s (.s (.s (.s (.s (.s (.s (.s (.s (.s (.s .z))))))))))))).front (.s (.s (.s (.s (.s (.s (.s (.s (.s (.s (.s (.s (.s .z))))))))))))))
                        · refine St.xef ?_
                          refine St.store 0 rfl rfl rfl rfl rfl rfl .z rfl ?_
                          refine St.xk (fun _ w => ((.d (.d (.d (.d (.d (.k (.k (.k (.k (.k (.k (.k (.k (.k .z)))))))))))))) : Keep _ _).sat w) ?_
                          refine St.xfl (fun _ h => h) (Rd.p rfl) rfl ?_
                          refine hnd1_4 _ _ (g10, g12, A20, c20, A19, c19) ?_ ?_
                          · exact ⟨rfl, rfl, rfl, rfl, rfl, rfl, rfl, rfl, rfl, rfl, rfl, rfl, rfl, rfl, rfl, rfl, rfl, rfl, rfl, rfl, rfl, rfl, rfl, rfl, rfl, rfl, rfl, rfl, rfl, rfl, rfl, rfl, trivial⟩
                          · exact fun _ w => ((.k (.k (.k (.k (.k (.k (.k (.k (.k (.k (.k (.k (.k (.k .z)))))))))))))) : Keep _ _).sat w
                    case tnd1_4 =>
                      rintro ⟨g10, g12, A20, c20, A19, c19⟩
                      refine St.asrt (F' := .res (Box g12 30 (bx_T_Image r5.2 A11 c11)) :: .ro (SlL eu8 A20 c20 r10.1.L) :: .res (Box g3 63 [.slice A20 r10.1.L.length c20, .int .i64 r10.1.At]) :: .res (Box g10 23 [.int .u32 r8, .int .u32 r9, .int .u32 sum]) :: .ro (SlL eu8 A19 c19 r7.1.L) :: .res (Box g9 35 (bx_T_Device x2 A17 c17 A18 c18)) :: .ro (SlL eu8 A17 c17 x2.Slots.e0.Image.Data) :: .ro (SlL eu8 A18 c18 x2.Slots.e1.Image.Data) :: .ro (SlL eu8 A15 c15 s1.2.1) :: .ro (Sl (codL l_T_Device) (some ⟨g8, 0, none⟩) ([r4.2, r6.2, raw] : List T_Device).length ([r4.2, r6.2, raw])) :: .res (Box g7 30 (bx_T_Image r5.2 A11 c11)) :: .ro (SlL eu8 A11 c11 r5.2.Data) :: .res (Box g2 30 (bx_T_Image i_p2 A4 c4)) :: .ro (SlL eu8 A4 c4 i_p2.Data) :: R) (fun _ w => w) ?_
                      refine St.xef ?_
                      refine St.asrt (fun _ w => (w.front (.s (.s (.s .z)))).litL (E := eu32) (e := 23) [r8, r9, sum] rfl rfl) ?_
                      refine St.ixO hx3 rfl rfl rfl (.head _) rfl rfl rfl rfl rfl fun g11 hA => ?_
                      cases hA
                      refine St.xk (fun _ w => ((.d (.d (.d (.d (.d (.k (.k (.k (.k (.k (.k (.k (.k (.k .z)))))))))))))) : Keep _ _).sat w) ?_
                      refine hnd1_2 _ _ (g10, g12, A20, c20, A19, c19) ?_ ?_
                      · exact ⟨rfl, rfl, rfl, rfl, rfl, rfl, rfl, rfl, rfl, rfl, rfl, rfl, rfl, rfl, rfl, rfl, rfl, rfl, rfl, rfl, rfl, rfl, rfl, rfl, rfl, rfl, rfl, rfl, rfl, rfl, rfl, rfl, rfl, trivial⟩
                      · exact fun _ w => ((.k (.k (.k (.k (.k (.k (.k (.k (.k (.k (.k (.k (.k (.k .z)))))))))))))) : Keep _ _).sat ((((((((((((((w.front (.s (.s (.s (.s (.s (.s (.s (.s (.s (.s (.s (.s (.s .z)))))))))))))).front (.s (.s (.s (.s (.s (.s (.s (.s (.s (.s (.s (.s (.s .z)))))))))))))).front (.s (.s (.s (.s (.s (.s (.s (.s (.s (.s (.s (.s (.s .z)))))))))))))).front (.s (.s (.s (.s (.s (.s (.s (.s (.s (.s (.s (.s (.s .z)))))))))))))).front (.s (.s (.s (.s (.s (.s (.s (.s (.s (.s (.s (.s (.s .z)))))))))))))).front (.s (.s (.s (.s (.s (.s (.s (.s (.s (.s (.s (.s (.s .z)))))))))))))).front (.s (.s (.s (.s (.s (.s (.s (.s (.s (.s (.s (.s (.s .z)))))))))))))).front (.s (.s (.s (.s (.s (.s (.s (.s (.s (.s (.s (.s (.s .z)))))))))))))).front (.s (.s (.s (.s (.s (.s (.s (.s (.s (.s (.s (.s (.s .z)))))))))))))).front (.s (.s (.s (.s (.s (.s (.s (.s (.s (.s (.s (.s (.s .z)))))))))))))).front (.s (.s (.s (.s (.s (.s (.s (.s (.s (.s (.s (.s (.s .z)))))))))))))).front (.s (.s (.s (.s (.s (.s (.s (.s (.s (.s (.s (.s (.s .z)))))))))))))).front (.s (.s (.s (.s (.s (.s (.s (.s (.s (.s (.s (.s .z))))))))))))).front (.s (.s (.s (.s (.s (.s (.s (.s (.s (.s (.s (.s (.s .z))))))))))))))
                  case tnd1_3 =>
                    rintro ⟨g10, g12, A20, c20, A19, c19⟩
                    refine St.asrt (F' := .res (Box g12 30 [.string (⟨#[]⟩), .int .i64 0, .int .i64 0, .int .i64 0, .slice none 0 0]) :: .res (OwnL eu32 23 (some ⟨g10, 0, none⟩) ([r8, r9, sum] : List Int).length ([r8, r9, sum])) :: .ro (SlL eu8 A20 c20 r10.1.L) :: .res (Box g3 63 [.slice A20 r10.1.L.length c20, .int .i64 r10.1.At]) :: .ro (SlL eu8 A19 c19 r7.1.L) :: .res (Box g9 35 (bx_T_Device x2 A17 c17 A18 c18)) :: .ro (SlL eu8 A17 c17 x2.Slots.e0.Image.Data) :: .ro (SlL eu8 A18 c18 x2.Slots.e1.Image.Data) :: .ro (SlL eu8 A15 c15 s1.2.1) :: .ro (Sl (codL l_T_Device) (some ⟨g8, 0, none⟩) ([r4.2, r6.2, raw] : List T_Device).length ([r4.2, r6.2, raw])) :: .res (Box g7 30 (bx_T_Image r5.2 A11 c11)) :: .ro (SlL eu8 A11 c11 r5.2.Data) :: .res (Box g2 30 (bx_T_Image i_p2 A4 c4)) :: .ro (SlL eu8 A4 c4 i_p2.Data) :: R) (fun _ w => w) ?_
                    refine St.xalt ?_ ?_
                    · refine St.xef ?_
                      refine St.ldO 0 hx3 rfl rfl (.tail _ (.head _)) rfl rfl ?_
                      refine St.xk (fun _ w => ((.d (.d (.d (.d (.d (.k (.k (.k (.k (.k (.k (.k (.k (.k .z)))))))))))))) : Keep _ _).sat w) ?_
                      refine hnd1_1 _ _ (g10, g12, A20, c20, A19, c19) ?_ ?_
                      · exact ⟨rfl, rfl, rfl, rfl, rfl, rfl, rfl, rfl, rfl, rfl, rfl, rfl, rfl, rfl, rfl, rfl, rfl, rfl, rfl, rfl, rfl, rfl, rfl, rfl, rfl, rfl, rfl, rfl, rfl, rfl, rfl, rfl, rfl, trivial⟩
                      · exact fun _ w => ((.k (.k (.k (.k (.k (.k (.k (.k (.k (.k (.k (.k (.k (.k .z)))))))))))))) : Keep _ _).sat w
                    · refine St.xef ?_
                      refine St.store 0 rfl rfl rfl rfl rfl rfl .z rfl ?_
                      refine St.xk (fun _ w => ((.d (.d (.d (.d (.d (.k (.k (.k (.k (.k (.k (.k (.k (.k .z)))))))))))))) : Keep _ _).sat w) ?_
                      refine St.xfl (fun _ h => h) (Rd.p rfl) rfl ?_
                      refine hnd1_2 _ _ (g10, g12, A20, c20, A19, c19) ?_ ?_
                      · exact ⟨rfl, rfl, rfl, rfl, rfl, rfl, rfl, rfl, rfl, rfl, rfl, rfl, rfl, rfl, rfl, rfl, rfl, rfl, rfl, rfl, rfl, rfl, rfl, rfl, rfl, rfl, rfl, rfl, rfl, rfl, rfl, rfl, rfl, trivial⟩
                      · exact fun _ w => ((.k (.k (.k (.k (.k (.k (.k (.k (.k (.k (.k (.k (.k (.k .z)))))))))))))) : Keep _ _).sat w
                case tnd1_2 =>
                  rintro ⟨g10, g12, A20, c20, A19, c19⟩
                  refine St.asrt (F' := .res (Box g12 30 (bx_T_Image r5.2 A11 c11)) :: .res (OwnL eu32 23 (some ⟨g10, 0, none⟩) ([r8, r9, sum] : List Int).length ([r8, r9, sum])) :: .ro (SlL eu8 A20 c20 r10.1.L) :: .res (Box g3 63 [.slice A20 r10.1.L.length c20, .int .i64 r10.1.At]) :: .ro (SlL eu8 A19 c19 r7.1.L) :: .res (Box g9 35 (bx_T_Device x2 A17 c17 A18 c18)) :: .ro (SlL eu8 A17 c17 x2.Slots.e0.Image.Data) :: .ro (SlL eu8 A18 c18 x2.Slots.e1.Image.Data) :: .ro (SlL eu8 A15 c15 s1.2.1) :: .ro (Sl (codL l_T_Device) (some ⟨g8, 0, none⟩) ([r4.2, r6.2, raw] : List T_Device).length ([r4.2, r6.2, raw])) :: .res (Box g7 30 (bx_T_Image r5.2 A11 c11)) :: .ro (SlL eu8 A11 c11 r5.2.Data) :: .res (Box g2 30 (bx_T_Image i_p2 A4 c4)) :: .ro (SlL eu8 A4 c4 i_p2.Data) :: R) (fun _ w => w) ?_
                  refine St.xef ?_
                  refine St.ldO 0 hx3 rfl rfl (.tail _ (.head _)) rfl rfl ?_
                  refine St.xk (fun _ w => ((.d (.d (.d (.d (.d (.k (.k (.k (.k (.k (.k (.k (.k (.k .z)))))))))))))) : Keep _ _).sat w) ?_
                  refine St.xfl (fun _ h => h) (Rd.p rfl) rfl ?_
                  refine hnd1_0 _ _ (g10, g12, A20, c20, A19, c19) ?_ ?_
                  · exact ⟨rfl, rfl, rfl, rfl, rfl, rfl, rfl, rfl, rfl, rfl, rfl, rfl, rfl, rfl, rfl, rfl, rfl, rfl, rfl, rfl, rfl, rfl, rfl, rfl, rfl, rfl, rfl, rfl, rfl, rfl, rfl, rfl, rfl, rfl, rfl, trivial⟩
                  · exact fun _ w => ((.k (.k (.k (.k (.k (.k (.k (.k (.k (.k (.k (.k (.k (.k .z)))))))))))))) : Keep _ _).sat w
              case tnd1_1 =>
                rintro ⟨g10, g12, A20, c20, A19, c19⟩
                refine St.asrt (F' := .res (Box g12 30 [.string (⟨#[]⟩), .int .i64 0, .int .i64 0, .int .i64 0, .slice none 0 0]) :: .res (OwnL eu32 23 (some ⟨g10, 0, none⟩) ([r8, r9, sum] : List Int).length ([r8, r9, sum])) :: .ro (SlL eu8 A20 c20 r10.1.L) :: .res (Box g3 63 [.slice A20 r10.1.L.length c20, .int .i64 r10.1.At]) :: .ro (SlL eu8 A19 c19 r7.1.L) :: .res (Box g9 35 (bx_T_Device x2 A17 c17 A18 c18)) :: .ro (SlL eu8 A17 c17 x2.Slots.e0.Image.Data) :: .ro (SlL eu8 A18 c18 x2.Slots.e1.Image.Data) :: .ro (SlL eu8 A15 c15 s1.2.1) :: .ro (Sl (codL l_T_Device) (some ⟨g8, 0, none⟩) ([r4.2, r6.2, raw] : List T_Device).length ([r4.2, r6.2, raw])) :: .res (Box g7 30 (bx_T_Image r5.2 A11 c11)) :: .ro (SlL eu8 A11 c11 r5.2.Data) :: .res (Box g2 30 (bx_T_Image i_p2 A4 c4)) :: .ro (SlL eu8 A4 c4 i_p2.Data) :: R) (fun _ w => w) ?_
                refine St.xef ?_
                refine St.store 0 rfl rfl rfl rfl rfl rfl .z rfl ?_
                refine St.xk (fun _ w => ((.d (.d (.d (.d (.d (.k (.k (.k (.k (.k (.k (.k (.k (.k .z)))))))))))))) : Keep _ _).sat w) ?_
                refine St.xfl (fun _ h => h) (Rd.p rfl) rfl ?_
                refine St.xfl (fun _ h => h) (Rd.p rfl) rfl ?_
                refine hnd1_0 _ _ (g10, g12, A20, c20, A19, c19) ?_ ?_
                · exact ⟨rfl, rfl, rfl, rfl, rfl, rfl, rfl, rfl, rfl, rfl, rfl, rfl, rfl, rfl, rfl, rfl, rfl, rfl, rfl, rfl, rfl, rfl, rfl, rfl, rfl, rfl, rfl, rfl, rfl, rfl, rfl, rfl, rfl, rfl, rfl, trivial⟩
                · exact fun _ w => ((.k (.k (.k (.k (.k (.k (.k (.k (.k (.k (.k (.k (.k (.k .z)))))))))))))) : Keep _ _).sat w
            case tnd1_0 =>
              rintro ⟨g10, g12, A20, c20, A19, c19⟩
              refine St.asrt (F' := .res (Box g12 30 (bx_T_Image r5.2 A11 c11)) :: .res (OwnL eu32 23 (some ⟨g10, 0, none⟩) ([r8, r9, sum] : List Int).length ([r8, r9, sum])) :: .ro (SlL eu8 A20 c20 r10.1.L) :: .res (Box g3 63 [.slice A20 r10.1.L.length c20, .int .i64 r10.1.At]) :: .ro (SlL eu8 A19 c19 r7.1.L) :: .res (Box g9 35 (bx_T_Device x2 A17 c17 A18 c18)) :: .ro (SlL eu8 A17 c17 x2.Slots.e0.Image.Data) :: .ro (SlL eu8 A18 c18 x2.Slots.e1.Image.Data) :: .ro (SlL eu8 A15 c15 s1.2.1) :: .ro (Sl (codL l_T_Device) (some ⟨g8, 0, none⟩) ([r4.2, r6.2, raw] : List T_Device).length ([r4.2, r6.2, raw])) :: .res (Box g7 30 (bx_T_Image r5.2 A11 c11)) :: .ro (SlL eu8 A11 c11 r5.2.Data) :: .res (Box g2 30 (bx_T_Image i_p2 A4 c4)) :: .ro (SlL eu8 A4 c4 i_p2.Data) :: R) (fun _ w => w) ?_
              refine St.xdone ?_
              refine St.thenN ?_
              refine St.prune (Γ' := [(3, _), (4, _), (7, _), (11, _), (13, _), (15, _), (16, _), (17, _), (18, _), (65, _), (66, _), (67, _)]) ⟨rfl, rfl, rfl, rfl, rfl, rfl, rfl, rfl, rfl, rfl, rfl, rfl, trivial⟩ (.k (.d (.k (.k (.d (.k (.k (.k (.d (.k (.k (.k (.k (.k .z)))))))))))))) ?_
              refine St.seq ?_
              obtain ⟨o4, hj2, h1⟩ := bnd_e h1
              refine St.cutE (fun (e4 : Option Addr × Nat × Option Addr × Nat) => [(3, .int .i64 n_p3), (4, .int .u32 sum), (7, .pointer (some ⟨g2, 0, none⟩)), (11, .pointer (some ⟨g3, 0, none⟩)), (13, .pointer (some ⟨g7, 0, none⟩)), (15, .pointer (some ⟨g9, 0, none⟩)), (16, .pointer (some ⟨g12, 0, none⟩)), (17, .int .i64 o4.1), (18, .int .u32 x3), (65, .slice (some ⟨g8, 0, none⟩) ([r4.2, r6.2, raw]).length ([r4.2, r6.2, raw] : List T_Device).length), (66, .int .i64 ((3 : Nat) : Int)), (67, .int .i64 s1.1)]) (fun e4 => .ro (SlL eu8 e4.2.2.1 e4.2.2.2 o4.2.2.1) :: .ro (SlL eu8 e4.1 e4.2.1 o4.2.1.Data) :: .res (Box g12 30 (bx_T_Image o4.2.1 e4.1 e4.2.1)) :: .res (Box g3 63 [.slice e4.2.2.1 o4.2.2.1.length e4.2.2.2, .int .i64 o4.2.2.2]) :: .res (Box g9 35 (bx_T_Device x2 A17 c17 A18 c18)) :: .ro (SlL eu8 A17 c17 x2.Slots.e0.Image.Data) :: .ro (SlL eu8 A18 c18 x2.Slots.e1.Image.Data) :: .ro (Sl (codL l_T_Device) (some ⟨g8, 0, none⟩) ([r4.2, r6.2, raw] : List T_Device).length ([r4.2, r6.2, raw])) :: .res (Box g7 30 (bx_T_Image r5.2 A11 c11)) :: .ro (SlL eu8 A11 c11 r5.2.Data) :: .res (Box g2 30 (bx_T_Image i_p2 A4 c4)) :: .ro (SlL eu8 A4 c4 i_p2.Data) :: R) ?_ ?_
              · refine St.seq ?_
                refine St.region ?_
                refine St.p rfl rfl ?_
                obtain ⟨r11, hr11, hj2⟩ := bnd_e hj2
                refine St.call (c_field_Codes_Next hr11) ent23 rfl rfl rfl (fun _ w => Sat.dup (G := [.ro (SlL eu8 A20 c20 r10.1.L)]) rfl ⟨(.tail _ (.tail _ (.head _))), trivial⟩ (w.front (.s (.s .z)))) ?_
                rintro _ _ ⟨A23, c23, rfl, rfl⟩
                refine St.asrt (F' := .ro (SlL eu8 A23 c23 r11.1.L) :: .res (Box g3 63 [.slice A23 r11.1.L.length c23, .int .i64 r11.1.At]) :: .res (Box g12 30 (bx_T_Image r5.2 A11 c11)) :: .ro (SlL eu8 A20 c20 r10.1.L) :: .res (Box g9 35 (bx_T_Device x2 A17 c17 A18 c18)) :: .ro (SlL eu8 A17 c17 x2.Slots.e0.Image.Data) :: .ro (SlL eu8 A18 c18 x2.Slots.e1.Image.Data) :: .ro (Sl (codL l_T_Device) (some ⟨g8, 0, none⟩) ([r4.2, r6.2, raw] : List T_Device).length ([r4.2, r6.2, raw])) :: .res (Box g7 30 (bx_T_Image r5.2 A11 c11)) :: .ro (SlL eu8 A11 c11 r5.2.Data) :: .res (Box g2 30 (bx_T_Image i_p2 A4 c4)) :: .ro (SlL eu8 A4 c4 i_p2.Data) :: R) (fun _ w => w) ?_
                refine St.p rfl rfl ?_
                refine St.done ?_
                refine St.thenN ?_
                refine St.prune (Γ' := [(3, _), (4, _), (7, _), (11, _), (13, _), (15, _), (16, _), (17, _), (18, _), (65, _), (66, _), (67, _), (96, _)]) ⟨rfl, rfl, rfl, rfl, rfl, rfl, rfl, rfl, rfl, rfl, rfl, rfl, rfl, trivial⟩ (.k (.k (.k (.d (.k (.k (.k (.k (.k (.k (.k (.k .z)))))))))))) ?_
                refine St.cond _ rfl (fun hb6 => ?_) (fun hb6 => ?_)
                · replace hj2 := bif_t hb6 hj2
                  refine St.region ?_
                  refine St.loadB 0 rfl rfl (.tail _ (.tail _ (.tail _ (.tail _ (.tail _ (.tail _ (.tail _ (.tail _ (.tail _ (.head _)))))))))) rfl rfl ?_
                  refine St.p rfl rfl ?_
                  refine St.store 0 rfl rfl rfl rfl rfl rfl (.s (.s .z)) rfl ?_
                  refine St.p rfl rfl ?_
                  refine St.done ?_
                  injection hj2 with hj2
                  subst hj2
                  refine St.thenN ?_
                  exact St.hereE (A4, c4, A23, c23) ⟨rfl, rfl, rfl, rfl, rfl, rfl, rfl, rfl, rfl, rfl, rfl, rfl, trivial⟩ (fun _ w => ((.k (.k (.k (.k (.k (.k (.k (.k (.k (.k (.k (.k .z)))))))))))) : Keep _ _).sat (((((((((((((Sat.dup (G := [.ro (SlL eu8 A4 c4 i_p2.Data)]) rfl ⟨(.tail _ (.tail _ (.tail _ (.tail _ (.tail _ (.tail _ (.tail _ (.tail _ (.tail _ (.tail _ (.head _))))))))))), trivial⟩ w).front .z).front (.s (.s (.s (.s (.s (.s (.s (.s (.s (.s .z))))))))))).front (.s (.s (.s (.s (.s (.s (.s (.s (.s (.s .z))))))))))).front (.s (.s (.s (.s (.s (.s (.s (.s (.s (.s .z))))))))))).front (.s (.s (.s (.s (.s (.s (.s (.s (.s (.s .z))))))))))).front (.s (.s (.s (.s (.s (.s (.s (.s (.s (.s .z))))))))))).front (.s (.s (.s (.s (.s (.s (.s (.s (.s (.s .z))))))))))).front (.s (.s (.s (.s (.s (.s (.s (.s (.s (.s .z))))))))))).front (.s (.s (.s (.s (.s (.s (.s (.s (.s (.s .z))))))))))).front (.s (.s (.s (.s (.s (.s (.s (.s (.s .z)))))))))).front (.s (.s (.s (.s (.s (.s (.s (.s (.s (.s (.s .z)))))))))))).front (.s (.s (.s (.s (.s (.s (.s (.s (.s (.s (.s .z)))))))))))))
                · replace hj2 := bif_f hb6 hj2
                  refine St.skip ?_
                  injection hj2 with hj2
                  subst hj2
                  refine St.thenN ?_
                  exact St.hereE (A11, c11, A23, c23) ⟨rfl, rfl, rfl, rfl, rfl, rfl, rfl, rfl, rfl, rfl, rfl, rfl, trivial⟩ (fun _ w => ((.k (.k (.k (.k (.k (.k (.k (.k (.k (.k (.k (.k .z)))))))))))) : Keep _ _).sat (((((((((((((Sat.dup (G := [.ro (SlL eu8 A11 c11 r5.2.Data)]) rfl ⟨(.tail _ (.tail _ (.tail _ (.tail _ (.tail _ (.tail _ (.tail _ (.tail _ (.head _))))))))), trivial⟩ w).front (.s (.s (.s (.s (.s (.s (.s (.s (.s (.s (.s .z)))))))))))).front (.s (.s (.s (.s (.s (.s (.s (.s (.s (.s (.s .z)))))))))))).front (.s (.s .z))).front (.s (.s (.s (.s (.s (.s (.s (.s (.s (.s .z))))))))))).front (.s (.s (.s (.s (.s (.s (.s (.s (.s (.s .z))))))))))).front (.s (.s (.s (.s (.s (.s (.s (.s (.s (.s .z))))))))))).front (.s (.s (.s (.s (.s (.s (.s (.s (.s (.s .z))))))))))).front (.s (.s (.s (.s (.s (.s (.s (.s (.s (.s .z))))))))))).front (.s (.s (.s (.s (.s (.s (.s (.s (.s .z)))))))))).front (.s (.s (.s (.s (.s (.s (.s (.s (.s (.s .z))))))))))).front (.s (.s (.s (.s (.s (.s (.s (.s (.s (.s (.s .z)))))))))))).front (.s (.s (.s (.s (.s (.s (.s (.s (.s (.s (.s .z)))))))))))))
              · rintro ⟨A21, c21, A22, c22⟩
                refine St.seq ?_
                refine St.region ?_
                refine St.loadB 0 rfl rfl (.tail _ (.tail _ (.head _))) rfl rfl ?_
                obtain ⟨r12, hr12, h1⟩ := bnd_e h1
                refine St.call (c_bank_New hr12) ent11 rfl rfl rfl (fun _ w => Sat.dup (G := [.ro (SlL eu8 A21 c21 o4.2.1.Data)]) rfl ⟨(.tail _ (.head _)), trivial⟩ w) ?_
                rintro _ _ ⟨A24, c24, A25, c25, rfl, rfl⟩
                refine St.asrt (F' := .ro (SlL eu8 A24 c24 r12.1.Slots.e0.Image.Data) :: .ro (SlL eu8 A25 c25 r12.1.Slots.e1.Image.Data) :: .ro (SlL eu8 A22 c22 o4.2.2.1) :: .ro (SlL eu8 A21 c21 o4.2.1.Data) :: .res (Box g12 30 (bx_T_Image o4.2.1 A21 c21)) :: .res (Box g3 63 [.slice A22 o4.2.2.1.length c22, .int .i64 o4.2.2.2]) :: .res (Box g9 35 (bx_T_Device x2 A17 c17 A18 c18)) :: .ro (SlL eu8 A17 c17 x2.Slots.e0.Image.Data) :: .ro (SlL eu8 A18 c18 x2.Slots.e1.Image.Data) :: .ro (Sl (codL l_T_Device) (some ⟨g8, 0, none⟩) ([r4.2, r6.2, raw] : List T_Device).length ([r4.2, r6.2, raw])) :: .res (Box g7 30 (bx_T_Image r5.2 A11 c11)) :: .ro (SlL eu8 A11 c11 r5.2.Data) :: .res (Box g2 30 (bx_T_Image i_p2 A4 c4)) :: .ro (SlL eu8 A4 c4 i_p2.Data) :: R) (fun _ w => w) ?_
                iterate 3 refine St.p rfl rfl ?_
                refine St.alloc rfl rfl fun g13 => ?_
                refine St.store 0 rfl rfl rfl rfl rfl rfl .z rfl ?_
                refine St.p rfl rfl ?_
                refine St.done ?_
                refine St.thenN ?_
                refine St.prune (Γ' := [(3, _), (4, _), (7, _), (11, _), (13, _), (15, _), (16, _), (17, _), (18, _), (19, _), (20, _), (65, _), (66, _), (67, _)]) ⟨rfl, rfl, rfl, rfl, rfl, rfl, rfl, rfl, rfl, rfl, rfl, rfl, rfl, rfl, trivial⟩ (.k (.k (.k (.k (.k (.k (.k (.k (.k (.k (.k (.k (.k (.k (.k .z))))))))))))))) ?_
                refine St.seq ?_
                refine St.region ?_
                refine St.loadB 0 rfl rfl (.tail _ (.tail _ (.tail _ (.tail _ (.tail _ (.head _)))))) rfl rfl ?_
                obtain ⟨r13, hr13, h1⟩ := bnd_e h1
                refine St.call (c_ref29_New hr13) ent29 rfl rfl rfl (fun _ w => Sat.dup (G := [.ro (SlL eu8 A21 c21 o4.2.1.Data)]) rfl ⟨(.tail _ (.tail _ (.tail _ (.tail _ (.head _))))), trivial⟩ w) ?_
                rintro _ _ ⟨A26, c26, A27, c27, rfl, rfl⟩
                refine St.asrt (F' := .ro (SlL eu8 A26 c26 r13.1.Slots.e0.Image.Data) :: .ro (SlL eu8 A27 c27 r13.1.Slots.e1.Image.Data) :: .res (Box g13 35 (bx_T_Device r12.1 A24 c24 A25 c25)) :: .ro (SlL eu8 A24 c24 r12.1.Slots.e0.Image.Data) :: .ro (SlL eu8 A25 c25 r12.1.Slots.e1.Image.Data) :: .ro (SlL eu8 A22 c22 o4.2.2.1) :: .ro (SlL eu8 A21 c21 o4.2.1.Data) :: .res (Box g12 30 (bx_T_Image o4.2.1 A21 c21)) :: .res (Box g3 63 [.slice A22 o4.2.2.1.length c22, .int .i64 o4.2.2.2]) :: .res (Box g9 35 (bx_T_Device x2 A17 c17 A18 c18)) :: .ro (SlL eu8 A17 c17 x2.Slots.e0.Image.Data) :: .ro (SlL eu8 A18 c18 x2.Slots.e1.Image.Data) :: .ro (Sl (codL l_T_Device) (some ⟨g8, 0, none⟩) ([r4.2, r6.2, raw] : List T_Device).length ([r4.2, r6.2, raw])) :: .res (Box g7 30 (bx_T_Image r5.2 A11 c11)) :: .ro (SlL eu8 A11 c11 r5.2.Data) :: .res (Box g2 30 (bx_T_Image i_p2 A4 c4)) :: .ro (SlL eu8 A4 c4 i_p2.Data) :: R) (fun _ w => w) ?_
                iterate 3 refine St.p rfl rfl ?_
                refine St.alloc rfl rfl fun g14 => ?_
                refine St.store 0 rfl rfl rfl rfl rfl rfl .z rfl ?_
                refine St.p rfl rfl ?_
                refine St.done ?_
                refine St.thenN ?_
                refine St.prune (Γ' := [(3, _), (4, _), (7, _), (11, _), (13, _), (15, _), (16, _), (17, _), (18, _), (19, _), (20, _), (21, _), (22, _), (65, _), (66, _), (67, _)]) ⟨rfl, rfl, rfl, rfl, rfl, rfl, rfl, rfl, rfl, rfl, rfl, rfl, rfl, rfl, rfl, rfl, trivial⟩ (.k (.k (.k (.k (.k (.k (.k (.k (.k (.k (.k (.k (.k (.k (.k (.k (.k (.k .z)))))))))))))))))) ?_
                refine St.seq ?_
                refine St.seq ?_
                obtain ⟨o5, hj3, h1⟩ := bnd_e h1
                refine St.cutE (fun (e5 : Unit) => [(3, .int .i64 n_p3), (4, .int .u32 sum), (7, .pointer (some ⟨g2, 0, none⟩)), (11, .pointer (some ⟨g3, 0, none⟩)), (13, .pointer (some ⟨g7, 0, none⟩)), (15, .pointer (some ⟨g9, 0, none⟩)), (16, .pointer (some ⟨g12, 0, none⟩)), (17, .int .i64 o4.1), (18, .int .u32 x3), (19, .pointer (some ⟨g13, 0, none⟩)), (21, .pointer (some ⟨g14, 0, none⟩)), (65, .slice (some ⟨g8, 0, none⟩) ([r4.2, r6.2, raw]).length ([r4.2, r6.2, raw] : List T_Device).length), (66, .int .i64 ((3 : Nat) : Int)), (67, .int .i64 s1.1), (153, .bool o5)]) (fun e5 => .res (Box g14 35 (bx_T_Device r13.1 A26 c26 A27 c27)) :: .ro (SlL eu8 A26 c26 r13.1.Slots.e0.Image.Data) :: .ro (SlL eu8 A27 c27 r13.1.Slots.e1.Image.Data) :: .res (Box g13 35 (bx_T_Device r12.1 A24 c24 A25 c25)) :: .ro (SlL eu8 A24 c24 r12.1.Slots.e0.Image.Data) :: .ro (SlL eu8 A25 c25 r12.1.Slots.e1.Image.Data) :: .ro (SlL eu8 A22 c22 o4.2.2.1) :: .ro (SlL eu8 A21 c21 o4.2.1.Data) :: .res (Box g12 30 (bx_T_Image o4.2.1 A21 c21)) :: .res (Box g3 63 [.slice A22 o4.2.2.1.length c22, .int .i64 o4.2.2.2]) :: .res (Box g9 35 (bx_T_Device x2 A17 c17 A18 c18)) :: .ro (SlL eu8 A17 c17 x2.Slots.e0.Image.Data) :: .ro (SlL eu8 A18 c18 x2.Slots.e1.Image.Data) :: .ro (Sl (codL l_T_Device) (some ⟨g8, 0, none⟩) ([r4.2, r6.2, raw] : List T_Device).length ([r4.2, r6.2, raw])) :: .res (Box g7 30 (bx_T_Image r5.2 A11 c11)) :: .ro (SlL eu8 A11 c11 r5.2.Data) :: .res (Box g2 30 (bx_T_Image i_p2 A4 c4)) :: .ro (SlL eu8 A4 c4 i_p2.Data) :: R) ?_ ?_
                · refine St.regionF mixed (by kernel_rfl) ?_
                  iterate 4 refine St.p rfl rfl ?_
                  refine St.gSplit (dj := 112) _ rfl (fun hb7 => ?_) (fun hb7 => ?_)
                  · replace hj3 := bif_t hb7 hj3
                    refine St.gOff (dj := 112) rfl rfl rfl rfl ?_
                    refine St.gOff (dj := 112) rfl rfl rfl rfl ?_
                    refine St.gOff (dj := 112) rfl rfl rfl rfl ?_
                    refine St.gOff (dj := 112) rfl rfl rfl rfl ?_
                    refine St.p rfl rfl ?_
                    refine St.p rfl rfl ?_
                    refine St.gOff (dj := 118) rfl rfl rfl rfl ?_
                    refine St.gOff (dj := 118) rfl rfl rfl rfl ?_
                    refine St.gOff (dj := 118) rfl rfl rfl rfl ?_
                    refine St.gOff (dj := 118) rfl rfl rfl rfl ?_
                    refine St.gOff (dj := 118) rfl rfl rfl rfl ?_
                    refine St.p rfl rfl ?_
                    refine St.p rfl rfl ?_
                    refine St.gOff (dj := 125) rfl rfl rfl rfl ?_
                    refine St.gOff (dj := 125) rfl rfl rfl rfl ?_
                    refine St.gOff (dj := 125) rfl rfl rfl rfl ?_
                    refine St.gOff (dj := 125) rfl rfl rfl rfl ?_
                    refine St.gOff (dj := 125) rfl rfl rfl rfl ?_
                    refine St.p rfl rfl ?_
                    refine St.p rfl rfl ?_
                    refine St.gOff (dj := 132) rfl rfl rfl rfl ?_
                    refine St.gOff (dj := 132) rfl rfl rfl rfl ?_
                    refine St.gOff (dj := 132) rfl rfl rfl rfl ?_
                    refine St.gOff (dj := 132) rfl rfl rfl rfl ?_
                    refine St.gOff (dj := 132) rfl rfl rfl rfl ?_
                    refine St.gOff (dj := 132) rfl rfl rfl rfl ?_
                    refine St.gOff (dj := 132) rfl rfl rfl rfl ?_
                    refine St.gOff (dj := 132) rfl rfl rfl rfl ?_
                    refine St.gOff (dj := 132) rfl rfl rfl rfl ?_
                    refine St.p rfl rfl ?_
                    refine St.p rfl rfl ?_
                    refine St.gOff (dj := 143) rfl rfl rfl rfl ?_
                    refine St.gOff (dj := 143) rfl rfl rfl rfl ?_
                    refine St.gOff (dj := 143) rfl rfl rfl rfl ?_
                    refine St.gOff (dj := 143) rfl rfl rfl rfl ?_
                    refine St.gOff (dj := 143) rfl rfl rfl rfl ?_
                    refine St.gOff (dj := 143) rfl rfl rfl rfl ?_
                    refine St.gOff (dj := 143) rfl rfl rfl rfl ?_
                    refine St.gOff (dj := 143) rfl rfl rfl rfl ?_
                    refine St.gOff (dj := 143) rfl rfl rfl rfl ?_
                    refine St.p rfl rfl ?_
                    refine St.doneQ ?_
                    injection hj3 with hj3
                    subst hj3
                    refine St.thenN ?_
                    exact St.hereE () ⟨rfl, rfl, rfl, rfl, rfl, rfl, rfl, rfl, rfl, rfl, rfl, rfl, rfl, rfl, rfl, trivial⟩ (fun _ w => ((.k (.k (.k (.k (.k (.k (.k (.k (.k (.k (.k (.k (.k (.k (.k (.k (.k (.k .z)))))))))))))))))) : Keep _ _).sat w)
                  · replace hj3 := bif_f hb7 hj3
                    refine St.gOn (dj := 112) rfl rfl ?_
                    refine St.loadB 0 rfl rfl (.tail _ (.tail _ (.tail _ (.head _)))) rfl rfl ?_
                    refine St.gOn (dj := 112) rfl rfl ?_
                    refine St.loadB 0 rfl rfl (.head _) rfl rfl ?_
                    refine St.gOn (dj := 112) rfl rfl ?_
                    obtain ⟨r14, hr14, hj3⟩ := bnd_e hj3
                    refine St.callV (c_ref29_Same hr14) ent26 rfl rfl rfl rfl ⟨(.tail _ (.tail _ (.tail _ (.tail _ (.head _))))), (.tail _ (.tail _ (.tail _ (.tail _ (.tail _ (.head _)))))), (.tail _ (.head _)), (.tail _ (.tail _ (.head _))), trivial⟩ ?_
                    refine St.gOn (dj := 112) rfl rfl ?_
                    iterate 3 refine St.p rfl rfl ?_
                    refine St.gSplit (dj := 118) _ rfl (fun hb8 => ?_) (fun hb8 => ?_)
                    · replace hj3 := bif_t hb8 hj3
                      refine St.gOff (dj := 118) rfl rfl rfl rfl ?_
                      refine St.gOff (dj := 118) rfl rfl rfl rfl ?_
                      refine St.gOff (dj := 118) rfl rfl rfl rfl ?_
                      refine St.gOff (dj := 118) rfl rfl rfl rfl ?_
                      refine St.gOff (dj := 118) rfl rfl rfl rfl ?_
                      refine St.p rfl rfl ?_
                      refine St.p rfl rfl ?_
                      refine St.gOff (dj := 125) rfl rfl rfl rfl ?_
                      refine St.gOff (dj := 125) rfl rfl rfl rfl ?_
                      refine St.gOff (dj := 125) rfl rfl rfl rfl ?_
                      refine St.gOff (dj := 125) rfl rfl rfl rfl ?_
                      refine St.gOff (dj := 125) rfl rfl rfl rfl ?_
                      refine St.p rfl rfl ?_
                      refine St.p rfl rfl ?_
                      refine St.gOff (dj := 132) rfl rfl rfl rfl ?_
                      refine St.gOff (dj := 132) rfl rfl rfl rfl ?_
                      refine St.gOff (dj := 132) rfl rfl rfl rfl ?_
                      refine St.gOff (dj := 132) rfl rfl rfl rfl ?_
                      refine St.gOff (dj := 132) rfl rfl rfl rfl ?_
                      refine St.gOff (dj := 132) rfl rfl rfl rfl ?_
                      refine St.gOff (dj := 132) rfl rfl rfl rfl ?_
                      refine St.gOff (dj := 132) rfl rfl rfl rfl ?_
                      refine St.gOff (dj := 132) rfl rfl rfl rfl ?_
                      refine St.p rfl rfl ?_
                      refine St.p rfl rfl ?_
                      refine St.gOff (dj := 143) rfl rfl rfl rfl ?_
                      refine St.gOff (dj := 143) rfl rfl rfl rfl ?_
                      refine St.gOff (dj := 143) rfl rfl rfl rfl ?_
                      refine St.gOff (dj := 143) rfl rfl rfl rfl ?_
                      refine St.gOff (dj := 143) rfl rfl rfl rfl ?_
                      refine St.gOff (dj := 143) rfl rfl rfl rfl ?_
                      refine St.gOff (dj := 143) rfl rfl rfl rfl ?_
                      refine St.gOff (dj := 143) rfl rfl rfl rfl ?_
                      refine St.gOff (dj := 143) rfl rfl rfl rfl ?_
                      refine St.p rfl rfl ?_
                      refine St.doneQ ?_
                      injection hj3 with hj3
                      subst hj3
                      refine St.thenN ?_
                      exact St.hereE () ⟨rfl, rfl, rfl, rfl, rfl, rfl, rfl, rfl, rfl, rfl, rfl, rfl, rfl, rfl, rfl, trivial⟩ (fun _ w => ((.k (.k (.k (.k (.k (.k (.k (.k (.k (.k (.k (.k (.k (.k (.k (.k (.k (.k .z)))))))))))))))))) : Keep _ _).sat w)
                    · replace hj3 := bif_f hb8 hj3
                      refine St.gOn (dj := 118) rfl rfl ?_
                      refine St.loadB 0 rfl rfl (.tail _ (.tail _ (.tail _ (.tail _ (.tail _ (.tail _ (.tail _ (.tail _ (.tail _ (.tail _ (.head _))))))))))) rfl rfl ?_
                      refine St.gOn (dj := 118) rfl rfl ?_
                      obtain ⟨r15, hr15, hj3⟩ := bnd_e hj3
                      refine St.callV (c_bank_Valid hr15) ent21 rfl rfl rfl rfl ⟨(.tail _ (.tail _ (.tail _ (.tail _ (.tail _ (.tail _ (.tail _ (.tail _ (.tail _ (.tail _ (.tail _ (.head _)))))))))))), (.tail _ (.tail _ (.tail _ (.tail _ (.tail _ (.tail _ (.tail _ (.tail _ (.tail _ (.tail _ (.tail _ (.tail _ (.head _))))))))))))), trivial⟩ ?_
                      refine St.gOn (dj := 118) rfl rfl ?_
                      refine St.loadB 0 rfl rfl (.tail _ (.tail _ (.tail _ (.tail _ (.tail _ (.tail _ (.tail _ (.tail _ (.tail _ (.tail _ (.head _))))))))))) rfl rfl ?_
                      refine St.gOn (dj := 118) rfl rfl ?_
                      obtain ⟨r16, hr16, hj3⟩ := bnd_e hj3
                      refine St.callV (c_ref29_Valid hr16) ent30 rfl rfl rfl rfl ⟨(.tail _ (.tail _ (.tail _ (.tail _ (.tail _ (.tail _ (.tail _ (.tail _ (.tail _ (.tail _ (.tail _ (.head _)))))))))))), (.tail _ (.tail _ (.tail _ (.tail _ (.tail _ (.tail _ (.tail _ (.tail _ (.tail _ (.tail _ (.tail _ (.tail _ (.head _))))))))))))), trivial⟩ ?_
                      refine St.gOn (dj := 118) rfl rfl ?_
                      iterate 3 refine St.p rfl rfl ?_
                      refine St.gSplit (dj := 125) _ rfl (fun hb9 => ?_) (fun hb9 => ?_)
                      · replace hj3 := bif_t hb9 hj3
                        refine St.gOff (dj := 125) rfl rfl rfl rfl ?_
                        refine St.gOff (dj := 125) rfl rfl rfl rfl ?_
                        refine St.gOff (dj := 125) rfl rfl rfl rfl ?_
                        refine St.gOff (dj := 125) rfl rfl rfl rfl ?_
                        refine St.gOff (dj := 125) rfl rfl rfl rfl ?_
                        refine St.p rfl rfl ?_
                        refine St.p rfl rfl ?_
                        refine St.gOff (dj := 132) rfl rfl rfl rfl ?_
                        refine St.gOff (dj := 132) rfl rfl rfl rfl ?_
                        refine St.gOff (dj := 132) rfl rfl rfl rfl ?_
                        refine St.gOff (dj := 132) rfl rfl rfl rfl ?_
                        refine St.gOff (dj := 132) rfl rfl rfl rfl ?_
                        refine St.gOff (dj := 132) rfl rfl rfl rfl ?_
                        refine St.gOff (dj := 132) rfl rfl rfl rfl ?_
                        refine St.gOff (dj := 132) rfl rfl rfl rfl ?_
                        refine St.gOff (dj := 132) rfl rfl rfl rfl ?_
                        refine St.p rfl rfl ?_
                        refine St.p rfl rfl ?_
                        refine St.gOff (dj := 143) rfl rfl rfl rfl ?_
                        refine St.gOff (dj := 143) rfl rfl rfl rfl ?_
                        refine St.gOff (dj := 143) rfl rfl rfl rfl ?_
                        refine St.gOff (dj := 143) rfl rfl rfl rfl ?_
                        refine St.gOff (dj := 143) rfl rfl rfl rfl ?_
                        refine St.gOff (dj := 143) rfl rfl rfl rfl ?_
                        refine St.gOff (dj := 143) rfl rfl rfl rfl ?_
                        refine St.gOff (dj := 143) rfl rfl rfl rfl ?_
                        refine St.gOff (dj := 143) rfl rfl rfl rfl ?_
                        refine St.p rfl rfl ?_
                        refine St.doneQ ?_
                        injection hj3 with hj3
                        subst hj3
                        refine St.thenN ?_
                        exact St.hereE () ⟨rfl, rfl, rfl, rfl, rfl, rfl, rfl, rfl, rfl, rfl, rfl, rfl, rfl, rfl, rfl, trivial⟩ (fun _ w => ((.k (.k (.k (.k (.k (.k (.k (.k (.k (.k (.k (.k (.k (.k (.k (.k (.k (.k .z)))))))))))))))))) : Keep _ _).sat w)
                      · replace hj3 := bif_f hb9 hj3
                        refine St.gOn (dj := 125) rfl rfl ?_
                        refine St.loadB 0 rfl rfl (.tail _ (.tail _ (.tail _ (.tail _ (.tail _ (.tail _ (.tail _ (.tail _ (.tail _ (.tail _ (.head _))))))))))) rfl rfl ?_
                        refine St.gOn (dj := 125) rfl rfl ?_
                        obtain ⟨r17, hr17, hj3⟩ := bnd_e hj3
                        refine St.callV (c_bank_Version hr17) ent31 rfl rfl rfl rfl ⟨(.tail _ (.tail _ (.tail _ (.tail _ (.tail _ (.tail _ (.tail _ (.tail _ (.tail _ (.tail _ (.tail _ (.head _)))))))))))), (.tail _ (.tail _ (.tail _ (.tail _ (.tail _ (.tail _ (.tail _ (.tail _ (.tail _ (.tail _ (.tail _ (.tail _ (.head _))))))))))))), trivial⟩ ?_
                        refine St.gOn (dj := 125) rfl rfl ?_
                        refine St.loadB 0 rfl rfl (.tail _ (.tail _ (.tail _ (.tail _ (.tail _ (.tail _ (.tail _ (.tail _ (.tail _ (.tail _ (.head _))))))))))) rfl rfl ?_
                        refine St.gOn (dj := 125) rfl rfl ?_
                        obtain ⟨r18, hr18, hj3⟩ := bnd_e hj3
                        refine St.callV (c_ref29_Version hr18) ent32 rfl rfl rfl rfl ⟨(.tail _ (.tail _ (.tail _ (.tail _ (.tail _ (.tail _ (.tail _ (.tail _ (.tail _ (.tail _ (.tail _ (.head _)))))))))))), (.tail _ (.tail _ (.tail _ (.tail _ (.tail _ (.tail _ (.tail _ (.tail _ (.tail _ (.tail _ (.tail _ (.tail _ (.head _))))))))))))), trivial⟩ ?_
                        refine St.gOn (dj := 125) rfl rfl ?_
                        iterate 3 refine St.p rfl rfl ?_
                        refine St.gSplit (dj := 132) _ rfl (fun hb10 => ?_) (fun hb10 => ?_)
                        · replace hj3 := bif_t hb10 hj3
                          refine St.gOff (dj := 132) rfl rfl rfl rfl ?_
                          refine St.gOff (dj := 132) rfl rfl rfl rfl ?_
                          refine St.gOff (dj := 132) rfl rfl rfl rfl ?_
                          refine St.gOff (dj := 132) rfl rfl rfl rfl ?_
                          refine St.gOff (dj := 132) rfl rfl rfl rfl ?_
                          refine St.gOff (dj := 132) rfl rfl rfl rfl ?_
                          refine St.gOff (dj := 132) rfl rfl rfl rfl ?_
                          refine St.gOff (dj := 132) rfl rfl rfl rfl ?_
                          refine St.gOff (dj := 132) rfl rfl rfl rfl ?_
                          refine St.p rfl rfl ?_
                          refine St.p rfl rfl ?_
                          refine St.gOff (dj := 143) rfl rfl rfl rfl ?_
                          refine St.gOff (dj := 143) rfl rfl rfl rfl ?_
                          refine St.gOff (dj := 143) rfl rfl rfl rfl ?_
                          refine St.gOff (dj := 143) rfl rfl rfl rfl ?_
                          refine St.gOff (dj := 143) rfl rfl rfl rfl ?_
                          refine St.gOff (dj := 143) rfl rfl rfl rfl ?_
                          refine St.gOff (dj := 143) rfl rfl rfl rfl ?_
                          refine St.gOff (dj := 143) rfl rfl rfl rfl ?_
                          refine St.gOff (dj := 143) rfl rfl rfl rfl ?_
                          refine St.p rfl rfl ?_
                          refine St.doneQ ?_
                          injection hj3 with hj3
                          subst hj3
                          refine St.thenN ?_
                          exact St.hereE () ⟨rfl, rfl, rfl, rfl, rfl, rfl, rfl, rfl, rfl, rfl, rfl, rfl, rfl, rfl, rfl, trivial⟩ (fun _ w => ((.k (.k (.k (.k (.k (.k (.k (.k (.k (.k (.k (.k (.k (.k (.k (.k (.k (.k .z)))))))))))))))))) : Keep _ _).sat w)
                        · replace hj3 := bif_f hb10 hj3
                          refine St.gOn (dj := 132) rfl rfl ?_
                          refine St.p rfl rfl ?_
                          refine St.gOn (dj := 132) rfl rfl ?_
                          refine St.p rfl rfl ?_
                          refine St.gOn (dj := 132) rfl rfl ?_
                          refine St.loadB 1 rfl rfl (.tail _ (.tail _ (.tail _ (.tail _ (.tail _ (.tail _ (.tail _ (.tail _ (.tail _ (.tail _ (.head _))))))))))) rfl rfl ?_
                          refine St.gOn (dj := 132) rfl rfl ?_
                          obtain ⟨r19, hr19, hj3⟩ := bnd_e hj3
                          refine St.callV (c_bank_Whole hr19) ent33 rfl rfl rfl rfl ⟨(.tail _ (.tail _ (.tail _ (.tail _ (.tail _ (.tail _ (.tail _ (.tail _ (.tail _ (.tail _ (.tail _ (.head _)))))))))))), trivial⟩ ?_
                          refine St.gOn (dj := 132) rfl rfl ?_
                          refine St.p rfl rfl ?_
                          refine St.gOn (dj := 132) rfl rfl ?_
                          refine St.p rfl rfl ?_
                          refine St.gOn (dj := 132) rfl rfl ?_
                          refine St.loadB 1 rfl rfl (.tail _ (.tail _ (.tail _ (.tail _ (.tail _ (.tail _ (.tail _ (.tail _ (.tail _ (.tail _ (.head _))))))))))) rfl rfl ?_
                          refine St.gOn (dj := 132) rfl rfl ?_
                          obtain ⟨r20, hr20, hj3⟩ := bnd_e hj3
                          refine St.callV (c_ref29_Whole hr20) ent34 rfl rfl rfl rfl ⟨(.tail _ (.tail _ (.tail _ (.tail _ (.tail _ (.tail _ (.tail _ (.tail _ (.tail _ (.tail _ (.tail _ (.head _)))))))))))), trivial⟩ ?_
                          refine St.gOn (dj := 132) rfl rfl ?_
                          iterate 3 refine St.p rfl rfl ?_
                          refine St.gSplit (dj := 143) _ rfl (fun hb11 => ?_) (fun hb11 => ?_)
                          · replace hj3 := bif_t hb11 hj3
                            refine St.gOff (dj := 143) rfl rfl rfl rfl ?_
                            refine St.gOff (dj := 143) rfl rfl rfl rfl ?_
                            refine St.gOff (dj := 143) rfl rfl rfl rfl ?_
                            refine St.gOff (dj := 143) rfl rfl rfl rfl ?_
                            refine St.gOff (dj := 143) rfl rfl rfl rfl ?_
                            refine St.gOff (dj := 143) rfl rfl rfl rfl ?_
                            refine St.gOff (dj := 143) rfl rfl rfl rfl ?_
                            refine St.gOff (dj := 143) rfl rfl rfl rfl ?_
                            refine St.gOff (dj := 143) rfl rfl rfl rfl ?_
                            refine St.p rfl rfl ?_
                            refine St.doneQ ?_
                            injection hj3 with hj3
                            subst hj3
                            refine St.thenN ?_
                            exact St.hereE () ⟨rfl, rfl, rfl, rfl, rfl, rfl, rfl, rfl, rfl, rfl, rfl, rfl, rfl, rfl, rfl, trivial⟩ (fun _ w => ((.k (.k (.k (.k (.k (.k (.k (.k (.k (.k (.k (.k (.k (.k (.k (.k (.k (.k .z)))))))))))))))))) : Keep _ _).sat w)
                          · replace hj3 := bif_f hb11 hj3
                            refine St.gOn (dj := 143) rfl rfl ?_
                            refine St.p rfl rfl ?_
                            refine St.gOn (dj := 143) rfl rfl ?_
                            refine St.p rfl rfl ?_
                            refine St.gOn (dj := 143) rfl rfl ?_
                            refine St.loadB 7 rfl rfl (.tail _ (.tail _ (.tail _ (.tail _ (.tail _ (.tail _ (.tail _ (.tail _ (.tail _ (.tail _ (.head _))))))))))) rfl rfl ?_
                            refine St.gOn (dj := 143) rfl rfl ?_
                            obtain ⟨r21, hr21, hj3⟩ := bnd_e hj3
                            refine St.callV (c_bank_Whole hr21) ent33 rfl rfl rfl rfl ⟨(.tail _ (.tail _ (.tail _ (.tail _ (.tail _ (.tail _ (.tail _ (.tail _ (.tail _ (.tail _ (.tail _ (.tail _ (.head _))))))))))))), trivial⟩ ?_
                            refine St.gOn (dj := 143) rfl rfl ?_
                            refine St.p rfl rfl ?_
                            refine St.gOn (dj := 143) rfl rfl ?_
                            refine St.p rfl rfl ?_
                            refine St.gOn (dj := 143) rfl rfl ?_
                            refine St.loadB 7 rfl rfl (.tail _ (.tail _ (.tail _ (.tail _ (.tail _ (.tail _ (.tail _ (.tail _ (.tail _ (.tail _ (.head _))))))))))) rfl rfl ?_
                            refine St.gOn (dj := 143) rfl rfl ?_
                            obtain ⟨r22, hr22, hj3⟩ := bnd_e hj3
                            refine St.callV (c_ref29_Whole hr22) ent34 rfl rfl rfl rfl ⟨(.tail _ (.tail _ (.tail _ (.tail _ (.tail _ (.tail _ (.tail _ (.tail _ (.tail _ (.tail _ (.tail _ (.tail _ (.head _))))))))))))), trivial⟩ ?_
                            refine St.gOn (dj := 143) rfl rfl ?_
                            refine St.p rfl rfl ?_
                            refine St.p rfl rfl ?_
                            refine St.doneQ ?_
                            injection hj3 with hj3
                            subst hj3
                            refine St.thenN ?_
                            exact St.hereE () ⟨rfl, rfl, rfl, rfl, rfl, rfl, rfl, rfl, rfl, rfl, rfl, rfl, rfl, rfl, rfl, trivial⟩ (fun _ w => ((.k (.k (.k (.k (.k (.k (.k (.k (.k (.k (.k (.k (.k (.k (.k (.k (.k (.k .z)))))))))))))))))) : Keep _ _).sat w)
                · rintro e5
                  refine St.cond _ rfl (fun hb12 => ?_) (fun hb12 => ?_)
                  · replace h1 := bif_t hb12 h1
                    refine St.seq ?_
                    refine St.region ?_
                    refine St.p rfl rfl ?_
                    refine St.done ?_
                    refine St.thenN ?_
                    refine St.prune (Γ' := [(10, _)]) ⟨rfl, trivial⟩ (.d (.d (.d (.d (.d (.d (.d (.d (.d (.d (.d (.d (.d (.d (.d (.d (.d (.d .z)))))))))))))))))) ?_
                    refine St.ret ?_
                    repeat (first | refine St.thenR ?_ | refine St.blkR ?_)
                    injection h1 with h1
                    subst h1
                    have ho := hd1 _ rfl
                    subst ho
                    have h : some _ = some _ := h
                    injection h with h
                    subst h
                    exact St.finR Try.results7 (.tmp rfl .nil) rfl [] ⟨rfl, rfl⟩ (fun _ w => (.z : Keep _ _).sat w)
                  · replace h1 := bif_f hb12 h1
                    refine St.skip ?_
                    refine St.thenN ?_
                    refine St.prune (Γ' := [(3, _), (4, _), (7, _), (11, _), (13, _), (15, _), (16, _), (17, _), (18, _), (19, _), (21, _), (65, _), (66, _), (67, _)]) ⟨rfl, rfl, rfl, rfl, rfl, rfl, rfl, rfl, rfl, rfl, rfl, rfl, rfl, rfl, trivial⟩ (.k (.k (.k (.k (.k (.k (.k (.k (.k (.k (.k (.k (.k (.k (.k (.k (.k (.k .z)))))))))))))))))) ?_
                    refine St.seq ?_
                    refine St.region ?_
                    refine St.loadB 0 rfl rfl (.tail _ (.tail _ (.tail _ (.tail _ (.tail _ (.tail _ (.tail _ (.tail _ (.tail _ (.tail _ (.head _))))))))))) rfl rfl ?_
                    refine St.loadB 0 rfl rfl (.tail _ (.tail _ (.tail _ (.tail _ (.tail _ (.tail _ (.tail _ (.tail _ (.head _))))))))) rfl rfl ?_
                    refine St.p rfl rfl ?_
                    obtain ⟨r23, hr23, h1⟩ := bnd_e h1
                    refine St.call (c_bank_Write hr23) ent13 rfl rfl rfl (fun _ w => Sat.dup (G := [.ro (SlL eu8 A17 c17 x2.Slots.e0.Image.Data), .ro (SlL eu8 A18 c18 x2.Slots.e1.Image.Data), .ro (SlL eu8 A21 c21 o4.2.1.Data)]) rfl ⟨(.tail _ (.tail _ (.tail _ (.tail _ (.tail _ (.tail _ (.tail _ (.tail _ (.tail _ (.tail _ (.tail _ (.head _)))))))))))), (.tail _ (.tail _ (.tail _ (.tail _ (.tail _ (.tail _ (.tail _ (.tail _ (.tail _ (.tail _ (.tail _ (.tail _ (.head _))))))))))))), (.tail _ (.tail _ (.tail _ (.tail _ (.tail _ (.tail _ (.tail _ (.head _)))))))), trivial⟩ w) ?_
                    rintro _ _ ⟨A28, c28, A29, c29, rfl, rfl⟩
                    refine St.asrt (F' := .ro (SlL eu8 A28 c28 r23.1.Slots.e0.Image.Data) :: .ro (SlL eu8 A29 c29 r23.1.Slots.e1.Image.Data) :: .res (Box g14 35 (bx_T_Device r13.1 A26 c26 A27 c27)) :: .ro (SlL eu8 A26 c26 r13.1.Slots.e0.Image.Data) :: .ro (SlL eu8 A27 c27 r13.1.Slots.e1.Image.Data) :: .res (Box g13 35 (bx_T_Device r12.1 A24 c24 A25 c25)) :: .ro (SlL eu8 A24 c24 r12.1.Slots.e0.Image.Data) :: .ro (SlL eu8 A25 c25 r12.1.Slots.e1.Image.Data) :: .ro (SlL eu8 A22 c22 o4.2.2.1) :: .ro (SlL eu8 A21 c21 o4.2.1.Data) :: .res (Box g12 30 (bx_T_Image o4.2.1 A21 c21)) :: .res (Box g3 63 [.slice A22 o4.2.2.1.length c22, .int .i64 o4.2.2.2]) :: .res (Box g9 35 (bx_T_Device x2 A17 c17 A18 c18)) :: .ro (SlL eu8 A17 c17 x2.Slots.e0.Image.Data) :: .ro (SlL eu8 A18 c18 x2.Slots.e1.Image.Data) :: .ro (Sl (codL l_T_Device) (some ⟨g8, 0, none⟩) ([r4.2, r6.2, raw] : List T_Device).length ([r4.2, r6.2, raw])) :: .res (Box g7 30 (bx_T_Image r5.2 A11 c11)) :: .ro (SlL eu8 A11 c11 r5.2.Data) :: .res (Box g2 30 (bx_T_Image i_p2 A4 c4)) :: .ro (SlL eu8 A4 c4 i_p2.Data) :: R) (fun _ w => w) ?_
                    iterate 3 refine St.p rfl rfl ?_
                    refine St.store 0 rfl rfl rfl rfl rfl rfl (.s (.s (.s (.s (.s .z))))) rfl ?_
                    refine St.p rfl rfl ?_
                    refine St.done ?_
                    refine St.thenN ?_
                    refine St.prune (Γ' := [(3, _), (4, _), (7, _), (11, _), (13, _), (15, _), (16, _), (17, _), (18, _), (19, _), (20, _), (21, _), (65, _), (66, _), (67, _)]) ⟨rfl, rfl, rfl, rfl, rfl, rfl, rfl, rfl, rfl, rfl, rfl, rfl, rfl, rfl, rfl, trivial⟩ (.k (.k (.k (.k (.k (.k (.d (.d (.k (.k (.k (.k (.k (.k (.k (.k (.k (.k (.k (.k .z)))))))))))))))))))) ?_
                    refine St.seq ?_
                    refine St.region ?_
                    refine St.loadB 0 rfl rfl (.tail _ (.tail _ (.tail _ (.tail _ (.tail _ (.tail _ (.tail _ (.tail _ (.tail _ (.tail _ (.head _))))))))))) rfl rfl ?_
                    refine St.loadB 0 rfl rfl (.tail _ (.tail _ (.tail _ (.tail _ (.tail _ (.tail _ (.tail _ (.tail _ (.head _))))))))) rfl rfl ?_
                    refine St.p rfl rfl ?_
                    obtain ⟨r24, hr24, h1⟩ := bnd_e h1
                    refine St.call (c_ref29_Write hr24) ent35 rfl rfl rfl (fun _ w => Sat.dup (G := [.ro (SlL eu8 A17 c17 x2.Slots.e0.Image.Data), .ro (SlL eu8 A18 c18 x2.Slots.e1.Image.Data), .ro (SlL eu8 A21 c21 o4.2.1.Data)]) rfl ⟨(.tail _ (.tail _ (.tail _ (.tail _ (.tail _ (.tail _ (.tail _ (.tail _ (.tail _ (.tail _ (.tail _ (.head _)))))))))))), (.tail _ (.tail _ (.tail _ (.tail _ (.tail _ (.tail _ (.tail _ (.tail _ (.tail _ (.tail _ (.tail _ (.tail _ (.head _))))))))))))), (.tail _ (.tail _ (.tail _ (.tail _ (.tail _ (.tail _ (.tail _ (.head _)))))))), trivial⟩ w) ?_
                    rintro _ _ ⟨A30, c30, A31, c31, rfl, rfl⟩
                    refine St.asrt (F' := .ro (SlL eu8 A30 c30 r24.1.Slots.e0.Image.Data) :: .ro (SlL eu8 A31 c31 r24.1.Slots.e1.Image.Data) :: .res (Box g13 35 (bx_T_Device r23.1 A28 c28 A29 c29)) :: .ro (SlL eu8 A28 c28 r23.1.Slots.e0.Image.Data) :: .ro (SlL eu8 A29 c29 r23.1.Slots.e1.Image.Data) :: .res (Box g14 35 (bx_T_Device r13.1 A26 c26 A27 c27)) :: .ro (SlL eu8 A26 c26 r13.1.Slots.e0.Image.Data) :: .ro (SlL eu8 A27 c27 r13.1.Slots.e1.Image.Data) :: .ro (SlL eu8 A22 c22 o4.2.2.1) :: .ro (SlL eu8 A21 c21 o4.2.1.Data) :: .res (Box g12 30 (bx_T_Image o4.2.1 A21 c21)) :: .res (Box g3 63 [.slice A22 o4.2.2.1.length c22, .int .i64 o4.2.2.2]) :: .res (Box g9 35 (bx_T_Device x2 A17 c17 A18 c18)) :: .ro (SlL eu8 A17 c17 x2.Slots.e0.Image.Data) :: .ro (SlL eu8 A18 c18 x2.Slots.e1.Image.Data) :: .ro (Sl (codL l_T_Device) (some ⟨g8, 0, none⟩) ([r4.2, r6.2, raw] : List T_Device).length ([r4.2, r6.2, raw])) :: .res (Box g7 30 (bx_T_Image r5.2 A11 c11)) :: .ro (SlL eu8 A11 c11 r5.2.Data) :: .res (Box g2 30 (bx_T_Image i_p2 A4 c4)) :: .ro (SlL eu8 A4 c4 i_p2.Data) :: R) (fun _ w => w) ?_
                    iterate 3 refine St.p rfl rfl ?_
                    refine St.store 0 rfl rfl rfl rfl rfl rfl (.s (.s (.s (.s (.s .z))))) rfl ?_
                    refine St.p rfl rfl ?_
                    refine St.done ?_
                    refine St.thenN ?_
                    refine St.prune (Γ' := [(3, _), (4, _), (7, _), (11, _), (13, _), (15, _), (16, _), (18, _), (19, _), (20, _), (21, _), (22, _), (65, _), (66, _), (67, _)]) ⟨rfl, rfl, rfl, rfl, rfl, rfl, rfl, rfl, rfl, rfl, rfl, rfl, rfl, rfl, rfl, trivial⟩ (.k (.k (.k (.k (.k (.k (.d (.d (.k (.k (.k (.k (.k (.k (.k (.k (.k (.k (.k (.k .z)))))))))))))))))))) ?_
                    refine St.seq ?_
                    refine St.seq ?_
                    obtain ⟨o6, hj4, h1⟩ := bnd_e h1
                    refine St.cutE (fun (e6 : Unit) => [(3, .int .i64 n_p3), (4, .int .u32 sum), (7, .pointer (some ⟨g2, 0, none⟩)), (11, .pointer (some ⟨g3, 0, none⟩)), (13, .pointer (some ⟨g7, 0, none⟩)), (15, .pointer (some ⟨g9, 0, none⟩)), (16, .pointer (some ⟨g12, 0, none⟩)), (18, .int .u32 x3), (19, .pointer (some ⟨g13, 0, none⟩)), (21, .pointer (some ⟨g14, 0, none⟩)), (65, .slice (some ⟨g8, 0, none⟩) ([r4.2, r6.2, raw]).length ([r4.2, r6.2, raw] : List T_Device).length), (66, .int .i64 ((3 : Nat) : Int)), (67, .int .i64 s1.1), (176, .bool o6)]) (fun e6 => .res (Box g14 35 (bx_T_Device r24.1 A30 c30 A31 c31)) :: .ro (SlL eu8 A30 c30 r24.1.Slots.e0.Image.Data) :: .ro (SlL eu8 A31 c31 r24.1.Slots.e1.Image.Data) :: .res (Box g13 35 (bx_T_Device r23.1 A28 c28 A29 c29)) :: .ro (SlL eu8 A28 c28 r23.1.Slots.e0.Image.Data) :: .ro (SlL eu8 A29 c29 r23.1.Slots.e1.Image.Data) :: .ro (SlL eu8 A22 c22 o4.2.2.1) :: .ro (SlL eu8 A21 c21 o4.2.1.Data) :: .res (Box g12 30 (bx_T_Image o4.2.1 A21 c21)) :: .res (Box g3 63 [.slice A22 o4.2.2.1.length c22, .int .i64 o4.2.2.2]) :: .res (Box g9 35 (bx_T_Device x2 A17 c17 A18 c18)) :: .ro (SlL eu8 A17 c17 x2.Slots.e0.Image.Data) :: .ro (SlL eu8 A18 c18 x2.Slots.e1.Image.Data) :: .ro (Sl (codL l_T_Device) (some ⟨g8, 0, none⟩) ([r4.2, r6.2, raw] : List T_Device).length ([r4.2, r6.2, raw])) :: .res (Box g7 30 (bx_T_Image r5.2 A11 c11)) :: .ro (SlL eu8 A11 c11 r5.2.Data) :: .res (Box g2 30 (bx_T_Image i_p2 A4 c4)) :: .ro (SlL eu8 A4 c4 i_p2.Data) :: R) ?_ ?_
                    · refine St.region ?_
                      iterate 4 refine St.p rfl rfl ?_
                      refine St.gSplit (dj := 171) _ rfl (fun hb13 => ?_) (fun hb13 => ?_)
                      · replace hj4 := bif_t hb13 hj4
                        refine St.gOff (dj := 171) rfl rfl rfl rfl ?_
                        refine St.gOff (dj := 171) rfl rfl rfl rfl ?_
                        refine St.gOff (dj := 171) rfl rfl rfl rfl ?_
                        refine St.gOff (dj := 171) rfl rfl rfl rfl ?_
                        refine St.p rfl rfl ?_
                        refine St.done ?_
                        injection hj4 with hj4
                        subst hj4
                        refine St.thenN ?_
                        exact St.hereE () ⟨rfl, rfl, rfl, rfl, rfl, rfl, rfl, rfl, rfl, rfl, rfl, rfl, rfl, rfl, trivial⟩ (fun _ w => ((.k (.k (.k (.k (.k (.k (.k (.k (.k (.k (.k (.k (.k (.k (.k (.k (.k (.k .z)))))))))))))))))) : Keep _ _).sat w)
                      · replace hj4 := bif_f hb13 hj4
                        refine St.gOn (dj := 171) rfl rfl ?_
                        refine St.loadB 0 rfl rfl (.tail _ (.tail _ (.tail _ (.head _)))) rfl rfl ?_
                        refine St.gOn (dj := 171) rfl rfl ?_
                        refine St.loadB 0 rfl rfl (.head _) rfl rfl ?_
                        refine St.gOn (dj := 171) rfl rfl ?_
                        obtain ⟨r25, hr25, hj4⟩ := bnd_e hj4
                        refine St.callV (c_ref29_Same hr25) ent26 rfl rfl rfl rfl ⟨(.tail _ (.tail _ (.tail _ (.tail _ (.head _))))), (.tail _ (.tail _ (.tail _ (.tail _ (.tail _ (.head _)))))), (.tail _ (.head _)), (.tail _ (.tail _ (.head _))), trivial⟩ ?_
                        refine St.gOn (dj := 171) rfl rfl ?_
                        refine St.p rfl rfl ?_
                        refine St.p rfl rfl ?_
                        refine St.done ?_
                        injection hj4 with hj4
                        subst hj4
                        refine St.thenN ?_
                        exact St.hereE () ⟨rfl, rfl, rfl, rfl, rfl, rfl, rfl, rfl, rfl, rfl, rfl, rfl, rfl, rfl, trivial⟩ (fun _ w => ((.k (.k (.k (.k (.k (.k (.k (.k (.k (.k (.k (.k (.k (.k (.k (.k (.k (.k .z)))))))))))))))))) : Keep _ _).sat w)
                    · rintro e6
                      refine St.cond _ rfl (fun hb14 => ?_) (fun hb14 => ?_)
                      · replace h1 := bif_t hb14 h1
                        refine St.seq ?_
                        refine St.region ?_
                        refine St.p rfl rfl ?_
                        refine St.done ?_
                        refine St.thenN ?_
                        refine St.prune (Γ' := [(10, _)]) ⟨rfl, trivial⟩ (.d (.d (.d (.d (.d (.d (.d (.d (.d (.d (.d (.d (.d (.d (.d (.d (.d (.d .z)))))))))))))))))) ?_
                        refine St.ret ?_
                        repeat (first | refine St.thenR ?_ | refine St.blkR ?_)
                        injection h1 with h1
                        subst h1
                        have ho := hd1 _ rfl
                        subst ho
                        have h : some _ = some _ := h
                        injection h with h
                        subst h
                        exact St.finR Try.results7 (.tmp rfl .nil) rfl [] ⟨rfl, rfl⟩ (fun _ w => (.z : Keep _ _).sat w)
                      · replace h1 := bif_f hb14 h1
                        refine St.skip ?_
                        refine St.thenN ?_
                        refine St.prune (Γ' := [(3, _), (4, _), (7, _), (11, _), (13, _), (15, _), (16, _), (18, _), (19, _), (21, _), (65, _), (66, _), (67, _)]) ⟨rfl, rfl, rfl, rfl, rfl, rfl, rfl, rfl, rfl, rfl, rfl, rfl, rfl, trivial⟩ (.k (.k (.k (.k (.k (.k (.k (.k (.k (.k (.k (.k (.k (.k (.k (.k (.k (.k .z)))))))))))))))))) ?_
                        refine St.seq ?_
                        refine St.region ?_
                        refine St.loadB 0 rfl rfl (.tail _ (.tail _ (.tail _ (.tail _ (.tail _ (.tail _ (.tail _ (.tail _ (.tail _ (.tail _ (.head _))))))))))) rfl rfl ?_
                        refine St.p rfl rfl ?_
                        obtain ⟨r26, hr26, h1⟩ := bnd_e h1
                        refine St.call (c_bank_Finish hr26) ent16 rfl rfl rfl (fun _ w => Sat.dup (G := [.ro (SlL eu8 A17 c17 x2.Slots.e0.Image.Data), .ro (SlL eu8 A18 c18 x2.Slots.e1.Image.Data)]) rfl ⟨(.tail _ (.tail _ (.tail _ (.tail _ (.tail _ (.tail _ (.tail _ (.tail _ (.tail _ (.tail _ (.tail _ (.head _)))))))))))), (.tail _ (.tail _ (.tail _ (.tail _ (.tail _ (.tail _ (.tail _ (.tail _ (.tail _ (.tail _ (.tail _ (.tail _ (.head _))))))))))))), trivial⟩ w) ?_
                        rintro _ _ ⟨A32, c32, A33, c33, rfl, rfl⟩
                        refine St.asrt (F' := .ro (SlL eu8 A32 c32 r26.1.Slots.e0.Image.Data) :: .ro (SlL eu8 A33 c33 r26.1.Slots.e1.Image.Data) :: .res (Box g14 35 (bx_T_Device r24.1 A30 c30 A31 c31)) :: .ro (SlL eu8 A30 c30 r24.1.Slots.e0.Image.Data) :: .ro (SlL eu8 A31 c31 r24.1.Slots.e1.Image.Data) :: .res (Box g13 35 (bx_T_Device r23.1 A28 c28 A29 c29)) :: .ro (SlL eu8 A28 c28 r23.1.Slots.e0.Image.Data) :: .ro (SlL eu8 A29 c29 r23.1.Slots.e1.Image.Data) :: .ro (SlL eu8 A22 c22 o4.2.2.1) :: .ro (SlL eu8 A21 c21 o4.2.1.Data) :: .res (Box g12 30 (bx_T_Image o4.2.1 A21 c21)) :: .res (Box g3 63 [.slice A22 o4.2.2.1.length c22, .int .i64 o4.2.2.2]) :: .res (Box g9 35 (bx_T_Device x2 A17 c17 A18 c18)) :: .ro (SlL eu8 A17 c17 x2.Slots.e0.Image.Data) :: .ro (SlL eu8 A18 c18 x2.Slots.e1.Image.Data) :: .ro (Sl (codL l_T_Device) (some ⟨g8, 0, none⟩) ([r4.2, r6.2, raw] : List T_Device).length ([r4.2, r6.2, raw])) :: .res (Box g7 30 (bx_T_Image r5.2 A11 c11)) :: .ro (SlL eu8 A11 c11 r5.2.Data) :: .res (Box g2 30 (bx_T_Image i_p2 A4 c4)) :: .ro (SlL eu8 A4 c4 i_p2.Data) :: R) (fun _ w => w) ?_
                        iterate 3 refine St.p rfl rfl ?_
                        refine St.store 0 rfl rfl rfl rfl rfl rfl (.s (.s (.s (.s (.s .z))))) rfl ?_
                        refine St.p rfl rfl ?_
                        refine St.done ?_
                        refine St.thenN ?_
                        refine St.prune (Γ' := [(3, _), (4, _), (7, _), (11, _), (13, _), (15, _), (16, _), (18, _), (19, _), (20, _), (21, _), (65, _), (66, _), (67, _)]) ⟨rfl, rfl, rfl, rfl, rfl, rfl, rfl, rfl, rfl, rfl, rfl, rfl, rfl, rfl, trivial⟩ (.k (.k (.k (.k (.k (.k (.d (.d (.k (.k (.k (.k (.k (.k (.k (.k (.k (.k (.k (.k .z)))))))))))))))))))) ?_
                        refine St.seq ?_
                        refine St.region ?_
                        refine St.loadB 0 rfl rfl (.tail _ (.tail _ (.tail _ (.tail _ (.tail _ (.tail _ (.tail _ (.tail _ (.tail _ (.tail _ (.head _))))))))))) rfl rfl ?_
                        refine St.p rfl rfl ?_
                        obtain ⟨r27, hr27, h1⟩ := bnd_e h1
                        refine St.call (c_ref29_Finish hr27) ent36 rfl rfl rfl (fun _ w => Sat.dup (G := [.ro (SlL eu8 A17 c17 x2.Slots.e0.Image.Data), .ro (SlL eu8 A18 c18 x2.Slots.e1.Image.Data)]) rfl ⟨(.tail _ (.tail _ (.tail _ (.tail _ (.tail _ (.tail _ (.tail _ (.tail _ (.tail _ (.tail _ (.tail _ (.head _)))))))))))), (.tail _ (.tail _ (.tail _ (.tail _ (.tail _ (.tail _ (.tail _ (.tail _ (.tail _ (.tail _ (.tail _ (.tail _ (.head _))))))))))))), trivial⟩ w) ?_
                        rintro _ _ ⟨A34, c34, A35, c35, rfl, rfl⟩
                        refine St.asrt (F' := .ro (SlL eu8 A34 c34 r27.1.Slots.e0.Image.Data) :: .ro (SlL eu8 A35 c35 r27.1.Slots.e1.Image.Data) :: .res (Box g13 35 (bx_T_Device r26.1 A32 c32 A33 c33)) :: .ro (SlL eu8 A32 c32 r26.1.Slots.e0.Image.Data) :: .ro (SlL eu8 A33 c33 r26.1.Slots.e1.Image.Data) :: .res (Box g14 35 (bx_T_Device r24.1 A30 c30 A31 c31)) :: .ro (SlL eu8 A30 c30 r24.1.Slots.e0.Image.Data) :: .ro (SlL eu8 A31 c31 r24.1.Slots.e1.Image.Data) :: .ro (SlL eu8 A22 c22 o4.2.2.1) :: .ro (SlL eu8 A21 c21 o4.2.1.Data) :: .res (Box g12 30 (bx_T_Image o4.2.1 A21 c21)) :: .res (Box g3 63 [.slice A22 o4.2.2.1.length c22, .int .i64 o4.2.2.2]) :: .res (Box g9 35 (bx_T_Device x2 A17 c17 A18 c18)) :: .ro (SlL eu8 A17 c17 x2.Slots.e0.Image.Data) :: .ro (SlL eu8 A18 c18 x2.Slots.e1.Image.Data) :: .ro (Sl (codL l_T_Device) (some ⟨g8, 0, none⟩) ([r4.2, r6.2, raw] : List T_Device).length ([r4.2, r6.2, raw])) :: .res (Box g7 30 (bx_T_Image r5.2 A11 c11)) :: .ro (SlL eu8 A11 c11 r5.2.Data) :: .res (Box g2 30 (bx_T_Image i_p2 A4 c4)) :: .ro (SlL eu8 A4 c4 i_p2.Data) :: R) (fun _ w => w) ?_
                        iterate 3 refine St.p rfl rfl ?_
                        refine St.store 0 rfl rfl rfl rfl rfl rfl (.s (.s (.s (.s (.s .z))))) rfl ?_
                        refine St.p rfl rfl ?_
                        refine St.done ?_
                        refine St.thenN ?_
                        refine St.prune (Γ' := [(3, _), (4, _), (7, _), (11, _), (13, _), (15, _), (16, _), (18, _), (19, _), (20, _), (21, _), (22, _), (65, _), (66, _), (67, _)]) ⟨rfl, rfl, rfl, rfl, rfl, rfl, rfl, rfl, rfl, rfl, rfl, rfl, rfl, rfl, rfl, trivial⟩ (.k (.k (.k (.k (.k (.k (.d (.d (.k (.k (.k (.k (.k (.k (.k (.k (.k (.k (.k (.k .z)))))))))))))))))))) ?_
                        refine St.seq ?_
                        refine St.seq ?_
                        obtain ⟨o7, hj5, h1⟩ := bnd_e h1
                        refine St.cutE (fun (e7 : Unit) => [(3, .int .i64 n_p3), (4, .int .u32 sum), (7, .pointer (some ⟨g2, 0, none⟩)), (11, .pointer (some ⟨g3, 0, none⟩)), (13, .pointer (some ⟨g7, 0, none⟩)), (15, .pointer (some ⟨g9, 0, none⟩)), (65, .slice (some ⟨g8, 0, none⟩) ([r4.2, r6.2, raw]).length ([r4.2, r6.2, raw] : List T_Device).length), (66, .int .i64 ((3 : Nat) : Int)), (67, .int .i64 s1.1), (217, .bool o7)]) (fun e7 => .ro (SlL eu8 A22 c22 o4.2.2.1) :: .res (Box g3 63 [.slice A22 o4.2.2.1.length c22, .int .i64 o4.2.2.2]) :: .res (Box g9 35 (bx_T_Device x2 A17 c17 A18 c18)) :: .ro (SlL eu8 A17 c17 x2.Slots.e0.Image.Data) :: .ro (SlL eu8 A18 c18 x2.Slots.e1.Image.Data) :: .ro (Sl (codL l_T_Device) (some ⟨g8, 0, none⟩) ([r4.2, r6.2, raw] : List T_Device).length ([r4.2, r6.2, raw])) :: .res (Box g7 30 (bx_T_Image r5.2 A11 c11)) :: .ro (SlL eu8 A11 c11 r5.2.Data) :: .res (Box g2 30 (bx_T_Image i_p2 A4 c4)) :: .ro (SlL eu8 A4 c4 i_p2.Data) :: R) ?_ ?_
                        · refine St.regionX (iL [(.fl, 0), (.fl, 1), (.fl, 2), (.fl, 3), (.fx, 4), (.fx, 5), (.qc, 6), (.fl, 7), (.fl, 8), (.fl, 9), (.fx, 10), (.fx, 11), (.fl, 12), (.fl, 14), (.fl, 15), (.fl, 16), (.ef, 13), (.ef, 17), (.ef, 18), (.fl, 19), (.fl, 20), (.fl, 21), (.fx, 22), (.fl, 24), (.ef, 23), (.ef, 25), (.ef, 26), (.fl, 27), (.fl, 28)] .nil) (.res (Box g14 35 (bx_T_Device r27.1 A34 c34 A35 c35)) :: .ro (SlL eu8 A34 c34 r27.1.Slots.e0.Image.Data) :: .ro (SlL eu8 A35 c35 r27.1.Slots.e1.Image.Data) :: .res (Box g13 35 (bx_T_Device r26.1 A32 c32 A33 c33)) :: .ro (SlL eu8 A32 c32 r26.1.Slots.e0.Image.Data) :: .ro (SlL eu8 A33 c33 r26.1.Slots.e1.Image.Data) :: .ro (SlL eu8 A22 c22 o4.2.2.1) :: .ro (SlL eu8 A21 c21 o4.2.1.Data) :: .res (Box g12 30 (bx_T_Image o4.2.1 A21 c21)) :: .res (Box g3 63 [.slice A22 o4.2.2.1.length c22, .int .i64 o4.2.2.2]) :: .res (Box g9 35 (bx_T_Device x2 A17 c17 A18 c18)) :: .ro (SlL eu8 A17 c17 x2.Slots.e0.Image.Data) :: .ro (SlL eu8 A18 c18 x2.Slots.e1.Image.Data) :: .ro (Sl (codL l_T_Device) (some ⟨g8, 0, none⟩) ([r4.2, r6.2, raw] : List T_Device).length ([r4.2, r6.2, raw])) :: .res (Box g7 30 (bx_T_Image r5.2 A11 c11)) :: .ro (SlL eu8 A11 c11 r5.2.Data) :: .res (Box g2 30 (bx_T_Image i_p2 A4 c4)) :: .ro (SlL eu8 A4 c4 i_p2.Data) :: R) mixed (by kernel_rfl) (fun _ w => ((.k (.k (.k (.k (.k (.k (.k (.k (.k (.k (.k (.k (.k (.k (.k (.k (.k (.k .z)))))))))))))))))) : Keep _ _).sat w) ?_
                          refine St.xfl (fun _ h => h) (Rd.p rfl) rfl ?_
                          refine St.xfl (fun _ h => h) (Rd.p rfl) rfl ?_
                          refine St.xfl (fun _ h => h) (Rd.p rfl) rfl ?_
                          refine St.xfl (fun _ h => h) (Rd.p rfl) rfl ?_
                          refine St.splitB (dj := 192) _ rfl (fun hb15 => ?_) (fun hb15 => ?_)
                          · replace hj5 := bif_t hb15 hj5
                            refine St.xgOff (dj := 192) rfl rfl rfl rfl ?_
                            refine St.xgOff (dj := 192) rfl rfl rfl rfl ?_
                            refine St.xgOff (dj := 192) rfl rfl rfl rfl ?_
                            refine St.xgOff (dj := 192) rfl rfl rfl rfl ?_
                            refine St.xfl (fun _ h => h) (Rd.p rfl) rfl ?_
                            refine St.xfl (fun _ h => h) (Rd.p rfl) rfl ?_
                            refine St.xgOff (dj := 198) rfl rfl rfl rfl ?_
                            refine St.xgOff (dj := 198) rfl rfl rfl rfl ?_
                            refine St.xgOff (dj := 198) rfl rfl rfl rfl ?_
                            refine St.xgOff (dj := 198) rfl rfl rfl rfl ?_
                            refine St.xgOff (dj := 198) rfl rfl rfl rfl ?_
                            refine St.xgOff (dj := 198) rfl rfl rfl rfl ?_
                            refine St.xgOff (dj := 198) rfl rfl rfl rfl ?_
                            refine St.xgOff (dj := 198) rfl rfl rfl rfl ?_
                            refine St.xgOff (dj := 198) rfl rfl rfl rfl ?_
                            refine St.xgOff (dj := 198) rfl rfl rfl rfl ?_
                            refine St.xfl (fun _ h => h) (Rd.p rfl) rfl ?_
                            refine St.xfl (fun _ h => h) (Rd.p rfl) rfl ?_
                            refine St.xgOff (dj := 210) rfl rfl rfl rfl ?_
                            refine St.xgOff (dj := 210) rfl rfl rfl rfl ?_
                            refine St.xgOff (dj := 210) rfl rfl rfl rfl ?_
                            refine St.xgOff (dj := 210) rfl rfl rfl rfl ?_
                            refine St.xgOff (dj := 210) rfl rfl rfl rfl ?_
                            refine St.xgOff (dj := 210) rfl rfl rfl rfl ?_
                            refine St.xfl (fun _ h => h) (Rd.p rfl) rfl ?_
                            refine St.xdone ?_
                            injection hj5 with hj5
                            subst hj5
                            refine St.thenN ?_
                            exact St.hereE () ⟨rfl, rfl, rfl, rfl, rfl, rfl, rfl, rfl, rfl, rfl, trivial⟩ (fun _ w => ((.d (.d (.d (.d (.d (.d (.k (.d (.d (.k (.k (.k (.k (.k (.k (.k (.k (.k .z)))))))))))))))))) : Keep _ _).sat w)
                          · replace hj5 := bif_f hb15 hj5
                            refine St.xgOn (dj := 192) rfl rfl ?_
                            refine St.xfx (Rd.loadB 0 rfl (.tail _ (.tail _ (.tail _ (.head _)))) rfl rfl) rfl ?_
                            refine St.xgOn (dj := 192) rfl rfl ?_
                            refine St.xfx (Rd.loadB 0 rfl (.head _) rfl rfl) rfl ?_
                            refine St.xgOn (dj := 192) rfl rfl ?_
                            obtain ⟨r28, hr28, hj5⟩ := bnd_e hj5
                            refine St.xqc (fun _ h => h) (c_ref29_Same hr28) ent26 rfl rfl rfl rfl ⟨(.tail _ (.tail _ (.tail _ (.tail _ (.head _))))), (.tail _ (.tail _ (.tail _ (.tail _ (.tail _ (.head _)))))), (.tail _ (.head _)), (.tail _ (.tail _ (.head _))), trivial⟩ ?_
                            refine St.xgOn (dj := 192) rfl rfl ?_
                            refine St.xfl (fun _ h => h) (Rd.p rfl) rfl ?_
                            refine St.xfl (fun _ h => h) (Rd.p rfl) rfl ?_
                            refine St.xfl (fun _ h => h) (Rd.p rfl) rfl ?_
                            refine St.splitB (dj := 198) _ rfl (fun hb16 => ?_) (fun hb16 => ?_)
                            · replace hj5 := bif_t hb16 hj5
                              refine St.xgOff (dj := 198) rfl rfl rfl rfl ?_
                              refine St.xgOff (dj := 198) rfl rfl rfl rfl ?_
                              refine St.xgOff (dj := 198) rfl rfl rfl rfl ?_
                              refine St.xgOff (dj := 198) rfl rfl rfl rfl ?_
                              refine St.xgOff (dj := 198) rfl rfl rfl rfl ?_
                              refine St.xgOff (dj := 198) rfl rfl rfl rfl ?_
                              refine St.xgOff (dj := 198) rfl rfl rfl rfl ?_
                              refine St.xgOff (dj := 198) rfl rfl rfl rfl ?_
                              refine St.xgOff (dj := 198) rfl rfl rfl rfl ?_
                              refine St.xgOff (dj := 198) rfl rfl rfl rfl ?_
                              refine St.xfl (fun _ h => h) (Rd.p rfl) rfl ?_
                              refine St.xfl (fun _ h => h) (Rd.p rfl) rfl ?_
                              refine St.xgOff (dj := 210) rfl rfl rfl rfl ?_
                              refine St.xgOff (dj := 210) rfl rfl rfl rfl ?_
                              refine St.xgOff (dj := 210) rfl rfl rfl rfl ?_
                              refine St.xgOff (dj := 210) rfl rfl rfl rfl ?_
                              refine St.xgOff (dj := 210) rfl rfl rfl rfl ?_
                              refine St.xgOff (dj := 210) rfl rfl rfl rfl ?_
                              refine St.xfl (fun _ h => h) (Rd.p rfl) rfl ?_
                              refine St.xdone ?_
                              injection hj5 with hj5
                              subst hj5
                              refine St.thenN ?_
                              exact St.hereE () ⟨rfl, rfl, rfl, rfl, rfl, rfl, rfl, rfl, rfl, rfl, trivial⟩ (fun _ w => ((.d (.d (.d (.d (.d (.d (.k (.d (.d (.k (.k (.k (.k (.k (.k (.k (.k (.k .z)))))))))))))))))) : Keep _ _).sat w)
                            · replace hj5 := bif_f hb16 hj5
                              refine St.xgOn (dj := 198) rfl rfl ?_
                              refine St.xfx (Rd.loadB 0 rfl (.tail _ (.tail _ (.tail _ (.tail _ (.tail _ (.tail _ (.tail _ (.tail _ (.tail _ (.tail _ (.head _))))))))))) rfl rfl) rfl ?_
                              refine St.xgOn (dj := 198) rfl rfl ?_
                              refine St.xfx (Rd.loadB 0 rfl (.tail _ (.tail _ (.tail _ (.tail _ (.tail _ (.tail _ (.tail _ (.tail _ (.head _))))))))) rfl rfl) rfl ?_
                              refine St.xgOn (dj := 198) rfl rfl ?_
                              refine St.xfl (fun _ h => h) (Rd.p rfl) rfl ?_
                              refine St.xgOn (dj := 198) rfl rfl ?_
                              refine St.xfl (fun _ h => h) (Rd.loadB 0 rfl (.tail _ (.tail _ (.tail _ (.tail _ (.tail _ (.tail _ (.tail _ (.tail _ (.tail _ (.tail _ (.head _))))))))))) rfl rfl) rfl ?_
                              refine St.xgOn (dj := 198) rfl rfl ?_
                              refine St.xfl (fun _ h => h) (Rd.loadB 0 rfl (.tail _ (.tail _ (.tail _ (.tail _ (.tail _ (.tail _ (.tail _ (.tail _ (.head _))))))))) rfl rfl) rfl ?_
                              refine St.xgOn (dj := 198) rfl rfl ?_
                              refine St.xfl (fun _ h => h) (Rd.p rfl) rfl ?_
                              refine St.xgOn (dj := 198) rfl rfl ?_
                              refine St.xef ?_
                              obtain ⟨r29, hr29, hj5⟩ := bnd_e hj5
                              refine St.call (c_bank_Spoil hr29) ent24 rfl rfl rfl (fun _ w => Sat.dup (G := [.ro (SlL eu8 A17 c17 x2.Slots.e0.Image.Data), .ro (SlL eu8 A18 c18 x2.Slots.e1.Image.Data), .ro (SlL eu8 A21 c21 o4.2.1.Data)]) rfl ⟨(.tail _ (.tail _ (.tail _ (.tail _ (.tail _ (.tail _ (.tail _ (.tail _ (.tail _ (.tail _ (.tail _ (.head _)))))))))))), (.tail _ (.tail _ (.tail _ (.tail _ (.tail _ (.tail _ (.tail _ (.tail _ (.tail _ (.tail _ (.tail _ (.tail _ (.head _))))))))))))), (.tail _ (.tail _ (.tail _ (.tail _ (.tail _ (.tail _ (.tail _ (.head _)))))))), trivial⟩ w) ?_
                              rintro _ _ ⟨A36, c36, A37, c37, rfl, rfl⟩
                              refine St.asrt (F' := .ro (SlL eu8 A36 c36 r29.Slots.e0.Image.Data) :: .ro (SlL eu8 A37 c37 r29.Slots.e1.Image.Data) :: .res (Box g14 35 (bx_T_Device r27.1 A34 c34 A35 c35)) :: .ro (SlL eu8 A34 c34 r27.1.Slots.e0.Image.Data) :: .ro (SlL eu8 A35 c35 r27.1.Slots.e1.Image.Data) :: .res (Box g13 35 (bx_T_Device r26.1 A32 c32 A33 c33)) :: .ro (SlL eu8 A32 c32 r26.1.Slots.e0.Image.Data) :: .ro (SlL eu8 A33 c33 r26.1.Slots.e1.Image.Data) :: .ro (SlL eu8 A22 c22 o4.2.2.1) :: .ro (SlL eu8 A21 c21 o4.2.1.Data) :: .res (Box g12 30 (bx_T_Image o4.2.1 A21 c21)) :: .res (Box g3 63 [.slice A22 o4.2.2.1.length c22, .int .i64 o4.2.2.2]) :: .res (Box g9 35 (bx_T_Device x2 A17 c17 A18 c18)) :: .ro (SlL eu8 A17 c17 x2.Slots.e0.Image.Data) :: .ro (SlL eu8 A18 c18 x2.Slots.e1.Image.Data) :: .ro (Sl (codL l_T_Device) (some ⟨g8, 0, none⟩) ([r4.2, r6.2, raw] : List T_Device).length ([r4.2, r6.2, raw])) :: .res (Box g7 30 (bx_T_Image r5.2 A11 c11)) :: .ro (SlL eu8 A11 c11 r5.2.Data) :: .res (Box g2 30 (bx_T_Image i_p2 A4 c4)) :: .ro (SlL eu8 A4 c4 i_p2.Data) :: R) (fun _ w => w) ?_
                              refine St.xk (fun _ w => ((.d (.d (.k (.k (.k (.k (.k (.k (.k (.k (.k (.k (.k (.k (.k (.k (.k (.k (.k (.k .z)))))))))))))))))))) : Keep _ _).sat w) ?_
                              refine St.xgOn (dj := 198) rfl rfl ?_
                              refine St.xef ?_
                              obtain ⟨r30, hr30, hj5⟩ := bnd_e hj5
                              refine St.call (c_ref29_Spoil hr30) ent37 rfl rfl rfl (fun _ w => Sat.dup (G := [.ro (SlL eu8 A17 c17 x2.Slots.e0.Image.Data), .ro (SlL eu8 A18 c18 x2.Slots.e1.Image.Data), .ro (SlL eu8 A21 c21 o4.2.1.Data)]) rfl ⟨(.tail _ (.tail _ (.tail _ (.tail _ (.tail _ (.tail _ (.tail _ (.tail _ (.tail _ (.tail _ (.tail _ (.tail _ (.tail _ (.head _)))))))))))))), (.tail _ (.tail _ (.tail _ (.tail _ (.tail _ (.tail _ (.tail _ (.tail _ (.tail _ (.tail _ (.tail _ (.tail _ (.tail _ (.tail _ (.head _))))))))))))))), (.tail _ (.tail _ (.tail _ (.tail _ (.tail _ (.tail _ (.tail _ (.tail _ (.tail _ (.head _)))))))))), trivial⟩ w) ?_
                              rintro _ _ ⟨A38, c38, A39, c39, rfl, rfl⟩
                              refine St.asrt (F' := .ro (SlL eu8 A38 c38 r30.Slots.e0.Image.Data) :: .ro (SlL eu8 A39 c39 r30.Slots.e1.Image.Data) :: .ro (SlL eu8 A36 c36 r29.Slots.e0.Image.Data) :: .ro (SlL eu8 A37 c37 r29.Slots.e1.Image.Data) :: .res (Box g14 35 (bx_T_Device r27.1 A34 c34 A35 c35)) :: .ro (SlL eu8 A34 c34 r27.1.Slots.e0.Image.Data) :: .ro (SlL eu8 A35 c35 r27.1.Slots.e1.Image.Data) :: .res (Box g13 35 (bx_T_Device r26.1 A32 c32 A33 c33)) :: .ro (SlL eu8 A32 c32 r26.1.Slots.e0.Image.Data) :: .ro (SlL eu8 A33 c33 r26.1.Slots.e1.Image.Data) :: .ro (SlL eu8 A22 c22 o4.2.2.1) :: .ro (SlL eu8 A21 c21 o4.2.1.Data) :: .res (Box g12 30 (bx_T_Image o4.2.1 A21 c21)) :: .res (Box g3 63 [.slice A22 o4.2.2.1.length c22, .int .i64 o4.2.2.2]) :: .res (Box g9 35 (bx_T_Device x2 A17 c17 A18 c18)) :: .ro (SlL eu8 A17 c17 x2.Slots.e0.Image.Data) :: .ro (SlL eu8 A18 c18 x2.Slots.e1.Image.Data) :: .ro (Sl (codL l_T_Device) (some ⟨g8, 0, none⟩) ([r4.2, r6.2, raw] : List T_Device).length ([r4.2, r6.2, raw])) :: .res (Box g7 30 (bx_T_Image r5.2 A11 c11)) :: .ro (SlL eu8 A11 c11 r5.2.Data) :: .res (Box g2 30 (bx_T_Image i_p2 A4 c4)) :: .ro (SlL eu8 A4 c4 i_p2.Data) :: R) (fun _ w => w) ?_
                              refine St.xk (fun _ w => ((.d (.d (.d (.d (.k (.k (.k (.k (.k (.k (.k (.k (.k (.k (.k (.k (.k (.k (.k (.k (.k (.k .z)))))))))))))))))))))) : Keep _ _).sat w) ?_
                              refine St.xgOn (dj := 198) rfl rfl ?_
                              refine St.xef ?_
                              obtain ⟨r31, hr31, hj5⟩ := bnd_e hj5
                              refine St.callV (c_ref29_Same hr31) ent26 rfl rfl rfl rfl ⟨(.tail _ (.tail _ (.head _))), (.tail _ (.tail _ (.tail _ (.head _)))), (.head _), (.tail _ (.head _)), trivial⟩ ?_
                              refine St.xk (fun _ w => ((.d (.d (.d (.d (.k (.k (.k (.k (.k (.k (.k (.k (.k (.k (.k (.k (.k (.k (.k (.k (.k (.k .z)))))))))))))))))))))) : Keep _ _).sat w) ?_
                              refine St.xgOn (dj := 198) rfl rfl ?_
                              refine St.xfl (fun _ h => h) (Rd.p rfl) rfl ?_
                              refine St.xfl (fun _ h => h) (Rd.p rfl) rfl ?_
                              refine St.xfl (fun _ h => h) (Rd.p rfl) rfl ?_
                              refine St.splitB (dj := 210) _ rfl (fun hb17 => ?_) (fun hb17 => ?_)
                              · replace hj5 := bif_t hb17 hj5
                                refine St.xgOff (dj := 210) rfl rfl rfl rfl ?_
                                refine St.xgOff (dj := 210) rfl rfl rfl rfl ?_
                                refine St.xgOff (dj := 210) rfl rfl rfl rfl ?_
                                refine St.xgOff (dj := 210) rfl rfl rfl rfl ?_
                                refine St.xgOff (dj := 210) rfl rfl rfl rfl ?_
                                refine St.xgOff (dj := 210) rfl rfl rfl rfl ?_
                                refine St.xfl (fun _ h => h) (Rd.p rfl) rfl ?_
                                refine St.xdone ?_
                                injection hj5 with hj5
                                subst hj5
                                refine St.thenN ?_
                                exact St.hereE () ⟨rfl, rfl, rfl, rfl, rfl, rfl, rfl, rfl, rfl, rfl, trivial⟩ (fun _ w => ((.d (.d (.d (.d (.d (.d (.d (.d (.d (.d (.k (.d (.d (.k (.k (.k (.k (.k (.k (.k (.k (.k .z)))))))))))))))))))))) : Keep _ _).sat w)
                              · replace hj5 := bif_f hb17 hj5
                                refine St.xgOn (dj := 210) rfl rfl ?_
                                refine St.xfx (Rd.loadB 0 rfl (.tail _ (.tail _ (.tail _ (.tail _ (.tail _ (.tail _ (.tail _ (.tail _ (.tail _ (.tail _ (.tail _ (.tail _ (.tail _ (.tail _ (.head _))))))))))))))) rfl rfl) rfl ?_
                                refine St.xgOn (dj := 210) rfl rfl ?_
                                refine St.xfl (fun _ h => h) (Rd.loadB 0 rfl (.tail _ (.tail _ (.tail _ (.tail _ (.tail _ (.tail _ (.tail _ (.tail _ (.tail _ (.tail _ (.head _))))))))))) rfl rfl) rfl ?_
                                refine St.xgOn (dj := 210) rfl rfl ?_
                                refine St.xef ?_
                                obtain ⟨r32, hr32, hj5⟩ := bnd_e hj5
                                refine St.call (c_bank_Boot hr32) ent20 rfl rfl rfl (fun _ w => Sat.dup (G := [.ro (SlL eu8 A17 c17 x2.Slots.e0.Image.Data), .ro (SlL eu8 A18 c18 x2.Slots.e1.Image.Data)]) rfl ⟨(.tail _ (.tail _ (.tail _ (.tail _ (.tail _ (.tail _ (.tail _ (.tail _ (.tail _ (.tail _ (.tail _ (.tail _ (.tail _ (.tail _ (.tail _ (.head _)))))))))))))))), (.tail _ (.tail _ (.tail _ (.tail _ (.tail _ (.tail _ (.tail _ (.tail _ (.tail _ (.tail _ (.tail _ (.tail _ (.tail _ (.tail _ (.tail _ (.tail _ (.head _))))))))))))))))), trivial⟩ w) ?_
                                rintro _ _ ⟨A40, c40, A41, c41, rfl, rfl⟩
                                refine St.asrt (F' := .ro (SlL eu8 A40 c40 r32.Slots.e0.Image.Data) :: .ro (SlL eu8 A41 c41 r32.Slots.e1.Image.Data) :: .ro (SlL eu8 A38 c38 r30.Slots.e0.Image.Data) :: .ro (SlL eu8 A39 c39 r30.Slots.e1.Image.Data) :: .ro (SlL eu8 A36 c36 r29.Slots.e0.Image.Data) :: .ro (SlL eu8 A37 c37 r29.Slots.e1.Image.Data) :: .res (Box g14 35 (bx_T_Device r27.1 A34 c34 A35 c35)) :: .ro (SlL eu8 A34 c34 r27.1.Slots.e0.Image.Data) :: .ro (SlL eu8 A35 c35 r27.1.Slots.e1.Image.Data) :: .res (Box g13 35 (bx_T_Device r26.1 A32 c32 A33 c33)) :: .ro (SlL eu8 A32 c32 r26.1.Slots.e0.Image.Data) :: .ro (SlL eu8 A33 c33 r26.1.Slots.e1.Image.Data) :: .ro (SlL eu8 A22 c22 o4.2.2.1) :: .ro (SlL eu8 A21 c21 o4.2.1.Data) :: .res (Box g12 30 (bx_T_Image o4.2.1 A21 c21)) :: .res (Box g3 63 [.slice A22 o4.2.2.1.length c22, .int .i64 o4.2.2.2]) :: .res (Box g9 35 (bx_T_Device x2 A17 c17 A18 c18)) :: .ro (SlL eu8 A17 c17 x2.Slots.e0.Image.Data) :: .ro (SlL eu8 A18 c18 x2.Slots.e1.Image.Data) :: .ro (Sl (codL l_T_Device) (some ⟨g8, 0, none⟩) ([r4.2, r6.2, raw] : List T_Device).length ([r4.2, r6.2, raw])) :: .res (Box g7 30 (bx_T_Image r5.2 A11 c11)) :: .ro (SlL eu8 A11 c11 r5.2.Data) :: .res (Box g2 30 (bx_T_Image i_p2 A4 c4)) :: .ro (SlL eu8 A4 c4 i_p2.Data) :: R) (fun _ w => w) ?_
                                refine St.xk (fun _ w => ((.d (.d (.d (.d (.d (.d (.k (.k (.k (.k (.k (.k (.k (.k (.k (.k (.k (.k (.k (.k (.k (.k (.k (.k .z)))))))))))))))))))))))) : Keep _ _).sat w) ?_
                                refine St.xgOn (dj := 210) rfl rfl ?_
                                refine St.xef ?_
                                obtain ⟨r33, hr33, hj5⟩ := bnd_e hj5
                                refine St.call (c_ref29_Boot hr33) ent38 rfl rfl rfl (fun _ w => Sat.dup (G := [.ro (SlL eu8 A17 c17 x2.Slots.e0.Image.Data), .ro (SlL eu8 A18 c18 x2.Slots.e1.Image.Data)]) rfl ⟨(.tail _ (.tail _ (.tail _ (.tail _ (.tail _ (.tail _ (.tail _ (.tail _ (.tail _ (.tail _ (.tail _ (.tail _ (.tail _ (.tail _ (.tail _ (.tail _ (.tail _ (.head _)))))))))))))))))), (.tail _ (.tail _ (.tail _ (.tail _ (.tail _ (.tail _ (.tail _ (.tail _ (.tail _ (.tail _ (.tail _ (.tail _ (.tail _ (.tail _ (.tail _ (.tail _ (.tail _ (.tail _ (.head _))))))))))))))))))), trivial⟩ w) ?_
                                rintro _ _ ⟨A42, c42, A43, c43, rfl, rfl⟩
                                refine St.asrt (F' := .ro (SlL eu8 A42 c42 r33.Slots.e0.Image.Data) :: .ro (SlL eu8 A43 c43 r33.Slots.e1.Image.Data) :: .ro (SlL eu8 A40 c40 r32.Slots.e0.Image.Data) :: .ro (SlL eu8 A41 c41 r32.Slots.e1.Image.Data) :: .ro (SlL eu8 A38 c38 r30.Slots.e0.Image.Data) :: .ro (SlL eu8 A39 c39 r30.Slots.e1.Image.Data) :: .ro (SlL eu8 A36 c36 r29.Slots.e0.Image.Data) :: .ro (SlL eu8 A37 c37 r29.Slots.e1.Image.Data) :: .res (Box g14 35 (bx_T_Device r27.1 A34 c34 A35 c35)) :: .ro (SlL eu8 A34 c34 r27.1.Slots.e0.Image.Data) :: .ro (SlL eu8 A35 c35 r27.1.Slots.e1.Image.Data) :: .res (Box g13 35 (bx_T_Device r26.1 A32 c32 A33 c33)) :: .ro (SlL eu8 A32 c32 r26.1.Slots.e0.Image.Data) :: .ro (SlL eu8 A33 c33 r26.1.Slots.e1.Image.Data) :: .ro (SlL eu8 A22 c22 o4.2.2.1) :: .ro (SlL eu8 A21 c21 o4.2.1.Data) :: .res (Box g12 30 (bx_T_Image o4.2.1 A21 c21)) :: .res (Box g3 63 [.slice A22 o4.2.2.1.length c22, .int .i64 o4.2.2.2]) :: .res (Box g9 35 (bx_T_Device x2 A17 c17 A18 c18)) :: .ro (SlL eu8 A17 c17 x2.Slots.e0.Image.Data) :: .ro (SlL eu8 A18 c18 x2.Slots.e1.Image.Data) :: .ro (Sl (codL l_T_Device) (some ⟨g8, 0, none⟩) ([r4.2, r6.2, raw] : List T_Device).length ([r4.2, r6.2, raw])) :: .res (Box g7 30 (bx_T_Image r5.2 A11 c11)) :: .ro (SlL eu8 A11 c11 r5.2.Data) :: .res (Box g2 30 (bx_T_Image i_p2 A4 c4)) :: .ro (SlL eu8 A4 c4 i_p2.Data) :: R) (fun _ w => w) ?_
                                refine St.xk (fun _ w => ((.d (.d (.d (.d (.d (.d (.d (.d (.k (.k (.k (.k (.k (.k (.k (.k (.k (.k (.k (.k (.k (.k (.k (.k (.k (.k .z)))))))))))))))))))))))))) : Keep _ _).sat w) ?_
                                refine St.xgOn (dj := 210) rfl rfl ?_
                                refine St.xef ?_
                                obtain ⟨r34, hr34, hj5⟩ := bnd_e hj5
                                refine St.callV (c_ref29_Same hr34) ent26 rfl rfl rfl rfl ⟨(.tail _ (.tail _ (.head _))), (.tail _ (.tail _ (.tail _ (.head _)))), (.head _), (.tail _ (.head _)), trivial⟩ ?_
                                refine St.xk (fun _ w => ((.d (.d (.d (.d (.d (.d (.d (.d (.k (.k (.k (.k (.k (.k (.k (.k (.k (.k (.k (.k (.k (.k (.k (.k (.k (.k .z)))))))))))))))))))))))))) : Keep _ _).sat w) ?_
                                refine St.xgOn (dj := 210) rfl rfl ?_
                                refine St.xfl (fun _ h => h) (Rd.p rfl) rfl ?_
                                refine St.xfl (fun _ h => h) (Rd.p rfl) rfl ?_
                                refine St.xdone ?_
                                injection hj5 with hj5
                                subst hj5
                                refine St.thenN ?_
                                exact St.hereE () ⟨rfl, rfl, rfl, rfl, rfl, rfl, rfl, rfl, rfl, rfl, trivial⟩ (fun _ w => ((.d (.d (.d (.d (.d (.d (.d (.d (.d (.d (.d (.d (.d (.d (.k (.d (.d (.k (.k (.k (.k (.k (.k (.k (.k (.k .z)))))))))))))))))))))))))) : Keep _ _).sat w)
                        · rintro e7
                          refine St.cond _ rfl (fun hb18 => ?_) (fun hb18 => ?_)
                          · replace h1 := bif_t hb18 h1
                            refine St.seq ?_
                            refine St.region ?_
                            refine St.p rfl rfl ?_
                            refine St.done ?_
                            refine St.thenN ?_
                            refine St.prune (Γ' := [(10, _)]) ⟨rfl, trivial⟩ (.d (.d (.d (.d (.d (.d (.d (.d (.d (.d .z)))))))))) ?_
                            refine St.ret ?_
                            repeat (first | refine St.thenR ?_ | refine St.blkR ?_)
                            injection h1 with h1
                            subst h1
                            have ho := hd1 _ rfl
                            subst ho
                            have h : some _ = some _ := h
                            injection h with h
                            subst h
                            exact St.finR Try.results7 (.tmp rfl .nil) rfl [] ⟨rfl, rfl⟩ (fun _ w => (.z : Keep _ _).sat w)
                          · replace h1 := bif_f hb18 h1
                            refine St.skip ?_
                            refine St.thenN ?_
                            refine St.prune (Γ' := [(3, _), (4, _), (7, _), (11, _), (13, _), (15, _), (65, _), (66, _), (67, _)]) ⟨rfl, rfl, rfl, rfl, rfl, rfl, rfl, rfl, rfl, trivial⟩ (.k (.k (.k (.k (.k (.k (.k (.k (.k (.k .z)))))))))) ?_
                            refine St.seq ?_
                            refine St.region ?_
                            refine St.loadB 0 rfl rfl (.tail _ (.tail _ (.head _))) rfl rfl ?_
                            obtain ⟨r35, hr35, h1⟩ := bnd_e h1
                            refine St.callV (c_law29_simple hr35) ent39 rfl rfl rfl rfl ⟨(.tail _ (.tail _ (.tail _ (.head _)))), (.tail _ (.tail _ (.tail _ (.tail _ (.head _))))), trivial⟩ ?_
                            refine St.p rfl rfl ?_
                            refine St.done ?_
                            refine St.thenN ?_
                            refine St.prune (Γ' := [(3, _), (4, _), (7, _), (11, _), (13, _), (65, _), (66, _), (67, _), (220, _)]) ⟨rfl, rfl, rfl, rfl, rfl, rfl, rfl, rfl, rfl, trivial⟩ (.k (.k (.d (.d (.d (.k (.k (.k (.k (.k .z)))))))))) ?_
                            refine St.cond _ rfl (fun hb19 => ?_) (fun hb19 => ?_)
                            · replace h1 := bif_t hb19 h1
                              refine St.seq ?_
                              refine St.region ?_
                              refine St.p rfl rfl ?_
                              refine St.done ?_
                              refine St.thenN ?_
                              refine St.prune (Γ' := [(10, _)]) ⟨rfl, trivial⟩ (.d (.d (.d (.d (.d (.d (.d .z))))))) ?_
                              refine St.ret ?_
                              repeat (first | refine St.thenR ?_ | refine St.blkR ?_)
                              injection h1 with h1
                              subst h1
                              have ho := hd1 _ rfl
                              subst ho
                              have h : some _ = some _ := h
                              injection h with h
                              subst h
                              exact St.finR Try.results7 (.tmp rfl .nil) rfl [] ⟨rfl, rfl⟩ (fun _ w => (.z : Keep _ _).sat w)
                            · replace h1 := bif_f hb19 h1
                              refine St.skip ?_
                              refine St.blkN ?_
                              refine St.thenN ?_
                              refine St.prune (Γ' := [(3, _), (4, _), (7, _), (11, _), (13, _), (65, _), (66, _), (67, _)]) ⟨rfl, rfl, rfl, rfl, rfl, rfl, rfl, rfl, trivial⟩ (.k (.k (.k (.k (.k (.k (.k .z))))))) ?_
                              refine St.region ?_
                              refine St.p rfl rfl ?_
                              refine St.p rfl rfl ?_
                              refine St.done ?_
                              injection h1 with h1
                              subst h1
                              refine St.thenN ?_
                              exact St.again _ (A22, c22) hm1 trivial ⟨rfl, rfl, rfl, rfl, rfl, rfl, rfl, rfl, trivial⟩ (fun _ w => ((.k (.k (.k (.k (.k (.k (.k .z))))))) : Keep _ _).sat (((((((w.front (.s (.s (.s (.s (.s (.s .z))))))).front (.s (.s (.s (.s (.s (.s .z))))))).front (.s (.s (.s (.s (.s (.s .z))))))).front (.s (.s (.s (.s (.s (.s .z))))))).front (.s (.s (.s (.s (.s .z)))))).front (.s (.s (.s (.s (.s (.s .z))))))).front (.s (.s (.s (.s (.s (.s .z))))))))
          · replace h1 := bif_f hb5 h1
            refine St.exit ?_
            repeat (first | refine St.thenX ?_ | refine St.blkMiss rfl ?_)
            refine St.blkHit ?_
            injection h1 with h1
            subst h1
            have ho := hd1 _ rfl
            subst ho
            refine St.thenN ?_
            exact St.hereI (s1.2.1, s1.2.2) (A15, c15) rfl trivial (fun _ w => ((.d (.d (.d (.d (.d (.d (.d .z))))))) : Keep _ _).sat w)
        · rintro o3 ⟨A16, c16⟩ ho
          subst ho
          have h : _ = some _ := h
          refine St.seq ?_
          refine St.region ?_
          refine St.p rfl rfl ?_
          refine St.done ?_
          refine St.thenN ?_
          refine St.ret ?_
          repeat (first | refine St.thenR ?_ | refine St.blkR ?_)
          injection h with h
          subst h
          exact St.finR Try.results7 (.tmp rfl .nil) rfl [] ⟨rfl, rfl⟩ (fun _ w => (.z : Keep _ _).sat w)

end Go.Proofs.Ytcjhemblnemhfaa
