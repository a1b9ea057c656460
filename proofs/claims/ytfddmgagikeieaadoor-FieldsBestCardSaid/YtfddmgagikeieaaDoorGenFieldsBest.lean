/-
  Models of functions of the program, and that the functions compute them.
  Conditions: none.
-/
import Derived.Test.YtfddmgagikeieaaDoorGen
namespace Go.Proofs.YtfddmgagikeieaaDoor
open Go
set_option linter.unusedVariables false
set_option maxRecDepth 4000

theorem ent23 : Ent Tryd.prog 23 := ⟨_, Tryd.func23, by kernel_rfl, by kernel_rfl⟩

noncomputable def m_ref02_Best (text : ByteArray) : Option (T_Field × Int) :=
  bnd (loopM (τ := Int × Int × ByteArray) (fun (s1 : Int × Int × Int × ByteArray) => bif decide (s1.2.1 ≤ 3) then (bnd (m_ref02_Valid (⟨s1.2.1, text⟩ : T_Field)) fun r1 => bif !r1 then (some (.next (s1.1, IntKind.wrap .i64 (s1.2.1 + 1), s1.2.2.1, s1.2.2.2))) else (bnd (m_ref02_data (⟨s1.2.1, text⟩ : T_Field)) fun r2 => bnd ((bif decide (s1.1 < 0) then (some true) else (some (decide ((r2.length : Int) < s1.1))) : Option Bool)) fun o2 => bif o2 then (some (.next ((r2.length : Int), IntKind.wrap .i64 (s1.2.1 + 1), s1.2.1, text))) else (some (.next (s1.1, IntKind.wrap .i64 (s1.2.1 + 1), s1.2.2.1, s1.2.2.2))))) else (some (.done (s1.1, s1.2.2.1, s1.2.2.2)))) ((-1), 1, 0, ⟨#[]⟩)) fun o1 => bif decide (o1.1 < 0) then (some ((⟨0, ⟨#[]⟩⟩ : T_Field), 6)) else (some ((⟨o1.2.1, o1.2.2⟩ : T_Field), 0))

theorem c_ref02_Best {text : ByteArray} {r : (T_Field × Int)} (h : m_ref02_Best text = some r) :
    Fun Tryd.prog 23 [.string text] [] (Val (.tuple #[.agg #[.int .i64 r.1.Kind, .string r.1.Value], .int .i64 r.2])) := by
  unfold m_ref02_Best at h
  refine Fun.intro Tryd.func23 rfl rfl rfl fun w R => ?_
  refine St.seq ?_
  refine St.region ?_
  refine St.alloc rfl rfl fun g1 => ?_
  refine St.p rfl rfl ?_
  refine St.done ?_
  refine St.thenN ?_
  refine St.prune (Γ' := [(0, _), (2, _)]) ⟨rfl, rfl, trivial⟩ (.k .z) ?_
  refine St.seq ?_
  refine St.region ?_
  refine St.p rfl rfl ?_
  refine St.alloc rfl rfl fun g2 => ?_
  refine St.store 0 rfl rfl rfl rfl rfl rfl .z rfl ?_
  refine St.done ?_
  refine St.thenN ?_
  refine St.prune (Γ' := [(0, _), (2, _), (4, _)]) ⟨rfl, rfl, rfl, trivial⟩ (.k (.k .z)) ?_
  refine St.seq ?_
  refine St.region ?_
  refine St.p rfl rfl ?_
  refine St.done ?_
  refine St.thenN ?_
  refine St.seq ?_
  refine St.seq ?_
  refine St.region ?_
  refine St.p rfl rfl ?_
  refine St.done ?_
  refine St.thenN ?_
  obtain ⟨o1, hl1, h⟩ := bnd_e h
  refine St.cutE (fun (e2 : Unit) => [(2, .pointer (some ⟨g1, 0, none⟩)), (4, .pointer (some ⟨g2, 0, none⟩)), (5, .int .i64 o1.1)]) (fun e2 => .res (Box g2 23 [.int .i64 o1.2.1, .string o1.2.2]) :: .res (Box g1 23 [.int .i64 0, .string (⟨#[]⟩)]) :: R) ?_ ?_
  · refine St.block ?_
    refine St.loop hl1 (fun (s1 : Int × Int × Int × ByteArray) (e1 : Unit) => [(0, .string text), (2, .pointer (some ⟨g1, 0, none⟩)), (4, .pointer (some ⟨g2, 0, none⟩)), (5, .int .i64 s1.1), (6, .int .i64 s1.2.1)]) (fun s1 e1 => .res (Box g2 23 [.int .i64 s1.2.2.1, .string s1.2.2.2]) :: .res (Box g1 23 [.int .i64 0, .string (⟨#[]⟩)]) :: R) (fun _ _ => True) () trivial ⟨rfl, rfl, rfl, rfl, rfl, trivial⟩ (fun _ w => ((.k (.k .z)) : Keep _ _).sat w) ?_
    rintro s1 e1 - hit1
    obtain ⟨st1, hm1, hd1⟩ := iter_e hit1
    have h1 := hm1
    refine St.seq ?_
    refine St.seq ?_
    refine St.region ?_
    refine St.p rfl rfl ?_
    refine St.p rfl rfl ?_
    refine St.done ?_
    refine St.thenN ?_
    refine St.prune (Γ' := [(0, _), (2, _), (4, _), (5, _), (6, _), (11, _)]) ⟨rfl, rfl, rfl, rfl, rfl, rfl, trivial⟩ (.k (.k .z)) ?_
    refine St.cond _ rfl (fun hb1 => ?_) (fun hb1 => ?_)
    · replace h1 := bif_t hb1 h1
      refine St.skip ?_
      refine St.thenN ?_
      refine St.prune (Γ' := [(0, _), (2, _), (4, _), (5, _), (6, _)]) ⟨rfl, rfl, rfl, rfl, rfl, trivial⟩ (.k (.k .z)) ?_
      refine St.seq ?_
      refine St.block ?_
      refine St.seq ?_
      refine St.region ?_
      iterate 3 refine St.p rfl rfl ?_
      refine St.alloc rfl rfl fun g3 => ?_
      refine St.store 0 rfl rfl rfl rfl rfl rfl .z rfl ?_
      refine St.done ?_
      refine St.thenN ?_
      refine St.prune (Γ' := [(0, _), (2, _), (4, _), (5, _), (6, _), (7, _)]) ⟨rfl, rfl, rfl, rfl, rfl, rfl, trivial⟩ (.k (.k (.k .z))) ?_
      refine St.seq ?_
      refine St.seq ?_
      refine St.region ?_
      refine St.loadB 0 rfl rfl (.head _) rfl rfl ?_
      obtain ⟨r1, hr1, h1⟩ := bnd_e h1
      refine St.callV (c_ref02_Valid hr1) ent20 rfl rfl rfl rfl trivial ?_
      refine St.p rfl rfl ?_
      refine St.done ?_
      refine St.thenN ?_
      refine St.prune (Γ' := [(0, _), (2, _), (4, _), (5, _), (6, _), (7, _), (19, _)]) ⟨rfl, rfl, rfl, rfl, rfl, rfl, rfl, trivial⟩ (.k (.k (.k .z))) ?_
      refine St.cond _ rfl (fun hb2 => ?_) (fun hb2 => ?_)
      · replace h1 := bif_t hb2 h1
        refine St.exit ?_
        repeat (first | refine St.thenX ?_ | refine St.blkMiss rfl ?_)
        refine St.blkHit ?_
        refine St.thenN ?_
        refine St.prune (Γ' := [(0, _), (2, _), (4, _), (5, _), (6, _)]) ⟨rfl, rfl, rfl, rfl, rfl, trivial⟩ (.d (.k (.k .z))) ?_
        refine St.region ?_
        iterate 3 refine St.p rfl rfl ?_
        refine St.done ?_
        injection h1 with h1
        subst h1
        refine St.thenN ?_
        exact St.again _ () hm1 trivial ⟨rfl, rfl, rfl, rfl, rfl, trivial⟩ (fun _ w => ((.k (.k .z)) : Keep _ _).sat w)
      · replace h1 := bif_f hb2 h1
        refine St.skip ?_
        refine St.thenN ?_
        refine St.prune (Γ' := [(0, _), (2, _), (4, _), (5, _), (6, _), (7, _)]) ⟨rfl, rfl, rfl, rfl, rfl, rfl, trivial⟩ (.k (.k (.k .z))) ?_
        refine St.seq ?_
        refine St.region ?_
        refine St.loadB 0 rfl rfl (.head _) rfl rfl ?_
        obtain ⟨r2, hr2, h1⟩ := bnd_e h1
        refine St.call (c_ref02_data hr2) ent38 rfl rfl rfl (fun _ w => w) ?_
        rintro _ _ ⟨A1, c1, rfl, rfl⟩
        refine St.asrt (F' := .res (OwnL eu8 5 A1 c1 r2) :: .res (Box g3 23 [.int .i64 s1.2.1, .string text]) :: .res (Box g2 23 [.int .i64 s1.2.2.1, .string s1.2.2.2]) :: .res (Box g1 23 [.int .i64 0, .string (⟨#[]⟩)]) :: R) (fun _ w => w) ?_
        refine St.p rfl rfl ?_
        refine St.done ?_
        refine St.thenN ?_
        refine St.prune (Γ' := [(0, _), (2, _), (4, _), (5, _), (6, _), (7, _), (8, _)]) ⟨rfl, rfl, rfl, rfl, rfl, rfl, rfl, trivial⟩ (.k (.k (.k (.k .z)))) ?_
        refine St.seq ?_
        obtain ⟨o2, hj1, h1⟩ := bnd_e h1
        refine St.cutE (fun (e3 : Unit) => [(0, .string text), (2, .pointer (some ⟨g1, 0, none⟩)), (4, .pointer (some ⟨g2, 0, none⟩)), (5, .int .i64 s1.1), (6, .int .i64 s1.2.1), (7, .pointer (some ⟨g3, 0, none⟩)), (8, .slice A1 r2.length c1), (29, .bool o2)]) (fun e3 => .res (OwnL eu8 5 A1 c1 r2) :: .res (Box g3 23 [.int .i64 s1.2.1, .string text]) :: .res (Box g2 23 [.int .i64 s1.2.2.1, .string s1.2.2.2]) :: .res (Box g1 23 [.int .i64 0, .string (⟨#[]⟩)]) :: R) ?_ ?_
        · refine St.region ?_
          iterate 3 refine St.p rfl rfl ?_
          refine St.gSplit (dj := 24) _ rfl (fun hb3 => ?_) (fun hb3 => ?_)
          · replace hj1 := bif_t hb3 hj1
            refine St.gOff (dj := 24) rfl rfl rfl rfl ?_
            refine St.gOff (dj := 24) rfl rfl rfl rfl ?_
            refine St.gOff (dj := 24) rfl rfl rfl rfl ?_
            refine St.gOff (dj := 24) rfl rfl rfl rfl ?_
            refine St.p rfl rfl ?_
            refine St.done ?_
            injection hj1 with hj1
            subst hj1
            refine St.thenN ?_
            exact St.hereE () ⟨rfl, rfl, rfl, rfl, rfl, rfl, rfl, rfl, trivial⟩ (fun _ w => ((.k (.k (.k (.k .z)))) : Keep _ _).sat w)
          · replace hj1 := bif_f hb3 hj1
            refine St.gOn (dj := 24) rfl rfl ?_
            refine St.p rfl rfl ?_
            refine St.gOn (dj := 24) rfl rfl ?_
            refine St.p rfl rfl ?_
            refine St.gOn (dj := 24) rfl rfl ?_
            refine St.p rfl rfl ?_
            refine St.gOn (dj := 24) rfl rfl ?_
            refine St.p rfl rfl ?_
            refine St.p rfl rfl ?_
            refine St.done ?_
            injection hj1 with hj1
            subst hj1
            refine St.thenN ?_
            exact St.hereE () ⟨rfl, rfl, rfl, rfl, rfl, rfl, rfl, rfl, trivial⟩ (fun _ w => ((.k (.k (.k (.k .z)))) : Keep _ _).sat w)
        · rintro e3
          refine St.cond _ rfl (fun hb4 => ?_) (fun hb4 => ?_)
          · replace h1 := bif_t hb4 h1
            refine St.seq ?_
            refine St.region ?_
            refine St.loadB 0 rfl rfl (.tail _ (.head _)) rfl rfl ?_
            refine St.store 0 rfl rfl rfl rfl rfl rfl (.s (.s .z)) rfl ?_
            refine St.done ?_
            refine St.thenN ?_
            refine St.prune (Γ' := [(0, _), (2, _), (4, _), (6, _), (8, _)]) ⟨rfl, rfl, rfl, rfl, rfl, trivial⟩ (.k (.k (.d (.k .z)))) ?_
            refine St.region ?_
            iterate 3 refine St.p rfl rfl ?_
            refine St.done ?_
            refine St.blkN ?_
            refine St.thenN ?_
            refine St.prune (Γ' := [(0, _), (2, _), (4, _), (5, _), (6, _)]) ⟨rfl, rfl, rfl, rfl, rfl, trivial⟩ (.k (.d (.k .z))) ?_
            refine St.region ?_
            iterate 3 refine St.p rfl rfl ?_
            refine St.done ?_
            injection h1 with h1
            subst h1
            refine St.thenN ?_
            exact St.again _ () hm1 trivial ⟨rfl, rfl, rfl, rfl, rfl, trivial⟩ (fun _ w => ((.k (.k .z)) : Keep _ _).sat w)
          · replace h1 := bif_f hb4 h1
            refine St.skip ?_
            refine St.blkN ?_
            refine St.thenN ?_
            refine St.prune (Γ' := [(0, _), (2, _), (4, _), (5, _), (6, _)]) ⟨rfl, rfl, rfl, rfl, rfl, trivial⟩ (.d (.d (.k (.k .z)))) ?_
            refine St.region ?_
            iterate 3 refine St.p rfl rfl ?_
            refine St.done ?_
            injection h1 with h1
            subst h1
            refine St.thenN ?_
            exact St.again _ () hm1 trivial ⟨rfl, rfl, rfl, rfl, rfl, trivial⟩ (fun _ w => ((.k (.k .z)) : Keep _ _).sat w)
    · replace h1 := bif_f hb1 h1
      refine St.exit ?_
      repeat (first | refine St.thenX ?_ | refine St.blkMiss rfl ?_)
      refine St.blkHit ?_
      injection h1 with h1
      subst h1
      have ho := hd1 _ rfl
      subst ho
      refine St.thenN ?_
      exact St.hereE () ⟨rfl, rfl, rfl, trivial⟩ (fun _ w => ((.k (.k .z)) : Keep _ _).sat w)
  · rintro e2
    refine St.seq ?_
    refine St.seq ?_
    refine St.region ?_
    refine St.p rfl rfl ?_
    refine St.p rfl rfl ?_
    refine St.done ?_
    refine St.thenN ?_
    refine St.prune (Γ' := [(2, _), (4, _), (34, _)]) ⟨rfl, rfl, rfl, trivial⟩ (.k (.k .z)) ?_
    refine St.cond _ rfl (fun hb5 => ?_) (fun hb5 => ?_)
    · replace h := bif_t hb5 h
      refine St.seq ?_
      refine St.region ?_
      refine St.p rfl rfl ?_
      refine St.store 0 rfl rfl rfl rfl rfl rfl (.s .z) rfl ?_
      refine St.p rfl rfl ?_
      refine St.done ?_
      refine St.thenN ?_
      refine St.prune (Γ' := [(2, _), (3, _)]) ⟨rfl, rfl, trivial⟩ (.k (.d .z)) ?_
      refine St.ret ?_
      repeat (first | refine St.thenR ?_ | refine St.blkR ?_)
      injection h with h
      subst h
      exact St.finR Tryd.results23 (.cell rfl (.head _) rfl (.tmp rfl .nil)) rfl [] ⟨rfl, rfl⟩ (fun _ w => ((.d .z) : Keep _ _).sat w)
    · replace h := bif_f hb5 h
      refine St.skip ?_
      refine St.thenN ?_
      refine St.prune (Γ' := [(2, _), (4, _)]) ⟨rfl, rfl, trivial⟩ (.k (.k .z)) ?_
      refine St.seq ?_
      refine St.region ?_
      refine St.loadB 0 rfl rfl (.head _) rfl rfl ?_
      refine St.store 0 rfl rfl rfl rfl rfl rfl (.s .z) rfl ?_
      refine St.p rfl rfl ?_
      refine St.done ?_
      refine St.thenN ?_
      refine St.prune (Γ' := [(2, _), (3, _)]) ⟨rfl, rfl, trivial⟩ (.k (.d .z)) ?_
      refine St.ret ?_
      repeat (first | refine St.thenR ?_ | refine St.blkR ?_)
      injection h with h
      subst h
      exact St.finR Tryd.results23 (.cell rfl (.head _) rfl (.tmp rfl .nil)) rfl [] ⟨rfl, rfl⟩ (fun _ w => ((.d .z) : Keep _ _).sat w)

theorem ent4 : Ent Tryd.prog 4 := ⟨_, Tryd.func4, by kernel_rfl, by kernel_rfl⟩

noncomputable def m_law02_FieldsBest (text : ByteArray) (l_p1 : (List Int)) : Option Bool :=
  bnd ((bif decide ((text.size : Int) > 300) then (some true) else (bnd (m_made_Light l_p1) fun r1 => some (!r1)) : Option Bool)) fun o1 => bif o1 then (bnd (m_law02_awake) fun r2 => some r2) else (bnd (m_made_Roll l_p1) fun r3 => bnd (m_made_Dice_OddField r3) fun r4 => bnd (m_fields_Best text) fun r5 => bnd (m_ref02_Best text) fun r6 => bnd ((bif (r5.2 != r6.2) then (some true) else (bnd (m_ref02_Same r5.1 r6.1) fun r7 => some (!r7)) : Option Bool)) fun o2 => bif o2 then (some false) else (bnd (m_fields_Best r4.2.Value) fun r8 => bnd (m_ref02_Best r4.2.Value) fun r9 => bnd ((bif (r8.2 != r9.2) then (some true) else (bnd (m_ref02_Same r8.1 r9.1) fun r10 => some (!r10)) : Option Bool)) fun o3 => bif o3 then (some false) else (bnd (m_law02_awake) fun r11 => some r11)))

set_option maxHeartbeats 4000000 in
theorem c_law02_FieldsBest {text : ByteArray} {l_p1 : (List Int)} {A1 : Option Addr} {c1 : Nat} {r : Bool} (h : m_law02_FieldsBest text l_p1 = some r) :
    Fun Tryd.prog 4 [.string text, .slice A1 l_p1.length c1] [.ro (SlL ei64 A1 c1 l_p1)] (Val (.bool r)) := by
  unfold m_law02_FieldsBest at h
  refine Fun.intro Tryd.func4 rfl rfl rfl fun w R => ?_
  refine St.seq ?_
  refine St.region ?_
  refine St.p rfl rfl ?_
  refine St.done ?_
  refine St.thenN ?_
  refine St.prune (Γ' := [(0, _), (1, _)]) ⟨rfl, rfl, trivial⟩ (.k .z) ?_
  refine St.seq ?_
  refine St.seq ?_
  obtain ⟨o1, hj1, h⟩ := bnd_e h
  refine St.cutE (fun (e1 : Unit) => [(0, .string text), (1, .slice A1 l_p1.length c1), (18, .bool o1)]) (fun e1 => .ro (SlL ei64 A1 c1 l_p1) :: R) ?_ ?_
  · refine St.region ?_
    iterate 4 refine St.p rfl rfl ?_
    refine St.gSplit (dj := 14) _ rfl (fun hb1 => ?_) (fun hb1 => ?_)
    · replace hj1 := bif_t hb1 hj1
      refine St.gOff (dj := 14) rfl rfl rfl rfl ?_
      refine St.gOff (dj := 14) rfl rfl rfl rfl ?_
      refine St.gOff (dj := 14) rfl rfl rfl rfl ?_
      refine St.p rfl rfl ?_
      refine St.done ?_
      injection hj1 with hj1
      subst hj1
      refine St.thenN ?_
      exact St.hereE () ⟨rfl, rfl, rfl, trivial⟩ (fun _ w => ((.k .z) : Keep _ _).sat w)
    · replace hj1 := bif_f hb1 hj1
      refine St.gOn (dj := 14) rfl rfl ?_
      refine St.p rfl rfl ?_
      refine St.gOn (dj := 14) rfl rfl ?_
      obtain ⟨r1, hr1, hj1⟩ := bnd_e hj1
      refine St.callV (c_made_Light hr1) ent13 rfl rfl rfl rfl ⟨(.head _), trivial⟩ ?_
      refine St.gOn (dj := 14) rfl rfl ?_
      refine St.p rfl rfl ?_
      refine St.p rfl rfl ?_
      refine St.done ?_
      injection hj1 with hj1
      subst hj1
      refine St.thenN ?_
      exact St.hereE () ⟨rfl, rfl, rfl, trivial⟩ (fun _ w => ((.k .z) : Keep _ _).sat w)
  · rintro e1
    refine St.cond _ rfl (fun hb2 => ?_) (fun hb2 => ?_)
    · replace h := bif_t hb2 h
      refine St.seq ?_
      refine St.region ?_
      obtain ⟨r2, hr2, h⟩ := bnd_e h
      refine St.callV (c_law02_awake hr2) ent14 rfl rfl rfl rfl trivial ?_
      refine St.p rfl rfl ?_
      refine St.done ?_
      refine St.thenN ?_
      refine St.prune (Γ' := [(4, _)]) ⟨rfl, trivial⟩ (.d .z) ?_
      refine St.ret ?_
      repeat (first | refine St.thenR ?_ | refine St.blkR ?_)
      injection h with h
      subst h
      exact St.finR Tryd.results4 (.tmp rfl .nil) rfl [] ⟨rfl, rfl⟩ (fun _ w => (.z : Keep _ _).sat w)
    · replace h := bif_f hb2 h
      refine St.skip ?_
      refine St.thenN ?_
      refine St.prune (Γ' := [(0, _), (1, _)]) ⟨rfl, rfl, trivial⟩ (.k .z) ?_
      refine St.seq ?_
      refine St.seq ?_
      refine St.region ?_
      refine St.p rfl rfl ?_
      refine St.p rfl rfl ?_
      obtain ⟨r3, hr3, h⟩ := bnd_e h
      refine St.call (c_made_Roll hr3) ent15 rfl rfl rfl (fun _ w => Sat.dup (G := [.ro (SlL ei64 A1 c1 l_p1)]) rfl ⟨(.head _), trivial⟩ w) ?_
      rintro _ _ ⟨g1, A2, c2, rfl, rfl⟩
      refine St.asrt (F' := .ro (SlL ei64 A2 c2 r3.L) :: .res (Box g1 58 [.slice A2 r3.L.length c2, .int .i64 r3.At]) :: .ro (SlL ei64 A1 c1 l_p1) :: R) (fun _ w => w) ?_
      obtain ⟨r4, hr4, h⟩ := bnd_e h
      refine St.call (c_made_Dice_OddField hr4) ent16 rfl rfl rfl (fun _ w => Sat.dup (G := [.ro (SlL ei64 A2 c2 r3.L)]) rfl ⟨(.tail _ (.head _)), trivial⟩ (w.front (.s .z))) ?_
      rintro _ _ ⟨A3, c3, rfl, rfl⟩
      refine St.asrt (F' := .ro (SlL ei64 A3 c3 r4.1.L) :: .res (Box g1 58 [.slice A3 r4.1.L.length c3, .int .i64 r4.1.At]) :: .ro (SlL ei64 A2 c2 r3.L) :: .ro (SlL ei64 A1 c1 l_p1) :: R) (fun _ w => w) ?_
      refine St.p rfl rfl ?_
      refine St.buildSlice rfl rfl rfl rfl rfl rfl rfl rfl fun g2 => ?_
      refine St.p rfl rfl ?_
      refine St.p rfl rfl ?_
      refine St.done ?_
      refine St.thenN ?_
      refine St.prune (Γ' := [(25, _), (26, _), (27, _)]) ⟨rfl, rfl, rfl, trivial⟩ (.k (.d (.d (.d (.d .z))))) ?_
      refine St.block ?_
      refine St.rounds 9 ?_
      refine St.round ?_
      refine St.seq ?_
      refine St.region ?_
      refine St.p rfl rfl ?_
      refine St.done ?_
      refine St.thenN ?_
      refine St.seq ?_
      refine St.condT rfl ?_
      refine St.skip ?_
      refine St.thenN ?_
      refine St.prune (Γ' := [(25, _), (26, _), (27, _)]) ⟨rfl, rfl, rfl, trivial⟩ (.k .z) ?_
      refine St.seq ?_
      refine St.block ?_
      refine St.seq ?_
      refine St.region ?_
      refine St.ixB 0 rfl rfl rfl rfl rfl rfl rfl rfl rfl rfl ?_
      refine St.loadB 0 rfl rfl (.head _) rfl rfl ?_
      refine St.p rfl rfl ?_
      refine St.done ?_
      refine St.thenN ?_
      refine St.prune (Γ' := [(6, _), (25, _), (26, _), (27, _)]) ⟨rfl, rfl, rfl, rfl, trivial⟩ (.k .z) ?_
      refine St.seq ?_
      refine St.region ?_
      refine St.p rfl rfl ?_
      obtain ⟨r5, hr5, h⟩ := bnd_e h
      refine St.callV (c_fields_Best hr5) ent22 rfl rfl rfl rfl trivial ?_
      iterate 3 refine St.p rfl rfl ?_
      refine St.alloc rfl rfl fun g3 => ?_
      refine St.store 0 rfl rfl rfl rfl rfl rfl .z rfl ?_
      refine St.p rfl rfl ?_
      refine St.done ?_
      refine St.thenN ?_
      refine St.prune (Γ' := [(6, _), (7, _), (8, _), (25, _), (26, _), (27, _)]) ⟨rfl, rfl, rfl, rfl, rfl, rfl, trivial⟩ (.k (.k .z)) ?_
      refine St.seq ?_
      refine St.region ?_
      refine St.p rfl rfl ?_
      obtain ⟨r6, hr6, h⟩ := bnd_e h
      refine St.callV (c_ref02_Best hr6) ent23 rfl rfl rfl rfl trivial ?_
      iterate 3 refine St.p rfl rfl ?_
      refine St.alloc rfl rfl fun g4 => ?_
      refine St.store 0 rfl rfl rfl rfl rfl rfl .z rfl ?_
      refine St.p rfl rfl ?_
      refine St.done ?_
      refine St.thenN ?_
      refine St.prune (Γ' := [(7, _), (8, _), (9, _), (10, _), (25, _), (26, _), (27, _)]) ⟨rfl, rfl, rfl, rfl, rfl, rfl, rfl, trivial⟩ (.k (.k (.k .z))) ?_
      refine St.seq ?_
      obtain ⟨o2, hj2, h⟩ := bnd_e h
      refine St.cutE (fun (e2 : Unit) => [(25, .slice (some ⟨g2, 0, none⟩) 2 2), (26, .int .i64 ((2 : Nat) : Int)), (27, .int .i64 0), (49, .bool o2)]) (fun e2 => .res (Box g2 9 [.string text, .string r4.2.Value]) :: R) ?_ ?_
      · refine St.region ?_
        iterate 4 refine St.p rfl rfl ?_
        refine St.gSplit (dj := 44) _ rfl (fun hb3 => ?_) (fun hb3 => ?_)
        · replace hj2 := bif_t hb3 hj2
          refine St.gOff (dj := 44) rfl rfl rfl rfl ?_
          refine St.gOff (dj := 44) rfl rfl rfl rfl ?_
          refine St.gOff (dj := 44) rfl rfl rfl rfl ?_
          refine St.gOff (dj := 44) rfl rfl rfl rfl ?_
          refine St.p rfl rfl ?_
          refine St.done ?_
          injection hj2 with hj2
          subst hj2
          refine St.thenN ?_
          exact St.hereE () ⟨rfl, rfl, rfl, rfl, trivial⟩ (fun _ w => ((.d (.d (.k .z))) : Keep _ _).sat w)
        · replace hj2 := bif_f hb3 hj2
          refine St.gOn (dj := 44) rfl rfl ?_
          refine St.loadB 0 rfl rfl (.tail _ (.head _)) rfl rfl ?_
          refine St.gOn (dj := 44) rfl rfl ?_
          refine St.loadB 0 rfl rfl (.head _) rfl rfl ?_
          refine St.gOn (dj := 44) rfl rfl ?_
          obtain ⟨r7, hr7, hj2⟩ := bnd_e hj2
          refine St.callV (c_ref02_Same hr7) ent24 rfl rfl rfl rfl trivial ?_
          refine St.gOn (dj := 44) rfl rfl ?_
          refine St.p rfl rfl ?_
          refine St.p rfl rfl ?_
          refine St.done ?_
          injection hj2 with hj2
          subst hj2
          refine St.thenN ?_
          exact St.hereE () ⟨rfl, rfl, rfl, rfl, trivial⟩ (fun _ w => ((.d (.d (.k .z))) : Keep _ _).sat w)
      · rintro e2
        refine St.cond _ rfl (fun hb4 => ?_) (fun hb4 => ?_)
        · replace h := bif_t hb4 h
          refine St.seq ?_
          refine St.region ?_
          refine St.p rfl rfl ?_
          refine St.done ?_
          refine St.thenN ?_
          refine St.prune (Γ' := [(4, _)]) ⟨rfl, trivial⟩ (.d .z) ?_
          refine St.ret ?_
          repeat (first | refine St.thenR ?_ | refine St.blkR ?_)
          injection h with h
          subst h
          exact St.finR Tryd.results4 (.tmp rfl .nil) rfl [] ⟨rfl, rfl⟩ (fun _ w => (.z : Keep _ _).sat w)
        · replace h := bif_f hb4 h
          refine St.skip ?_
          refine St.blkN ?_
          refine St.thenN ?_
          refine St.prune (Γ' := [(25, _), (26, _), (27, _)]) ⟨rfl, rfl, rfl, trivial⟩ (.k .z) ?_
          refine St.region ?_
          refine St.p rfl rfl ?_
          refine St.p rfl rfl ?_
          refine St.done ?_
          refine St.thenN ?_
          refine St.round ?_
          refine St.prune (Γ' := [(25, _), (26, _), (27, _)]) ⟨rfl, rfl, rfl, trivial⟩ (.k .z) ?_
          refine St.seq ?_
          refine St.region ?_
          refine St.p rfl rfl ?_
          refine St.done ?_
          refine St.thenN ?_
          refine St.seq ?_
          refine St.condT rfl ?_
          refine St.skip ?_
          refine St.thenN ?_
          refine St.prune (Γ' := [(25, _), (26, _), (27, _)]) ⟨rfl, rfl, rfl, trivial⟩ (.k .z) ?_
          refine St.seq ?_
          refine St.block ?_
          refine St.seq ?_
          refine St.region ?_
          refine St.ixB 1 rfl rfl rfl rfl rfl rfl rfl rfl rfl rfl ?_
          refine St.loadB 1 rfl rfl (.head _) rfl rfl ?_
          refine St.p rfl rfl ?_
          refine St.done ?_
          refine St.thenN ?_
          refine St.prune (Γ' := [(6, _), (25, _), (26, _), (27, _)]) ⟨rfl, rfl, rfl, rfl, trivial⟩ (.k .z) ?_
          refine St.seq ?_
          refine St.region ?_
          refine St.p rfl rfl ?_
          obtain ⟨r8, hr8, h⟩ := bnd_e h
          refine St.callV (c_fields_Best hr8) ent22 rfl rfl rfl rfl trivial ?_
          iterate 3 refine St.p rfl rfl ?_
          refine St.alloc rfl rfl fun g5 => ?_
          refine St.store 0 rfl rfl rfl rfl rfl rfl .z rfl ?_
          refine St.p rfl rfl ?_
          refine St.done ?_
          refine St.thenN ?_
          refine St.prune (Γ' := [(6, _), (7, _), (8, _), (25, _), (26, _), (27, _)]) ⟨rfl, rfl, rfl, rfl, rfl, rfl, trivial⟩ (.k (.k .z)) ?_
          refine St.seq ?_
          refine St.region ?_
          refine St.p rfl rfl ?_
          obtain ⟨r9, hr9, h⟩ := bnd_e h
          refine St.callV (c_ref02_Best hr9) ent23 rfl rfl rfl rfl trivial ?_
          iterate 3 refine St.p rfl rfl ?_
          refine St.alloc rfl rfl fun g6 => ?_
          refine St.store 0 rfl rfl rfl rfl rfl rfl .z rfl ?_
          refine St.p rfl rfl ?_
          refine St.done ?_
          refine St.thenN ?_
          refine St.prune (Γ' := [(7, _), (8, _), (9, _), (10, _), (25, _), (26, _), (27, _)]) ⟨rfl, rfl, rfl, rfl, rfl, rfl, rfl, trivial⟩ (.k (.k (.k .z))) ?_
          refine St.seq ?_
          obtain ⟨o3, hj3, h⟩ := bnd_e h
          refine St.cutE (fun (e3 : Unit) => [(25, .slice (some ⟨g2, 0, none⟩) 2 2), (26, .int .i64 ((2 : Nat) : Int)), (27, .int .i64 1), (49, .bool o3)]) (fun e3 => .res (Box g2 9 [.string text, .string r4.2.Value]) :: R) ?_ ?_
          · refine St.region ?_
            iterate 4 refine St.p rfl rfl ?_
            refine St.gSplit (dj := 44) _ rfl (fun hb5 => ?_) (fun hb5 => ?_)
            · replace hj3 := bif_t hb5 hj3
              refine St.gOff (dj := 44) rfl rfl rfl rfl ?_
              refine St.gOff (dj := 44) rfl rfl rfl rfl ?_
              refine St.gOff (dj := 44) rfl rfl rfl rfl ?_
              refine St.gOff (dj := 44) rfl rfl rfl rfl ?_
              refine St.p rfl rfl ?_
              refine St.done ?_
              injection hj3 with hj3
              subst hj3
              refine St.thenN ?_
              exact St.hereE () ⟨rfl, rfl, rfl, rfl, trivial⟩ (fun _ w => ((.d (.d (.k .z))) : Keep _ _).sat w)
            · replace hj3 := bif_f hb5 hj3
              refine St.gOn (dj := 44) rfl rfl ?_
              refine St.loadB 0 rfl rfl (.tail _ (.head _)) rfl rfl ?_
              refine St.gOn (dj := 44) rfl rfl ?_
              refine St.loadB 0 rfl rfl (.head _) rfl rfl ?_
              refine St.gOn (dj := 44) rfl rfl ?_
              obtain ⟨r10, hr10, hj3⟩ := bnd_e hj3
              refine St.callV (c_ref02_Same hr10) ent24 rfl rfl rfl rfl trivial ?_
              refine St.gOn (dj := 44) rfl rfl ?_
              refine St.p rfl rfl ?_
              refine St.p rfl rfl ?_
              refine St.done ?_
              injection hj3 with hj3
              subst hj3
              refine St.thenN ?_
              exact St.hereE () ⟨rfl, rfl, rfl, rfl, trivial⟩ (fun _ w => ((.d (.d (.k .z))) : Keep _ _).sat w)
          · rintro e3
            refine St.cond _ rfl (fun hb6 => ?_) (fun hb6 => ?_)
            · replace h := bif_t hb6 h
              refine St.seq ?_
              refine St.region ?_
              refine St.p rfl rfl ?_
              refine St.done ?_
              refine St.thenN ?_
              refine St.prune (Γ' := [(4, _)]) ⟨rfl, trivial⟩ (.d .z) ?_
              refine St.ret ?_
              repeat (first | refine St.thenR ?_ | refine St.blkR ?_)
              injection h with h
              subst h
              exact St.finR Tryd.results4 (.tmp rfl .nil) rfl [] ⟨rfl, rfl⟩ (fun _ w => (.z : Keep _ _).sat w)
            · replace h := bif_f hb6 h
              refine St.skip ?_
              refine St.blkN ?_
              refine St.thenN ?_
              refine St.prune (Γ' := [(25, _), (26, _), (27, _)]) ⟨rfl, rfl, rfl, trivial⟩ (.k .z) ?_
              refine St.region ?_
              refine St.p rfl rfl ?_
              refine St.p rfl rfl ?_
              refine St.done ?_
              refine St.thenN ?_
              refine St.round ?_
              refine St.prune (Γ' := [(25, _), (26, _), (27, _)]) ⟨rfl, rfl, rfl, trivial⟩ (.k .z) ?_
              refine St.seq ?_
              refine St.region ?_
              refine St.p rfl rfl ?_
              refine St.done ?_
              refine St.thenN ?_
              refine St.seq ?_
              refine St.condF rfl ?_
              refine St.exit ?_
              repeat (first | refine St.thenX ?_ | refine St.blkMiss rfl ?_)
              refine St.blkHit ?_
              refine St.thenN ?_
              refine St.prune (Γ' := []) trivial (.d .z) ?_
              refine St.seq ?_
              refine St.region ?_
              obtain ⟨r11, hr11, h⟩ := bnd_e h
              refine St.callV (c_law02_awake hr11) ent14 rfl rfl rfl rfl trivial ?_
              refine St.p rfl rfl ?_
              refine St.done ?_
              refine St.thenN ?_
              refine St.prune (Γ' := [(4, _)]) ⟨rfl, trivial⟩ .z ?_
              refine St.ret ?_
              repeat (first | refine St.thenR ?_ | refine St.blkR ?_)
              injection h with h
              subst h
              exact St.finR Tryd.results4 (.tmp rfl .nil) rfl [] ⟨rfl, rfl⟩ (fun _ w => (.z : Keep _ _).sat w)

end Go.Proofs.YtfddmgagikeieaaDoor
