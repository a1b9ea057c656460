/-
  Models of functions of the program, and that the functions compute them.
  Conditions: none.
-/
import Derived.Test.YtcekbbbjagfacaaDoorGen
namespace Go.Proofs.YtcekbbbjagfacaaDoor
open Go
set_option linter.unusedVariables false
set_option maxRecDepth 4000

theorem ent31 : Ent Tryd.prog 31 := ⟨_, Tryd.func31, by kernel_rfl, by kernel_rfl⟩

noncomputable def m_law17_short (a_p0 : T_Area) : Option Bool :=
  bif decide ((a_p0.Fields.length : Int) > 30) then (some false) else (bnd (loopM (τ := Bool ⊕ Unit) (fun (s1 : Int) => bif decide (s1 < (a_p0.Fields.length : Int)) then (bnd (elt a_p0.Fields s1) fun x1 => bif decide ((x1.Value.size : Int) > 200) then (some (.done (.inl false))) else (some (.next (IntKind.wrap .i64 (s1 + 1))))) else (some (.done (.inr ())))) 0) fun o1 => retOr o1 fun o2 => some true)

theorem c_law17_short {a_p0 : T_Area} {A1 : Option Addr} {c1 : Nat} {r : Bool} (h : m_law17_short a_p0 = some r) :
    Fun Tryd.prog 31 [.agg (bx_T_Area a_p0 A1 c1).toArray] [.ro (SlL e_Field A1 c1 a_p0.Fields)] (Val (.bool r)) := by
  unfold m_law17_short at h
  refine Fun.intro Tryd.func31 rfl rfl rfl fun w R => ?_
  refine St.seq ?_
  refine St.region ?_
  refine St.box rfl rfl fun g1 => ?_
  refine St.p rfl rfl ?_
  refine St.done ?_
  refine St.thenN ?_
  refine St.prune (Γ' := [(1, _)]) ⟨rfl, trivial⟩ (.k (.k .z)) ?_
  refine St.seq ?_
  refine St.seq ?_
  refine St.region ?_
  refine St.p rfl rfl ?_
  refine St.loadB 3 rfl rfl (.head _) rfl rfl ?_
  refine St.p rfl rfl ?_
  refine St.p rfl rfl ?_
  refine St.done ?_
  refine St.thenN ?_
  refine St.prune (Γ' := [(1, _), (7, _)]) ⟨rfl, rfl, trivial⟩ (.k (.k .z)) ?_
  refine St.cond _ rfl (fun hb1 => ?_) (fun hb1 => ?_)
  · replace h := bif_t hb1 h
    refine St.seq ?_
    refine St.region ?_
    refine St.p rfl rfl ?_
    refine St.done ?_
    refine St.thenN ?_
    refine St.prune (Γ' := [(2, _)]) ⟨rfl, trivial⟩ (.d (.d .z)) ?_
    refine St.ret ?_
    repeat (first | refine St.thenR ?_ | refine St.blkR ?_)
    injection h with h
    subst h
    exact St.finR Tryd.results31 (.tmp rfl .nil) rfl [] ⟨rfl, rfl⟩ (fun _ w => (.z : Keep _ _).sat w)
  · replace h := bif_f hb1 h
    refine St.skip ?_
    refine St.thenN ?_
    refine St.prune (Γ' := [(1, _)]) ⟨rfl, trivial⟩ (.k (.k .z)) ?_
    refine St.seq ?_
    refine St.seq ?_
    refine St.region ?_
    refine St.p rfl rfl ?_
    refine St.done ?_
    refine St.thenN ?_
    obtain ⟨o1, hl1, h⟩ := bnd_e h
    refine St.cutI (fun (o2 : Unit) (e2 : Unit) => []) (fun o2 e2 => R) (fun o2 => o1 = .inr o2) ?_ ?_
    · refine St.block ?_
      refine St.loop hl1 (fun (s1 : Int) (e1 : Unit) => [(1, .pointer (some ⟨g1, 0, none⟩)), (3, .int .i64 s1)]) (fun s1 e1 => .res (Box g1 25 (bx_T_Area a_p0 A1 c1)) :: .ro (SlL e_Field A1 c1 a_p0.Fields) :: R) (fun _ _ => True) () trivial ⟨rfl, rfl, trivial⟩ (fun _ w => ((.k (.k .z)) : Keep _ _).sat w) ?_
      rintro s1 e1 - hit1
      obtain ⟨st1, hm1, hd1⟩ := iter_e hit1
      have h1 := hm1
      refine St.seq ?_
      refine St.seq ?_
      refine St.region ?_
      refine St.p rfl rfl ?_
      refine St.p rfl rfl ?_
      refine St.loadB 3 rfl rfl (.head _) rfl rfl ?_
      refine St.p rfl rfl ?_
      refine St.p rfl rfl ?_
      refine St.done ?_
      refine St.thenN ?_
      refine St.prune (Γ' := [(1, _), (3, _), (12, _)]) ⟨rfl, rfl, rfl, trivial⟩ (.k (.k .z)) ?_
      refine St.cond _ rfl (fun hb2 => ?_) (fun hb2 => ?_)
      · replace h1 := bif_t hb2 h1
        refine St.skip ?_
        refine St.thenN ?_
        refine St.prune (Γ' := [(1, _), (3, _)]) ⟨rfl, rfl, trivial⟩ (.k (.k .z)) ?_
        refine St.seq ?_
        refine St.block ?_
        refine St.seq ?_
        refine St.region ?_
        refine St.p rfl rfl ?_
        refine St.loadB 3 rfl rfl (.head _) rfl rfl ?_
        refine St.p rfl rfl ?_
        obtain ⟨x1, hx1, h1⟩ := bnd_e h1
        refine St.ixL hx1 rfl rfl rfl (.tail _ (.head _)) rfl rfl rfl rfl rfl fun b1 ob1 => ?_
        refine St.p rfl rfl ?_
        refine St.load ob1 1 rfl rfl (.head _) rfl rfl ?_
        refine St.p rfl rfl ?_
        refine St.p rfl rfl ?_
        refine St.done ?_
        refine St.thenN ?_
        refine St.prune (Γ' := [(1, _), (3, _), (22, _)]) ⟨rfl, rfl, rfl, trivial⟩ (.d (.k (.k .z))) ?_
        refine St.cond _ rfl (fun hb3 => ?_) (fun hb3 => ?_)
        · replace h1 := bif_t hb3 h1
          refine St.seq ?_
          refine St.region ?_
          refine St.p rfl rfl ?_
          refine St.done ?_
          refine St.thenN ?_
          refine St.prune (Γ' := [(2, _)]) ⟨rfl, trivial⟩ (.d (.d .z)) ?_
          refine St.ret ?_
          repeat (first | refine St.thenR ?_ | refine St.blkR ?_)
          injection h1 with h1
          subst h1
          have ho := hd1 _ rfl
          subst ho
          have h : some _ = some _ := h
          injection h with h
          subst h
          exact St.finR Tryd.results31 (.tmp rfl .nil) rfl [] ⟨rfl, rfl⟩ (fun _ w => (.z : Keep _ _).sat w)
        · replace h1 := bif_f hb3 h1
          refine St.skip ?_
          refine St.blkN ?_
          refine St.thenN ?_
          refine St.prune (Γ' := [(1, _), (3, _)]) ⟨rfl, rfl, trivial⟩ (.k (.k .z)) ?_
          refine St.region ?_
          iterate 3 refine St.p rfl rfl ?_
          refine St.done ?_
          injection h1 with h1
          subst h1
          refine St.thenN ?_
          exact St.again _ () hm1 trivial ⟨rfl, rfl, trivial⟩ (fun _ w => ((.k (.k .z)) : Keep _ _).sat w)
      · replace h1 := bif_f hb2 h1
        refine St.exit ?_
        repeat (first | refine St.thenX ?_ | refine St.blkMiss rfl ?_)
        refine St.blkHit ?_
        injection h1 with h1
        subst h1
        have ho := hd1 _ rfl
        subst ho
        refine St.thenN ?_
        exact St.hereI () () rfl trivial (fun _ w => ((.d (.d .z)) : Keep _ _).sat w)
    · rintro o2 e2 ho
      subst ho
      have h : _ = some _ := h
      refine St.seq ?_
      refine St.region ?_
      refine St.p rfl rfl ?_
      refine St.done ?_
      refine St.thenN ?_
      refine St.ret ?_
      repeat (first | refine St.thenR ?_ | refine St.blkR ?_)
      injection h with h
      subst h
      exact St.finR Tryd.results31 (.tmp rfl .nil) rfl [] ⟨rfl, rfl⟩ (fun _ w => (.z : Keep _ _).sat w)

theorem ent8 : Ent Tryd.prog 8 := ⟨_, Tryd.func8, by kernel_rfl, by kernel_rfl⟩

noncomputable def m_law17_light (i_p0 : T_Info) : Option Bool :=
  bnd ((bnd (m_law17_short i_p0.Chassis) fun r1 => bif r1 then (bnd (m_law17_short i_p0.Board) fun r2 => bif r2 then (bnd (m_law17_short i_p0.Product) fun r3 => bif r3 then (some (decide ((i_p0.Multi.length : Int) ≤ 3000))) else (some false)) else (some false)) else (some false) : Option Bool)) fun o1 => some o1

theorem c_law17_light {i_p0 : T_Info} {A1 : Option Addr} {c1 : Nat} {A2 : Option Addr} {c2 : Nat} {A3 : Option Addr} {c3 : Nat} {A4 : Option Addr} {c4 : Nat} {r : Bool} (h : m_law17_light i_p0 = some r) :
    Fun Tryd.prog 8 [.agg (bx_T_Info i_p0 A1 c1 A2 c2 A3 c3 A4 c4).toArray] [.ro (SlL e_Field A1 c1 i_p0.Chassis.Fields), .ro (SlL e_Field A2 c2 i_p0.Board.Fields), .ro (SlL e_Field A3 c3 i_p0.Product.Fields), .ro (SlL eu8 A4 c4 i_p0.Multi)] (Val (.bool r)) := by
  unfold m_law17_light at h
  refine Fun.intro Tryd.func8 rfl rfl rfl fun w R => ?_
  refine St.seq ?_
  refine St.region ?_
  refine St.box rfl rfl fun g1 => ?_
  refine St.p rfl rfl ?_
  refine St.done ?_
  refine St.thenN ?_
  refine St.prune (Γ' := [(1, _)]) ⟨rfl, trivial⟩ (.k (.k (.k (.k (.k .z))))) ?_
  refine St.seq ?_
  obtain ⟨o1, hj1, h⟩ := bnd_e h
  refine St.cutE (fun (e1 : Unit) => [(2, .bool o1)]) (fun e1 => R) ?_ ?_
  · refine St.region ?_
    refine St.p rfl rfl ?_
    refine St.loadB 0 rfl rfl (.head _) rfl rfl ?_
    obtain ⟨r1, hr1, hj1⟩ := bnd_e hj1
    refine St.callV (c_law17_short hr1) ent31 rfl rfl rfl rfl ⟨(.tail _ (.head _)), trivial⟩ ?_
    refine St.p rfl rfl ?_
    refine St.gSplit (dj := 6) _ rfl (fun hb1 => ?_) (fun hb1 => ?_)
    · replace hj1 := bif_t hb1 hj1
      refine St.gOn (dj := 6) rfl rfl ?_
      refine St.p rfl rfl ?_
      refine St.gOn (dj := 6) rfl rfl ?_
      refine St.loadB 4 rfl rfl (.head _) rfl rfl ?_
      refine St.gOn (dj := 6) rfl rfl ?_
      obtain ⟨r2, hr2, hj1⟩ := bnd_e hj1
      refine St.callV (c_law17_short hr2) ent31 rfl rfl rfl rfl ⟨(.tail _ (.tail _ (.head _))), trivial⟩ ?_
      refine St.p rfl rfl ?_
      refine St.p rfl rfl ?_
      refine St.gSplit (dj := 11) _ rfl (fun hb2 => ?_) (fun hb2 => ?_)
      · replace hj1 := bif_t hb2 hj1
        refine St.gOn (dj := 11) rfl rfl ?_
        refine St.p rfl rfl ?_
        refine St.gOn (dj := 11) rfl rfl ?_
        refine St.loadB 8 rfl rfl (.head _) rfl rfl ?_
        refine St.gOn (dj := 11) rfl rfl ?_
        obtain ⟨r3, hr3, hj1⟩ := bnd_e hj1
        refine St.callV (c_law17_short hr3) ent31 rfl rfl rfl rfl ⟨(.tail _ (.tail _ (.tail _ (.head _)))), trivial⟩ ?_
        refine St.p rfl rfl ?_
        refine St.p rfl rfl ?_
        refine St.gSplit (dj := 16) _ rfl (fun hb3 => ?_) (fun hb3 => ?_)
        · replace hj1 := bif_t hb3 hj1
          refine St.gOn (dj := 16) rfl rfl ?_
          refine St.p rfl rfl ?_
          refine St.gOn (dj := 16) rfl rfl ?_
          refine St.loadB 12 rfl rfl (.head _) rfl rfl ?_
          refine St.gOn (dj := 16) rfl rfl ?_
          refine St.p rfl rfl ?_
          refine St.gOn (dj := 16) rfl rfl ?_
          iterate 3 refine St.p rfl rfl ?_
          refine St.done ?_
          injection hj1 with hj1
          subst hj1
          refine St.thenN ?_
          exact St.hereE () ⟨rfl, trivial⟩ (fun _ w => ((.d (.d (.d (.d (.d .z))))) : Keep _ _).sat w)
        · replace hj1 := bif_f hb3 hj1
          refine St.gOff (dj := 16) rfl rfl rfl rfl ?_
          refine St.gOff (dj := 16) rfl rfl rfl rfl ?_
          refine St.gOff (dj := 16) rfl rfl rfl rfl ?_
          refine St.gOff (dj := 16) rfl rfl rfl rfl ?_
          refine St.p rfl rfl ?_
          refine St.p rfl rfl ?_
          refine St.done ?_
          injection hj1 with hj1
          subst hj1
          refine St.thenN ?_
          exact St.hereE () ⟨rfl, trivial⟩ (fun _ w => ((.d (.d (.d (.d (.d .z))))) : Keep _ _).sat w)
      · replace hj1 := bif_f hb2 hj1
        refine St.gOff (dj := 11) rfl rfl rfl rfl ?_
        refine St.gOff (dj := 11) rfl rfl rfl rfl ?_
        refine St.gOff (dj := 11) rfl rfl rfl rfl ?_
        refine St.p rfl rfl ?_
        refine St.p rfl rfl ?_
        refine St.gOff (dj := 16) rfl rfl rfl rfl ?_
        refine St.gOff (dj := 16) rfl rfl rfl rfl ?_
        refine St.gOff (dj := 16) rfl rfl rfl rfl ?_
        refine St.gOff (dj := 16) rfl rfl rfl rfl ?_
        refine St.p rfl rfl ?_
        refine St.p rfl rfl ?_
        refine St.done ?_
        injection hj1 with hj1
        subst hj1
        refine St.thenN ?_
        exact St.hereE () ⟨rfl, trivial⟩ (fun _ w => ((.d (.d (.d (.d (.d .z))))) : Keep _ _).sat w)
    · replace hj1 := bif_f hb1 hj1
      refine St.gOff (dj := 6) rfl rfl rfl rfl ?_
      refine St.gOff (dj := 6) rfl rfl rfl rfl ?_
      refine St.gOff (dj := 6) rfl rfl rfl rfl ?_
      refine St.p rfl rfl ?_
      refine St.p rfl rfl ?_
      refine St.gOff (dj := 11) rfl rfl rfl rfl ?_
      refine St.gOff (dj := 11) rfl rfl rfl rfl ?_
      refine St.gOff (dj := 11) rfl rfl rfl rfl ?_
      refine St.p rfl rfl ?_
      refine St.p rfl rfl ?_
      refine St.gOff (dj := 16) rfl rfl rfl rfl ?_
      refine St.gOff (dj := 16) rfl rfl rfl rfl ?_
      refine St.gOff (dj := 16) rfl rfl rfl rfl ?_
      refine St.gOff (dj := 16) rfl rfl rfl rfl ?_
      refine St.p rfl rfl ?_
      refine St.p rfl rfl ?_
      refine St.done ?_
      injection hj1 with hj1
      subst hj1
      refine St.thenN ?_
      exact St.hereE () ⟨rfl, trivial⟩ (fun _ w => ((.d (.d (.d (.d (.d .z))))) : Keep _ _).sat w)
  · rintro e1
    refine St.ret ?_
    repeat (first | refine St.thenR ?_ | refine St.blkR ?_)
    injection h with h
    subst h
    exact St.finR Tryd.results8 (.tmp rfl .nil) rfl [] ⟨rfl, rfl⟩ (fun _ w => (.z : Keep _ _).sat w)

theorem ent34 : Ent Tryd.prog 34 := ⟨_, Tryd.func34, by kernel_rfl, by kernel_rfl⟩

noncomputable def m_made_Dice_OddField (d_p0 : T_Dice) : Option (T_Dice × T_Field) :=
  bnd (m_made_Dice_Field d_p0) fun r1 => bnd (m_made_Dice_Next r1.1 5) fun r2 => bif (r2.2 == 0) then (bnd (m_made_Dice_Next r2.1 7) fun r3 => some (r3.1, (⟨IntKind.wrap .i64 (r3.2 - 1), r1.2.Value⟩ : T_Field))) else (bif (r2.2 == 1) then (bnd (m_made_Dice_Text r2.1 (⟨#[48, 32, 65, 126, 97]⟩) 1) fun r4 => bnd (catS r1.2.Value r4.2) fun t1 => some (r4.1, (⟨r1.2.Kind, t1⟩ : T_Field))) else (bif (r2.2 == 2) then (bnd (m_made_Dice_Next r2.1 70) fun r5 => bnd (m_made_Dice_Text r5.1 (⟨#[48]⟩) (IntKind.wrap .i64 (60 + r5.2))) fun r6 => bnd (catS r1.2.Value r6.2) fun t2 => some (r6.1, (⟨r1.2.Kind, t2⟩ : T_Field))) else (some (r2.1, r1.2))))

theorem c_made_Dice_OddField {d_p0 : T_Dice} {A1 : Option Addr} {c1 : Nat} {gb1 : Nat} {r : (T_Dice × T_Field)} (h : m_made_Dice_OddField d_p0 = some r) :
    Fun Tryd.prog 34 [.pointer (some ⟨gb1, 0, none⟩)] [.ro (SlL ei64 A1 c1 d_p0.L), .res (Box gb1 62 [.slice A1 d_p0.L.length c1, .int .i64 d_p0.At])] (fun v_ F_ => ∃ (A1 : Option Addr) (c1 : Nat), v_ = .agg #[.int .i64 r.2.Kind, .string r.2.Value] ∧ F_ = [.ro (SlL ei64 A1 c1 r.1.L), .res (Box gb1 62 [.slice A1 r.1.L.length c1, .int .i64 r.1.At])]) := by
  unfold m_made_Dice_OddField at h
  refine Fun.intro Tryd.func34 rfl rfl rfl fun w R => ?_
  refine St.seq ?_
  refine St.region ?_
  refine St.alloc rfl rfl fun g1 => ?_
  refine St.done ?_
  refine St.thenN ?_
  refine St.seq ?_
  refine St.region ?_
  refine St.p rfl rfl ?_
  obtain ⟨r1, hr1, h⟩ := bnd_e h
  refine St.call (c_made_Dice_Field hr1) ent46 rfl rfl rfl (fun _ w => Sat.dup (G := [.ro (SlL ei64 A1 c1 d_p0.L)]) rfl ⟨(.tail _ (.tail _ (.head _))), trivial⟩ (w.front (.s (.s .z)))) ?_
  rintro _ _ ⟨A2, c2, rfl, rfl⟩
  refine St.asrt (F' := .ro (SlL ei64 A2 c2 r1.1.L) :: .res (Box gb1 62 [.slice A2 r1.1.L.length c2, .int .i64 r1.1.At]) :: .res (Box g1 60 [.int .i64 0, .string (⟨#[]⟩)]) :: .ro (SlL ei64 A1 c1 d_p0.L) :: R) (fun _ w => w) ?_
  refine St.alloc rfl rfl fun g2 => ?_
  refine St.store 0 rfl rfl rfl rfl rfl rfl .z rfl ?_
  refine St.done ?_
  refine St.thenN ?_
  refine St.prune (Γ' := [(0, _), (2, _), (3, _)]) ⟨rfl, rfl, rfl, trivial⟩ (.k (.k (.k (.k (.d .z))))) ?_
  refine St.seq ?_
  refine St.seq ?_
  refine St.region ?_
  refine St.p rfl rfl ?_
  obtain ⟨r2, hr2, h⟩ := bnd_e h
  refine St.call (c_made_Dice_Next hr2) ent23 rfl rfl rfl (fun _ w => Sat.dup (G := [.ro (SlL ei64 A2 c2 r1.1.L)]) rfl ⟨(.tail _ (.tail _ (.head _))), trivial⟩ (w.front (.s (.s .z)))) ?_
  rintro _ _ ⟨A3, c3, rfl, rfl⟩
  refine St.asrt (F' := .ro (SlL ei64 A3 c3 r2.1.L) :: .res (Box gb1 62 [.slice A3 r2.1.L.length c3, .int .i64 r2.1.At]) :: .res (Box g2 60 [.int .i64 r1.2.Kind, .string r1.2.Value]) :: .ro (SlL ei64 A2 c2 r1.1.L) :: .res (Box g1 60 [.int .i64 0, .string (⟨#[]⟩)]) :: R) (fun _ w => w) ?_
  refine St.done ?_
  refine St.thenN ?_
  refine St.prune (Γ' := [(0, _), (2, _), (3, _), (7, _)]) ⟨rfl, rfl, rfl, rfl, trivial⟩ (.k (.k (.k (.d (.k .z))))) ?_
  refine St.block ?_
  refine St.seq ?_
  refine St.region ?_
  refine St.p rfl rfl ?_
  refine St.p rfl rfl ?_
  refine St.done ?_
  refine St.thenN ?_
  refine St.prune (Γ' := [(0, _), (2, _), (3, _), (7, _), (8, _)]) ⟨rfl, rfl, rfl, rfl, rfl, trivial⟩ (.k (.k (.k (.k .z)))) ?_
  refine St.cond _ rfl (fun hb1 => ?_) (fun hb1 => ?_)
  · replace h := bif_t hb1 h
    refine St.region ?_
    refine St.p rfl rfl ?_
    obtain ⟨r3, hr3, h⟩ := bnd_e h
    refine St.call (c_made_Dice_Next hr3) ent23 rfl rfl rfl (fun _ w => Sat.dup (G := [.ro (SlL ei64 A3 c3 r2.1.L)]) rfl ⟨(.tail _ (.head _)), trivial⟩ (w.front (.s .z))) ?_
    rintro _ _ ⟨A4, c4, rfl, rfl⟩
    refine St.asrt (F' := .ro (SlL ei64 A4 c4 r3.1.L) :: .res (Box gb1 62 [.slice A4 r3.1.L.length c4, .int .i64 r3.1.At]) :: .ro (SlL ei64 A3 c3 r2.1.L) :: .res (Box g2 60 [.int .i64 r1.2.Kind, .string r1.2.Value]) :: .res (Box g1 60 [.int .i64 0, .string (⟨#[]⟩)]) :: R) (fun _ w => w) ?_
    refine St.p rfl rfl ?_
    refine St.p rfl rfl ?_
    refine St.store 0 rfl rfl rfl rfl rfl rfl (.s (.s (.s .z))) rfl ?_
    refine St.done ?_
    refine St.blkN ?_
    refine St.thenN ?_
    refine St.prune (Γ' := [(2, _), (3, _)]) ⟨rfl, rfl, trivial⟩ (.k (.k (.k (.d (.k .z))))) ?_
    refine St.seq ?_
    refine St.region ?_
    refine St.loadB 0 rfl rfl (.head _) rfl rfl ?_
    refine St.store 0 rfl rfl rfl rfl rfl rfl (.s (.s (.s .z))) rfl ?_
    refine St.done ?_
    refine St.thenN ?_
    refine St.prune (Γ' := [(2, _)]) ⟨rfl, trivial⟩ (.k (.d (.k (.k .z)))) ?_
    refine St.ret ?_
    repeat (first | refine St.thenR ?_ | refine St.blkR ?_)
    injection h with h
    subst h
    exact St.finR Tryd.results34 (.cell rfl (.head _) rfl .nil) rfl [.ro (SlL ei64 A4 c4 r3.1.L), .res (Box gb1 62 [.slice A4 r3.1.L.length c4, .int .i64 r3.1.At])] ⟨A4, c4, rfl, rfl⟩ (fun _ w => ((.k (.k (.d (.d .z)))) : Keep _ _).sat (Sat.dup (G := [.ro (SlL ei64 A4 c4 r3.1.L)]) rfl ⟨(.tail _ (.tail _ (.head _))), trivial⟩ (w.front (.s (.s .z)))))
  · replace h := bif_f hb1 h
    refine St.seq ?_
    refine St.region ?_
    refine St.p rfl rfl ?_
    refine St.p rfl rfl ?_
    refine St.done ?_
    refine St.thenN ?_
    refine St.prune (Γ' := [(0, _), (2, _), (3, _), (7, _), (14, _)]) ⟨rfl, rfl, rfl, rfl, rfl, trivial⟩ (.k (.k (.k (.k .z)))) ?_
    refine St.cond _ rfl (fun hb2 => ?_) (fun hb2 => ?_)
    · replace h := bif_t hb2 h
      obtain ⟨r4, hr4, h⟩ := bnd_e h
      obtain ⟨t1, ht1, h⟩ := bnd_e h
      refine St.regionX (iL [(.fl, 0), (.fl, 2)] (.alt (iL [(.ef, 1)] (iL [(.ef, 3), (.fx, 4), (.fl, 5)] (iL [(.ef, 6)] .nil))) (iL [(.ef, 3)] (iL [(.ef, 1), (.fx, 4), (.fl, 5)] (iL [(.ef, 6)] .nil))))) (.ro (SlL ei64 A3 c3 r2.1.L) :: .res (Box g1 60 [.int .i64 0, .string (⟨#[]⟩)]) :: R) mixed (by kernel_rfl) (fun _ w => ((.k (.d (.d (.k .z)))) : Keep _ _).sat w) ?_
      refine St.share (Y := ?Ynd1_0) (fun (e : Option Addr × Nat) => [(0, .pointer (some ⟨gb1, 0, none⟩)), (2, .pointer (some ⟨g1, 0, none⟩)), (3, .pointer (some ⟨g2, 0, none⟩)), (7, .int .i64 r2.2), (14, .bool (r2.2 == 1)), (16, .pointer (some ⟨g2, 1, none⟩)), (17, .string r1.2.Value), (18, .pointer (some ⟨gb1, 0, none⟩)), (19, .string r4.2), (20, .string t1), (21, .pointer (some ⟨g2, 1, none⟩))]) (fun e => .ro (SlL ei64 e.1 e.2 r4.1.L) :: .res (Box gb1 62 [.slice e.1 r4.1.L.length e.2, .int .i64 r4.1.At]) :: .ro (SlL ei64 A3 c3 r2.1.L) :: .res (Box g2 60 [.int .i64 r1.2.Kind, .string r1.2.Value]) :: .res (Box g1 60 [.int .i64 0, .string (⟨#[]⟩)]) :: R) (fun hnd1_0 => ?mnd1_0) ?tnd1_0
      case mnd1_0 =>
        refine St.xfl (fun _ h => h) (Rd.p rfl) rfl ?_
        refine St.xfl (fun _ h => h) (Rd.p rfl) rfl ?_
        refine St.xalt ?_ ?_
        · refine St.xef ?_
          refine St.loadB 1 rfl rfl (.tail _ (.tail _ (.head _))) rfl rfl ?_
          refine St.xk (fun _ w => ((.k (.d (.d (.k .z)))) : Keep _ _).sat w) ?_
          refine St.xef ?_
          refine St.call (c_made_Dice_Text hr4) ent47 rfl rfl rfl (fun _ w => Sat.dup (G := [.ro (SlL ei64 A3 c3 r2.1.L)]) rfl ⟨(.tail _ (.head _)), trivial⟩ (w.front (.s .z))) ?_
          rintro _ _ ⟨A5, c5, rfl, rfl⟩
          refine St.asrt (F' := .ro (SlL ei64 A5 c5 r4.1.L) :: .res (Box gb1 62 [.slice A5 r4.1.L.length c5, .int .i64 r4.1.At]) :: .ro (SlL ei64 A3 c3 r2.1.L) :: .res (Box g2 60 [.int .i64 r1.2.Kind, .string r1.2.Value]) :: .res (Box g1 60 [.int .i64 0, .string (⟨#[]⟩)]) :: R) (fun _ w => w) ?_
          refine St.xk (fun _ w => ((.d (.d (.k (.d (.k .z))))) : Keep _ _).sat w) ?_
          refine St.xfx (Rd.catS ht1 rfl rfl) rfl ?_
          refine St.xfl (fun _ h => h) (Rd.p rfl) rfl ?_
          refine hnd1_0 _ _ (A5, c5) ?_ ?_
          · exact ⟨rfl, rfl, rfl, rfl, rfl, rfl, rfl, rfl, rfl, rfl, rfl, trivial⟩
          · exact fun _ w => ((.k (.k (.k (.k (.k .z))))) : Keep _ _).sat w
        · refine St.xef ?_
          refine St.call (c_made_Dice_Text hr4) ent47 rfl rfl rfl (fun _ w => Sat.dup (G := [.ro (SlL ei64 A3 c3 r2.1.L)]) rfl ⟨(.tail _ (.head _)), trivial⟩ (w.front (.s .z))) ?_
          rintro _ _ ⟨A5, c5, rfl, rfl⟩
          refine St.asrt (F' := .ro (SlL ei64 A5 c5 r4.1.L) :: .res (Box gb1 62 [.slice A5 r4.1.L.length c5, .int .i64 r4.1.At]) :: .ro (SlL ei64 A3 c3 r2.1.L) :: .res (Box g2 60 [.int .i64 r1.2.Kind, .string r1.2.Value]) :: .res (Box g1 60 [.int .i64 0, .string (⟨#[]⟩)]) :: R) (fun _ w => w) ?_
          refine St.xk (fun _ w => ((.d (.d (.k (.d (.k .z))))) : Keep _ _).sat w) ?_
          refine St.xef ?_
          refine St.loadB 1 rfl rfl (.tail _ (.tail _ (.tail _ (.head _)))) rfl rfl ?_
          refine St.xk (fun _ w => ((.d (.d (.k (.d (.k .z))))) : Keep _ _).sat w) ?_
          refine St.xfx (Rd.catS ht1 rfl rfl) rfl ?_
          refine St.xfl (fun _ h => h) (Rd.p rfl) rfl ?_
          refine hnd1_0 _ _ (A5, c5) ?_ ?_
          · exact ⟨rfl, rfl, rfl, rfl, rfl, rfl, rfl, rfl, rfl, rfl, rfl, trivial⟩
          · exact fun _ w => ((.k (.k (.k (.k (.k .z))))) : Keep _ _).sat w
      case tnd1_0 =>
        rintro ⟨A5, c5⟩
        refine St.asrt (F' := .ro (SlL ei64 A5 c5 r4.1.L) :: .res (Box gb1 62 [.slice A5 r4.1.L.length c5, .int .i64 r4.1.At]) :: .ro (SlL ei64 A3 c3 r2.1.L) :: .res (Box g2 60 [.int .i64 r1.2.Kind, .string r1.2.Value]) :: .res (Box g1 60 [.int .i64 0, .string (⟨#[]⟩)]) :: R) (fun _ w => w) ?_
        refine St.xef ?_
        refine St.store 1 rfl rfl rfl rfl rfl rfl (.s (.s (.s .z))) rfl ?_
        refine St.xk (fun _ w => ((.d (.d (.d (.k (.k .z))))) : Keep _ _).sat w) ?_
        refine St.xdone ?_
        refine St.blkN ?_
        refine St.thenN ?_
        refine St.prune (Γ' := [(2, _), (3, _)]) ⟨rfl, rfl, trivial⟩ (.k (.k (.k (.d (.k .z))))) ?_
        refine St.seq ?_
        refine St.region ?_
        refine St.loadB 0 rfl rfl (.head _) rfl rfl ?_
        refine St.store 0 rfl rfl rfl rfl rfl rfl (.s (.s (.s .z))) rfl ?_
        refine St.done ?_
        refine St.thenN ?_
        refine St.prune (Γ' := [(2, _)]) ⟨rfl, trivial⟩ (.k (.d (.k (.k .z)))) ?_
        refine St.ret ?_
        repeat (first | refine St.thenR ?_ | refine St.blkR ?_)
        injection h with h
        subst h
        exact St.finR Tryd.results34 (.cell rfl (.head _) rfl .nil) rfl [.ro (SlL ei64 A5 c5 r4.1.L), .res (Box gb1 62 [.slice A5 r4.1.L.length c5, .int .i64 r4.1.At])] ⟨A5, c5, rfl, rfl⟩ (fun _ w => ((.k (.k (.d (.d .z)))) : Keep _ _).sat (Sat.dup (G := [.ro (SlL ei64 A5 c5 r4.1.L)]) rfl ⟨(.tail _ (.tail _ (.head _))), trivial⟩ (w.front (.s (.s .z)))))
    · replace h := bif_f hb2 h
      refine St.seq ?_
      refine St.region ?_
      refine St.p rfl rfl ?_
      refine St.p rfl rfl ?_
      refine St.done ?_
      refine St.thenN ?_
      refine St.prune (Γ' := [(0, _), (2, _), (3, _), (22, _)]) ⟨rfl, rfl, rfl, rfl, trivial⟩ (.k (.k (.k (.k .z)))) ?_
      refine St.cond _ rfl (fun hb3 => ?_) (fun hb3 => ?_)
      · replace h := bif_t hb3 h
        obtain ⟨r5, hr5, h⟩ := bnd_e h
        obtain ⟨r6, hr6, h⟩ := bnd_e h
        obtain ⟨t2, ht2, h⟩ := bnd_e h
        refine St.regionX (iL [(.fl, 0), (.fl, 2), (.fl, 3)] (.alt (iL [(.ef, 1)] (iL [(.ef, 4), (.fl, 5)] (iL [(.ef, 6), (.fx, 7), (.fl, 8)] (iL [(.ef, 9)] .nil)))) (iL [(.ef, 4), (.fl, 5)] (.alt (iL [(.ef, 1)] (iL [(.ef, 6), (.fx, 7), (.fl, 8)] (iL [(.ef, 9)] .nil))) (iL [(.ef, 6)] (iL [(.ef, 1), (.fx, 7), (.fl, 8)] (iL [(.ef, 9)] .nil))))))) (.ro (SlL ei64 A3 c3 r2.1.L) :: .res (Box g1 60 [.int .i64 0, .string (⟨#[]⟩)]) :: R) mixed (by kernel_rfl) (fun _ w => ((.k (.d (.d (.k .z)))) : Keep _ _).sat w) ?_
        refine St.share (Y := ?Ynd2_0) (fun (e : Option Addr × Nat × Option Addr × Nat) => [(0, .pointer (some ⟨gb1, 0, none⟩)), (2, .pointer (some ⟨g1, 0, none⟩)), (3, .pointer (some ⟨g2, 0, none⟩)), (22, .bool (r2.2 == 2)), (24, .pointer (some ⟨g2, 1, none⟩)), (25, .string r1.2.Value), (26, .pointer (some ⟨gb1, 0, none⟩)), (27, .pointer (some ⟨gb1, 0, none⟩)), (28, .int .i64 r5.2), (29, .int .i64 (IntKind.wrap .i64 (60 + r5.2))), (30, .string r6.2), (31, .string t2), (32, .pointer (some ⟨g2, 1, none⟩))]) (fun e => .ro (SlL ei64 e.1 e.2.1 r6.1.L) :: .res (Box gb1 62 [.slice e.1 r6.1.L.length e.2.1, .int .i64 r6.1.At]) :: .ro (SlL ei64 e.2.2.1 e.2.2.2 r5.1.L) :: .ro (SlL ei64 A3 c3 r2.1.L) :: .res (Box g2 60 [.int .i64 r1.2.Kind, .string r1.2.Value]) :: .res (Box g1 60 [.int .i64 0, .string (⟨#[]⟩)]) :: R) (fun hnd2_0 => ?mnd2_0) ?tnd2_0
        case mnd2_0 =>
          refine St.share (Y := ?Ynd2_1) (fun (e : Option Addr × Nat) => [(0, .pointer (some ⟨gb1, 0, none⟩)), (2, .pointer (some ⟨g1, 0, none⟩)), (3, .pointer (some ⟨g2, 0, none⟩)), (22, .bool (r2.2 == 2)), (24, .pointer (some ⟨g2, 1, none⟩)), (25, .string r1.2.Value), (26, .pointer (some ⟨gb1, 0, none⟩)), (27, .pointer (some ⟨gb1, 0, none⟩)), (28, .int .i64 r5.2), (29, .int .i64 (IntKind.wrap .i64 (60 + r5.2)))]) (fun e => .ro (SlL ei64 e.1 e.2 r5.1.L) :: .res (Box gb1 62 [.slice e.1 r5.1.L.length e.2, .int .i64 r5.1.At]) :: .ro (SlL ei64 A3 c3 r2.1.L) :: .res (Box g2 60 [.int .i64 r1.2.Kind, .string r1.2.Value]) :: .res (Box g1 60 [.int .i64 0, .string (⟨#[]⟩)]) :: R) (fun hnd2_1 => ?mnd2_1) ?tnd2_1
          case mnd2_1 =>
            refine St.xfl (fun _ h => h) (Rd.p rfl) rfl ?_
            refine St.xfl (fun _ h => h) (Rd.p rfl) rfl ?_
            refine St.xfl (fun _ h => h) (Rd.p rfl) rfl ?_
            refine St.xalt ?_ ?_
            · refine St.xef ?_
              refine St.loadB 1 rfl rfl (.tail _ (.tail _ (.head _))) rfl rfl ?_
              refine St.xk (fun _ w => ((.k (.d (.d (.k .z)))) : Keep _ _).sat w) ?_
              refine St.xef ?_
              refine St.call (c_made_Dice_Next hr5) ent23 rfl rfl rfl (fun _ w => Sat.dup (G := [.ro (SlL ei64 A3 c3 r2.1.L)]) rfl ⟨(.tail _ (.head _)), trivial⟩ (w.front (.s .z))) ?_
              rintro _ _ ⟨A6, c6, rfl, rfl⟩
              refine St.asrt (F' := .ro (SlL ei64 A6 c6 r5.1.L) :: .res (Box gb1 62 [.slice A6 r5.1.L.length c6, .int .i64 r5.1.At]) :: .ro (SlL ei64 A3 c3 r2.1.L) :: .res (Box g2 60 [.int .i64 r1.2.Kind, .string r1.2.Value]) :: .res (Box g1 60 [.int .i64 0, .string (⟨#[]⟩)]) :: R) (fun _ w => w) ?_
              refine St.xk (fun _ w => ((.d (.d (.k (.d (.k .z))))) : Keep _ _).sat w) ?_
              refine St.xfl (fun _ h => h) (Rd.p rfl) rfl ?_
              refine hnd2_1 _ _ (A6, c6) ?_ ?_
              · exact ⟨rfl, rfl, rfl, rfl, rfl, rfl, rfl, rfl, rfl, rfl, trivial⟩
              · exact fun _ w => ((.k (.k (.k (.k (.k .z))))) : Keep _ _).sat w
            · refine St.xef ?_
              refine St.call (c_made_Dice_Next hr5) ent23 rfl rfl rfl (fun _ w => Sat.dup (G := [.ro (SlL ei64 A3 c3 r2.1.L)]) rfl ⟨(.tail _ (.head _)), trivial⟩ (w.front (.s .z))) ?_
              rintro _ _ ⟨A6, c6, rfl, rfl⟩
              refine St.asrt (F' := .ro (SlL ei64 A6 c6 r5.1.L) :: .res (Box gb1 62 [.slice A6 r5.1.L.length c6, .int .i64 r5.1.At]) :: .ro (SlL ei64 A3 c3 r2.1.L) :: .res (Box g2 60 [.int .i64 r1.2.Kind, .string r1.2.Value]) :: .res (Box g1 60 [.int .i64 0, .string (⟨#[]⟩)]) :: R) (fun _ w => w) ?_
              refine St.xk (fun _ w => ((.d (.d (.k (.d (.k .z))))) : Keep _ _).sat w) ?_
              refine St.xfl (fun _ h => h) (Rd.p rfl) rfl ?_
              refine St.xalt ?_ ?_
              · refine St.xef ?_
                refine St.loadB 1 rfl rfl (.tail _ (.tail _ (.tail _ (.head _)))) rfl rfl ?_
                refine St.xk (fun _ w => ((.d (.d (.k (.d (.k .z))))) : Keep _ _).sat w) ?_
                refine hnd2_1 _ _ (A6, c6) ?_ ?_
                · exact ⟨rfl, rfl, rfl, rfl, rfl, rfl, rfl, rfl, rfl, rfl, trivial⟩
                · exact fun _ w => ((.k (.k (.k (.k (.k .z))))) : Keep _ _).sat w
              · refine St.xef ?_
                refine St.call (c_made_Dice_Text hr6) ent47 rfl rfl rfl (fun _ w => Sat.dup (G := [.ro (SlL ei64 A6 c6 r5.1.L)]) rfl ⟨(.tail _ (.head _)), trivial⟩ (w.front (.s .z))) ?_
                rintro _ _ ⟨A7, c7, rfl, rfl⟩
                refine St.asrt (F' := .ro (SlL ei64 A7 c7 r6.1.L) :: .res (Box gb1 62 [.slice A7 r6.1.L.length c7, .int .i64 r6.1.At]) :: .ro (SlL ei64 A6 c6 r5.1.L) :: .ro (SlL ei64 A3 c3 r2.1.L) :: .res (Box g2 60 [.int .i64 r1.2.Kind, .string r1.2.Value]) :: .res (Box g1 60 [.int .i64 0, .string (⟨#[]⟩)]) :: R) (fun _ w => w) ?_
                refine St.xk (fun _ w => ((.d (.d (.d (.k (.d (.k .z)))))) : Keep _ _).sat w) ?_
                refine St.xef ?_
                refine St.loadB 1 rfl rfl (.tail _ (.tail _ (.tail _ (.tail _ (.head _))))) rfl rfl ?_
                refine St.xk (fun _ w => ((.d (.d (.d (.k (.d (.k .z)))))) : Keep _ _).sat w) ?_
                refine St.xfx (Rd.catS ht2 rfl rfl) rfl ?_
                refine St.xfl (fun _ h => h) (Rd.p rfl) rfl ?_
                refine hnd2_0 _ _ (A7, c7, A6, c6) ?_ ?_
                · exact ⟨rfl, rfl, rfl, rfl, rfl, rfl, rfl, rfl, rfl, rfl, rfl, rfl, rfl, trivial⟩
                · exact fun _ w => ((.k (.k (.k (.k (.k (.k .z)))))) : Keep _ _).sat w
          case tnd2_1 =>
            rintro ⟨A6, c6⟩
            refine St.asrt (F' := .ro (SlL ei64 A6 c6 r5.1.L) :: .res (Box gb1 62 [.slice A6 r5.1.L.length c6, .int .i64 r5.1.At]) :: .ro (SlL ei64 A3 c3 r2.1.L) :: .res (Box g2 60 [.int .i64 r1.2.Kind, .string r1.2.Value]) :: .res (Box g1 60 [.int .i64 0, .string (⟨#[]⟩)]) :: R) (fun _ w => w) ?_
            refine St.xef ?_
            refine St.call (c_made_Dice_Text hr6) ent47 rfl rfl rfl (fun _ w => Sat.dup (G := [.ro (SlL ei64 A6 c6 r5.1.L)]) rfl ⟨(.tail _ (.head _)), trivial⟩ (w.front (.s .z))) ?_
            rintro _ _ ⟨A7, c7, rfl, rfl⟩
            refine St.asrt (F' := .ro (SlL ei64 A7 c7 r6.1.L) :: .res (Box gb1 62 [.slice A7 r6.1.L.length c7, .int .i64 r6.1.At]) :: .ro (SlL ei64 A6 c6 r5.1.L) :: .ro (SlL ei64 A3 c3 r2.1.L) :: .res (Box g2 60 [.int .i64 r1.2.Kind, .string r1.2.Value]) :: .res (Box g1 60 [.int .i64 0, .string (⟨#[]⟩)]) :: R) (fun _ w => w) ?_
            refine St.xk (fun _ w => ((.d (.d (.d (.k (.d (.k .z)))))) : Keep _ _).sat w) ?_
            refine St.xfx (Rd.catS ht2 rfl rfl) rfl ?_
            refine St.xfl (fun _ h => h) (Rd.p rfl) rfl ?_
            refine hnd2_0 _ _ (A7, c7, A6, c6) ?_ ?_
            · exact ⟨rfl, rfl, rfl, rfl, rfl, rfl, rfl, rfl, rfl, rfl, rfl, rfl, rfl, trivial⟩
            · exact fun _ w => ((.k (.k (.k (.k (.k (.k .z)))))) : Keep _ _).sat w
        case tnd2_0 =>
          rintro ⟨A7, c7, A6, c6⟩
          refine St.asrt (F' := .ro (SlL ei64 A7 c7 r6.1.L) :: .res (Box gb1 62 [.slice A7 r6.1.L.length c7, .int .i64 r6.1.At]) :: .ro (SlL ei64 A6 c6 r5.1.L) :: .ro (SlL ei64 A3 c3 r2.1.L) :: .res (Box g2 60 [.int .i64 r1.2.Kind, .string r1.2.Value]) :: .res (Box g1 60 [.int .i64 0, .string (⟨#[]⟩)]) :: R) (fun _ w => w) ?_
          refine St.xef ?_
          refine St.store 1 rfl rfl rfl rfl rfl rfl (.s (.s (.s (.s .z)))) rfl ?_
          refine St.xk (fun _ w => ((.d (.d (.d (.d (.k (.k .z)))))) : Keep _ _).sat w) ?_
          refine St.xdone ?_
          refine St.blkN ?_
          refine St.thenN ?_
          refine St.prune (Γ' := [(2, _), (3, _)]) ⟨rfl, rfl, trivial⟩ (.k (.k (.k (.d (.d (.k .z)))))) ?_
          refine St.seq ?_
          refine St.region ?_
          refine St.loadB 0 rfl rfl (.head _) rfl rfl ?_
          refine St.store 0 rfl rfl rfl rfl rfl rfl (.s (.s (.s .z))) rfl ?_
          refine St.done ?_
          refine St.thenN ?_
          refine St.prune (Γ' := [(2, _)]) ⟨rfl, trivial⟩ (.k (.d (.k (.k .z)))) ?_
          refine St.ret ?_
          repeat (first | refine St.thenR ?_ | refine St.blkR ?_)
          injection h with h
          subst h
          exact St.finR Tryd.results34 (.cell rfl (.head _) rfl .nil) rfl [.ro (SlL ei64 A7 c7 r6.1.L), .res (Box gb1 62 [.slice A7 r6.1.L.length c7, .int .i64 r6.1.At])] ⟨A7, c7, rfl, rfl⟩ (fun _ w => ((.k (.k (.d (.d .z)))) : Keep _ _).sat (Sat.dup (G := [.ro (SlL ei64 A7 c7 r6.1.L)]) rfl ⟨(.tail _ (.tail _ (.head _))), trivial⟩ (w.front (.s (.s .z)))))
      · replace h := bif_f hb3 h
        refine St.skip ?_
        refine St.blkN ?_
        refine St.thenN ?_
        refine St.prune (Γ' := [(2, _), (3, _)]) ⟨rfl, rfl, trivial⟩ (.k (.k (.k (.k .z)))) ?_
        refine St.seq ?_
        refine St.region ?_
        refine St.loadB 0 rfl rfl (.tail _ (.tail _ (.head _))) rfl rfl ?_
        refine St.store 0 rfl rfl rfl rfl rfl rfl (.s (.s (.s .z))) rfl ?_
        refine St.done ?_
        refine St.thenN ?_
        refine St.prune (Γ' := [(2, _)]) ⟨rfl, trivial⟩ (.k (.k (.k (.d .z)))) ?_
        refine St.ret ?_
        repeat (first | refine St.thenR ?_ | refine St.blkR ?_)
        injection h with h
        subst h
        exact St.finR Tryd.results34 (.cell rfl (.head _) rfl .nil) rfl [.ro (SlL ei64 A3 c3 r2.1.L), .res (Box gb1 62 [.slice A3 r2.1.L.length c3, .int .i64 r2.1.At])] ⟨A3, c3, rfl, rfl⟩ (fun _ w => ((.k (.k (.d (.d .z)))) : Keep _ _).sat (Sat.dup (G := [.ro (SlL ei64 A3 c3 r2.1.L)]) rfl ⟨(.tail _ (.tail _ (.head _))), trivial⟩ (w.front (.s (.s .z)))))

noncomputable def m_made_Dice_Area_r0 (d_p0 : T_Dice) (least : Int) (board : Bool) : Option (T_Dice × T_Area) :=
  bnd (m_made_Dice_Bool d_p0 3) fun r1 => bif r1.2 then (some (r1.1, (⟨false, 0, 0, []⟩ : T_Area))) else (bnd (m_made_Dice_Byte r1.1) fun r2 => bnd (m_made_Dice_Fields r2.1 least) fun r3 => bif board then (bnd (m_made_Dice_Next r3.1 16777216) fun r4 => some (r4.1, (⟨true, r2.2, IntKind.wrap .u32 r4.2, r3.2⟩ : T_Area))) else (some (r3.1, (⟨true, r2.2, 0, r3.2⟩ : T_Area))))

theorem c_made_Dice_Area_r0 {d_p0 : T_Dice} {least : Int} {board : Bool} {A1 : Option Addr} {c1 : Nat} {gb1 : Nat} {r : (T_Dice × T_Area)} (h : m_made_Dice_Area_r0 d_p0 least board = some r) :
    Fun Tryd.prog 32 [.pointer (some ⟨gb1, 0, none⟩), .int .i64 least, .bool board] [.ro (SlL ei64 A1 c1 d_p0.L), .res (Box gb1 62 [.slice A1 d_p0.L.length c1, .int .i64 d_p0.At])] (fun v_ F_ => ∃ (A1 : Option Addr) (c1 : Nat) (A2 : Option Addr) (c2 : Nat), v_ = .agg #[.bool r.2.Present, .int .u8 r.2.Code, .int .u32 r.2.Minutes, .slice A2 r.2.Fields.length c2] ∧ F_ = [.ro (SlL ei64 A1 c1 r.1.L), .res (Box gb1 62 [.slice A1 r.1.L.length c1, .int .i64 r.1.At]), .res (OwnL e_Field 60 A2 c2 r.2.Fields)]) := by
  unfold m_made_Dice_Area_r0 at h
  refine Fun.intro Tryd.func32 rfl rfl rfl fun w R => ?_
  refine St.seq ?_
  refine St.region ?_
  refine St.alloc rfl rfl fun g1 => ?_
  refine St.done ?_
  refine St.thenN ?_
  refine St.seq ?_
  refine St.seq ?_
  refine St.region ?_
  refine St.p rfl rfl ?_
  obtain ⟨r1, hr1, h⟩ := bnd_e h
  refine St.call (c_made_Dice_Bool hr1) ent24 rfl rfl rfl (fun _ w => Sat.dup (G := [.ro (SlL ei64 A1 c1 d_p0.L)]) rfl ⟨(.tail _ (.tail _ (.head _))), trivial⟩ (w.front (.s (.s .z)))) ?_
  rintro _ _ ⟨A2, c2, rfl, rfl⟩
  refine St.asrt (F' := .ro (SlL ei64 A2 c2 r1.1.L) :: .res (Box gb1 62 [.slice A2 r1.1.L.length c2, .int .i64 r1.1.At]) :: .res (Box g1 25 [.bool false, .int .u8 0, .int .u32 0, .slice none 0 0]) :: .ro (SlL ei64 A1 c1 d_p0.L) :: R) (fun _ w => w) ?_
  refine St.done ?_
  refine St.thenN ?_
  refine St.prune (Γ' := [(0, _), (1, _), (2, _), (6, _), (9, _)]) ⟨rfl, rfl, rfl, rfl, rfl, trivial⟩ (.k (.k (.k (.d .z)))) ?_
  refine St.cond _ rfl (fun hb1 => ?_) (fun hb1 => ?_)
  · replace h := bif_t hb1 h
    refine St.seq ?_
    refine St.region ?_
    refine St.p rfl rfl ?_
    refine St.store 0 rfl rfl rfl rfl rfl rfl (.s (.s .z)) rfl ?_
    refine St.done ?_
    refine St.thenN ?_
    refine St.prune (Γ' := [(6, _)]) ⟨rfl, trivial⟩ (.k (.k (.k .z))) ?_
    refine St.ret ?_
    repeat (first | refine St.thenR ?_ | refine St.blkR ?_)
    refine St.asrt (fun _ w => w.nilL e_Field 60) ?_
    injection h with h
    subst h
    exact St.finR Tryd.results32 (.cell rfl (.tail _ (.head _)) rfl .nil) rfl [.ro (SlL ei64 A2 c2 r1.1.L), .res (Box gb1 62 [.slice A2 r1.1.L.length c2, .int .i64 r1.1.At]), .res (OwnL e_Field 60 none 0 ([] : List T_Field))] ⟨A2, c2, none, 0, rfl, rfl⟩ (fun _ w => ((.k (.k (.k (.d (.d .z))))) : Keep _ _).sat (Sat.dup (G := [.ro (SlL ei64 A2 c2 r1.1.L)]) rfl ⟨(.tail _ (.tail _ (.tail _ (.head _)))), trivial⟩ ((w.front .z).front (.s (.s (.s .z))))))
  · replace h := bif_f hb1 h
    refine St.skip ?_
    refine St.thenN ?_
    refine St.prune (Γ' := [(0, _), (1, _), (2, _), (6, _)]) ⟨rfl, rfl, rfl, rfl, trivial⟩ (.k (.k (.k .z))) ?_
    refine St.seq ?_
    refine St.region ?_
    refine St.p rfl rfl ?_
    obtain ⟨r2, hr2, h⟩ := bnd_e h
    refine St.call (c_made_Dice_Byte hr2) ent25 rfl rfl rfl (fun _ w => Sat.dup (G := [.ro (SlL ei64 A2 c2 r1.1.L)]) rfl ⟨(.tail _ (.head _)), trivial⟩ (w.front (.s .z))) ?_
    rintro _ _ ⟨A3, c3, rfl, rfl⟩
    refine St.asrt (F' := .ro (SlL ei64 A3 c3 r2.1.L) :: .res (Box gb1 62 [.slice A3 r2.1.L.length c3, .int .i64 r2.1.At]) :: .ro (SlL ei64 A2 c2 r1.1.L) :: .res (Box g1 25 [.bool false, .int .u8 0, .int .u32 0, .slice none 0 0]) :: R) (fun _ w => w) ?_
    refine St.p rfl rfl ?_
    refine St.p rfl rfl ?_
    obtain ⟨r3, hr3, h⟩ := bnd_e h
    refine St.call (c_made_Dice_Fields hr3) ent45 rfl rfl rfl (fun _ w => Sat.dup (G := [.ro (SlL ei64 A3 c3 r2.1.L)]) rfl ⟨(.tail _ (.head _)), trivial⟩ (w.front (.s .z))) ?_
    rintro _ _ ⟨A4, c4, A5, c5, rfl, rfl⟩
    refine St.asrt (F' := .ro (SlL ei64 A4 c4 r3.1.L) :: .res (Box gb1 62 [.slice A4 r3.1.L.length c4, .int .i64 r3.1.At]) :: .res (OwnL e_Field 60 A5 c5 r3.2) :: .ro (SlL ei64 A3 c3 r2.1.L) :: .ro (SlL ei64 A2 c2 r1.1.L) :: .res (Box g1 25 [.bool false, .int .u8 0, .int .u32 0, .slice none 0 0]) :: R) (fun _ w => w) ?_
    refine St.p rfl rfl ?_
    refine St.alloc rfl rfl fun g2 => ?_
    refine St.store 0 rfl rfl rfl rfl rfl rfl .z rfl ?_
    refine St.done ?_
    refine St.thenN ?_
    refine St.prune (Γ' := [(0, _), (2, _), (6, _), (7, _)]) ⟨rfl, rfl, rfl, rfl, trivial⟩ (.k (.k (.k (.k (.d (.d (.k .z))))))) ?_
    refine St.seq ?_
    refine St.seq ?_
    refine St.region ?_
    refine St.p rfl rfl ?_
    refine St.done ?_
    refine St.thenN ?_
    refine St.prune (Γ' := [(0, _), (6, _), (7, _), (17, _)]) ⟨rfl, rfl, rfl, rfl, trivial⟩ (.k (.k (.k (.k (.k .z))))) ?_
    refine St.cond _ rfl (fun hb2 => ?_) (fun hb2 => ?_)
    · replace h := bif_t hb2 h
      refine St.region ?_
      refine St.p rfl rfl ?_
      obtain ⟨r4, hr4, h⟩ := bnd_e h
      refine St.call (c_made_Dice_Next hr4) ent23 rfl rfl rfl (fun _ w => Sat.dup (G := [.ro (SlL ei64 A4 c4 r3.1.L)]) rfl ⟨(.tail _ (.tail _ (.head _))), trivial⟩ (w.front (.s (.s .z)))) ?_
      rintro _ _ ⟨A6, c6, rfl, rfl⟩
      refine St.asrt (F' := .ro (SlL ei64 A6 c6 r4.1.L) :: .res (Box gb1 62 [.slice A6 r4.1.L.length c6, .int .i64 r4.1.At]) :: .res (Box g2 25 [.bool true, .int .u8 r2.2, .int .u32 0, .slice A5 r3.2.length c5]) :: .ro (SlL ei64 A4 c4 r3.1.L) :: .res (OwnL e_Field 60 A5 c5 r3.2) :: .res (Box g1 25 [.bool false, .int .u8 0, .int .u32 0, .slice none 0 0]) :: R) (fun _ w => w) ?_
      refine St.p rfl rfl ?_
      refine St.p rfl rfl ?_
      refine St.store 2 rfl rfl rfl rfl rfl rfl (.s (.s .z)) rfl ?_
      refine St.done ?_
      refine St.thenN ?_
      refine St.prune (Γ' := [(6, _), (7, _)]) ⟨rfl, rfl, trivial⟩ (.k (.k (.k (.d (.k (.k .z)))))) ?_
      refine St.seq ?_
      refine St.region ?_
      refine St.loadB 0 rfl rfl (.head _) rfl rfl ?_
      refine St.store 0 rfl rfl rfl rfl rfl rfl (.s (.s (.s (.s .z)))) rfl ?_
      refine St.done ?_
      refine St.thenN ?_
      refine St.prune (Γ' := [(6, _)]) ⟨rfl, trivial⟩ (.k (.d (.k (.k (.k .z))))) ?_
      refine St.ret ?_
      repeat (first | refine St.thenR ?_ | refine St.blkR ?_)
      injection h with h
      subst h
      exact St.finR Tryd.results32 (.cell rfl (.head _) rfl .nil) rfl [.ro (SlL ei64 A6 c6 r4.1.L), .res (Box gb1 62 [.slice A6 r4.1.L.length c6, .int .i64 r4.1.At]), .res (OwnL e_Field 60 A5 c5 r3.2)] ⟨A6, c6, A5, c5, rfl, rfl⟩ (fun _ w => ((.k (.k (.k (.d (.d .z))))) : Keep _ _).sat (Sat.dup (G := [.ro (SlL ei64 A6 c6 r4.1.L)]) rfl ⟨(.tail _ (.tail _ (.tail _ (.head _)))), trivial⟩ ((w.front (.s (.s (.s .z)))).front (.s (.s (.s .z))))))
    · replace h := bif_f hb2 h
      refine St.skip ?_
      refine St.thenN ?_
      refine St.prune (Γ' := [(6, _), (7, _)]) ⟨rfl, rfl, trivial⟩ (.k (.k (.k (.k (.k .z))))) ?_
      refine St.seq ?_
      refine St.region ?_
      refine St.loadB 0 rfl rfl (.head _) rfl rfl ?_
      refine St.store 0 rfl rfl rfl rfl rfl rfl (.s (.s (.s (.s .z)))) rfl ?_
      refine St.done ?_
      refine St.thenN ?_
      refine St.prune (Γ' := [(6, _)]) ⟨rfl, trivial⟩ (.k (.d (.k (.k (.k .z))))) ?_
      refine St.ret ?_
      repeat (first | refine St.thenR ?_ | refine St.blkR ?_)
      injection h with h
      subst h
      exact St.finR Tryd.results32 (.cell rfl (.head _) rfl .nil) rfl [.ro (SlL ei64 A4 c4 r3.1.L), .res (Box gb1 62 [.slice A4 r3.1.L.length c4, .int .i64 r3.1.At]), .res (OwnL e_Field 60 A5 c5 r3.2)] ⟨A4, c4, A5, c5, rfl, rfl⟩ (fun _ w => ((.k (.k (.k (.d (.d .z))))) : Keep _ _).sat (Sat.dup (G := [.ro (SlL ei64 A4 c4 r3.1.L)]) rfl ⟨(.tail _ (.tail _ (.tail _ (.head _)))), trivial⟩ ((w.front (.s (.s (.s .z)))).front (.s (.s (.s .z))))))

noncomputable def m_made_Dice_Info_r0 (d_p0 : T_Dice) : Option (T_Dice × T_Info) :=
  bnd (m_made_Dice_Area_r0 d_p0 2 false) fun r1 => bnd (m_made_Dice_Area_r0 r1.1 5 true) fun r2 => bnd (m_made_Dice_Area_r0 r2.1 7 false) fun r3 => bnd (m_made_Dice_Bytes r3.1 20) fun r4 => bnd (m_ref17_Valid (⟨r1.2, r2.2, r3.2, r4.2⟩ : T_Info)) fun r5 => bif !r5 then (some (r4.1, (⟨r1.2, (⟨false, 0, 0, []⟩ : T_Area), (⟨false, 0, 0, []⟩ : T_Area), r4.2⟩ : T_Info))) else (some (r4.1, (⟨r1.2, r2.2, r3.2, r4.2⟩ : T_Info)))

theorem c_made_Dice_Info_r0 {d_p0 : T_Dice} {A1 : Option Addr} {c1 : Nat} {gb1 : Nat} {r : (T_Dice × T_Info)} (h : m_made_Dice_Info_r0 d_p0 = some r) :
    Fun Tryd.prog 12 [.pointer (some ⟨gb1, 0, none⟩)] [.ro (SlL ei64 A1 c1 d_p0.L), .res (Box gb1 62 [.slice A1 d_p0.L.length c1, .int .i64 d_p0.At])] (fun v_ F_ => ∃ (A1 : Option Addr) (c1 : Nat) (A2 : Option Addr) (c2 : Nat) (A3 : Option Addr) (c3 : Nat) (A4 : Option Addr) (c4 : Nat) (A5 : Option Addr) (c5 : Nat), v_ = .agg #[.bool r.2.Chassis.Present, .int .u8 r.2.Chassis.Code, .int .u32 r.2.Chassis.Minutes, .slice A2 r.2.Chassis.Fields.length c2, .bool r.2.Board.Present, .int .u8 r.2.Board.Code, .int .u32 r.2.Board.Minutes, .slice A3 r.2.Board.Fields.length c3, .bool r.2.Product.Present, .int .u8 r.2.Product.Code, .int .u32 r.2.Product.Minutes, .slice A4 r.2.Product.Fields.length c4, .slice A5 r.2.Multi.length c5] ∧ F_ = [.ro (SlL ei64 A1 c1 r.1.L), .res (Box gb1 62 [.slice A1 r.1.L.length c1, .int .i64 r.1.At]), .res (OwnL e_Field 60 A2 c2 r.2.Chassis.Fields), .res (OwnL e_Field 60 A3 c3 r.2.Board.Fields), .res (OwnL e_Field 60 A4 c4 r.2.Product.Fields), .res (OwnL eu8 5 A5 c5 r.2.Multi)]) := by
  unfold m_made_Dice_Info_r0 at h
  refine Fun.intro Tryd.func12 rfl rfl rfl fun w R => ?_
  refine St.seq ?_
  refine St.region ?_
  refine St.alloc rfl rfl fun g1 => ?_
  refine St.done ?_
  refine St.thenN ?_
  refine St.seq ?_
  refine St.region ?_
  refine St.p rfl rfl ?_
  obtain ⟨r1, hr1, h⟩ := bnd_e h
  refine St.call (c_made_Dice_Area_r0 hr1) ent32 rfl rfl rfl (fun _ w => Sat.dup (G := [.ro (SlL ei64 A1 c1 d_p0.L)]) rfl ⟨(.tail _ (.tail _ (.head _))), trivial⟩ (w.front (.s (.s .z)))) ?_
  rintro _ _ ⟨A2, c2, A3, c3, rfl, rfl⟩
  refine St.asrt (F' := .ro (SlL ei64 A2 c2 r1.1.L) :: .res (Box gb1 62 [.slice A2 r1.1.L.length c2, .int .i64 r1.1.At]) :: .res (OwnL e_Field 60 A3 c3 r1.2.Fields) :: .res (Box g1 28 [.bool false, .int .u8 0, .int .u32 0, .slice none 0 0, .bool false, .int .u8 0, .int .u32 0, .slice none 0 0, .bool false, .int .u8 0, .int .u32 0, .slice none 0 0, .slice none 0 0]) :: .ro (SlL ei64 A1 c1 d_p0.L) :: R) (fun _ w => w) ?_
  refine St.p rfl rfl ?_
  obtain ⟨r2, hr2, h⟩ := bnd_e h
  refine St.call (c_made_Dice_Area_r0 hr2) ent32 rfl rfl rfl (fun _ w => Sat.dup (G := [.ro (SlL ei64 A2 c2 r1.1.L)]) rfl ⟨(.tail _ (.head _)), trivial⟩ (w.front (.s .z))) ?_
  rintro _ _ ⟨A4, c4, A5, c5, rfl, rfl⟩
  refine St.asrt (F' := .ro (SlL ei64 A4 c4 r2.1.L) :: .res (Box gb1 62 [.slice A4 r2.1.L.length c4, .int .i64 r2.1.At]) :: .res (OwnL e_Field 60 A5 c5 r2.2.Fields) :: .ro (SlL ei64 A2 c2 r1.1.L) :: .res (OwnL e_Field 60 A3 c3 r1.2.Fields) :: .res (Box g1 28 [.bool false, .int .u8 0, .int .u32 0, .slice none 0 0, .bool false, .int .u8 0, .int .u32 0, .slice none 0 0, .bool false, .int .u8 0, .int .u32 0, .slice none 0 0, .slice none 0 0]) :: .ro (SlL ei64 A1 c1 d_p0.L) :: R) (fun _ w => w) ?_
  refine St.p rfl rfl ?_
  obtain ⟨r3, hr3, h⟩ := bnd_e h
  refine St.call (c_made_Dice_Area_r0 hr3) ent32 rfl rfl rfl (fun _ w => Sat.dup (G := [.ro (SlL ei64 A4 c4 r2.1.L)]) rfl ⟨(.tail _ (.head _)), trivial⟩ (w.front (.s .z))) ?_
  rintro _ _ ⟨A6, c6, A7, c7, rfl, rfl⟩
  refine St.asrt (F' := .ro (SlL ei64 A6 c6 r3.1.L) :: .res (Box gb1 62 [.slice A6 r3.1.L.length c6, .int .i64 r3.1.At]) :: .res (OwnL e_Field 60 A7 c7 r3.2.Fields) :: .ro (SlL ei64 A4 c4 r2.1.L) :: .res (OwnL e_Field 60 A5 c5 r2.2.Fields) :: .ro (SlL ei64 A2 c2 r1.1.L) :: .res (OwnL e_Field 60 A3 c3 r1.2.Fields) :: .res (Box g1 28 [.bool false, .int .u8 0, .int .u32 0, .slice none 0 0, .bool false, .int .u8 0, .int .u32 0, .slice none 0 0, .bool false, .int .u8 0, .int .u32 0, .slice none 0 0, .slice none 0 0]) :: .ro (SlL ei64 A1 c1 d_p0.L) :: R) (fun _ w => w) ?_
  refine St.p rfl rfl ?_
  obtain ⟨r4, hr4, h⟩ := bnd_e h
  refine St.call (c_made_Dice_Bytes hr4) ent33 rfl rfl rfl (fun _ w => Sat.dup (G := [.ro (SlL ei64 A6 c6 r3.1.L)]) rfl ⟨(.tail _ (.head _)), trivial⟩ (w.front (.s .z))) ?_
  rintro _ _ ⟨A8, c8, A9, c9, rfl, rfl⟩
  refine St.asrt (F' := .ro (SlL ei64 A8 c8 r4.1.L) :: .res (Box gb1 62 [.slice A8 r4.1.L.length c8, .int .i64 r4.1.At]) :: .res (OwnL eu8 5 A9 c9 r4.2) :: .ro (SlL ei64 A6 c6 r3.1.L) :: .res (OwnL e_Field 60 A7 c7 r3.2.Fields) :: .ro (SlL ei64 A4 c4 r2.1.L) :: .res (OwnL e_Field 60 A5 c5 r2.2.Fields) :: .ro (SlL ei64 A2 c2 r1.1.L) :: .res (OwnL e_Field 60 A3 c3 r1.2.Fields) :: .res (Box g1 28 [.bool false, .int .u8 0, .int .u32 0, .slice none 0 0, .bool false, .int .u8 0, .int .u32 0, .slice none 0 0, .bool false, .int .u8 0, .int .u32 0, .slice none 0 0, .slice none 0 0]) :: .ro (SlL ei64 A1 c1 d_p0.L) :: R) (fun _ w => w) ?_
  refine St.p rfl rfl ?_
  refine St.alloc rfl rfl fun g2 => ?_
  refine St.store 0 rfl rfl rfl rfl rfl rfl .z rfl ?_
  refine St.done ?_
  refine St.thenN ?_
  refine St.prune (Γ' := [(2, _), (3, _)]) ⟨rfl, rfl, trivial⟩ (.k (.k (.k (.k (.d (.k (.d (.k (.d (.k (.k (.d .z)))))))))))) ?_
  refine St.seq ?_
  refine St.seq ?_
  refine St.region ?_
  refine St.loadB 0 rfl rfl (.head _) rfl rfl ?_
  obtain ⟨r5, hr5, h⟩ := bnd_e h
  refine St.callL (c_ref17_Valid hr5) ent17 rfl rfl rfl rfl (Asks.own (.tail _ (.tail _ (.tail _ (.tail _ (.tail _ (.tail _ (.head _))))))) (Asks.own (.tail _ (.tail _ (.tail _ (.tail _ (.tail _ (.head _)))))) (Asks.own (.tail _ (.tail _ (.tail _ (.tail _ (.head _))))) (Asks.own (.tail _ (.tail _ (.tail _ (.head _)))) Asks.nil)))) (fun _ _ h => by rw [h.2]; exact True.intro) ?_
  rintro _ _ ⟨rfl, rfl⟩
  refine St.asrt (F' := .res (Box g2 28 [.bool r1.2.Present, .int .u8 r1.2.Code, .int .u32 r1.2.Minutes, .slice A3 r1.2.Fields.length c3, .bool r2.2.Present, .int .u8 r2.2.Code, .int .u32 r2.2.Minutes, .slice A5 r2.2.Fields.length c5, .bool r3.2.Present, .int .u8 r3.2.Code, .int .u32 r3.2.Minutes, .slice A7 r3.2.Fields.length c7, .slice A9 r4.2.length c9]) :: .ro (SlL ei64 A8 c8 r4.1.L) :: .res (Box gb1 62 [.slice A8 r4.1.L.length c8, .int .i64 r4.1.At]) :: .res (OwnL eu8 5 A9 c9 r4.2) :: .res (OwnL e_Field 60 A7 c7 r3.2.Fields) :: .res (OwnL e_Field 60 A5 c5 r2.2.Fields) :: .res (OwnL e_Field 60 A3 c3 r1.2.Fields) :: .res (Box g1 28 [.bool false, .int .u8 0, .int .u32 0, .slice none 0 0, .bool false, .int .u8 0, .int .u32 0, .slice none 0 0, .bool false, .int .u8 0, .int .u32 0, .slice none 0 0, .slice none 0 0]) :: R) (fun _ w => w) ?_
  refine St.p rfl rfl ?_
  refine St.done ?_
  refine St.thenN ?_
  refine St.prune (Γ' := [(2, _), (3, _), (15, _)]) ⟨rfl, rfl, rfl, trivial⟩ (.k (.k (.k (.k (.k (.k (.k (.k .z)))))))) ?_
  refine St.cond _ rfl (fun hb1 => ?_) (fun hb1 => ?_)
  · replace h := bif_t hb1 h
    refine St.region ?_
    iterate 3 refine St.p rfl rfl ?_
    refine St.store 4 rfl rfl rfl rfl rfl rfl .z rfl ?_
    refine St.p rfl rfl ?_
    refine St.store 8 rfl rfl rfl rfl rfl rfl .z rfl ?_
    refine St.done ?_
    refine St.thenN ?_
    refine St.prune (Γ' := [(2, _), (3, _)]) ⟨rfl, rfl, trivial⟩ (.k (.k (.k (.k (.d (.d (.k (.k .z)))))))) ?_
    refine St.seq ?_
    refine St.region ?_
    refine St.loadB 0 rfl rfl (.head _) rfl rfl ?_
    refine St.store 0 rfl rfl rfl rfl rfl rfl (.s (.s (.s (.s (.s .z))))) rfl ?_
    refine St.done ?_
    refine St.thenN ?_
    refine St.prune (Γ' := [(2, _)]) ⟨rfl, trivial⟩ (.k (.d (.k (.k (.k (.k .z)))))) ?_
    refine St.ret ?_
    repeat (first | refine St.thenR ?_ | refine St.blkR ?_)
    refine St.asrt (fun _ w => w.nilL e_Field 60) ?_
    refine St.asrt (fun _ w => w.nilL e_Field 60) ?_
    injection h with h
    subst h
    exact St.finR Tryd.results12 (.cell rfl (.tail _ (.tail _ (.head _))) rfl .nil) rfl [.ro (SlL ei64 A8 c8 r4.1.L), .res (Box gb1 62 [.slice A8 r4.1.L.length c8, .int .i64 r4.1.At]), .res (OwnL e_Field 60 A3 c3 r1.2.Fields), .res (OwnL e_Field 60 none 0 ([] : List T_Field)), .res (OwnL e_Field 60 none 0 ([] : List T_Field)), .res (OwnL eu8 5 A9 c9 r4.2)] ⟨A8, c8, A3, c3, none, 0, none, 0, A9, c9, rfl, rfl⟩ (fun _ w => ((.k (.k (.k (.k (.k (.k (.d (.d .z)))))))) : Keep _ _).sat (Sat.dup (G := [.ro (SlL ei64 A8 c8 r4.1.L)]) rfl ⟨(.tail _ (.tail _ (.tail _ (.tail _ (.tail _ (.tail _ (.head _))))))), trivial⟩ (((((w.front (.s (.s (.s (.s (.s .z)))))).front (.s .z)).front (.s (.s .z))).front (.s (.s (.s (.s (.s (.s .z))))))).front (.s (.s (.s (.s (.s (.s .z)))))))))
  · replace h := bif_f hb1 h
    refine St.skip ?_
    refine St.thenN ?_
    refine St.prune (Γ' := [(2, _), (3, _)]) ⟨rfl, rfl, trivial⟩ (.k (.k (.k (.k (.k (.k (.k (.k .z)))))))) ?_
    refine St.seq ?_
    refine St.region ?_
    refine St.loadB 0 rfl rfl (.head _) rfl rfl ?_
    refine St.store 0 rfl rfl rfl rfl rfl rfl (.s (.s (.s (.s (.s (.s (.s .z))))))) rfl ?_
    refine St.done ?_
    refine St.thenN ?_
    refine St.prune (Γ' := [(2, _)]) ⟨rfl, trivial⟩ (.k (.d (.k (.k (.k (.k (.k (.k .z)))))))) ?_
    refine St.ret ?_
    repeat (first | refine St.thenR ?_ | refine St.blkR ?_)
    injection h with h
    subst h
    exact St.finR Tryd.results12 (.cell rfl (.head _) rfl .nil) rfl [.ro (SlL ei64 A8 c8 r4.1.L), .res (Box gb1 62 [.slice A8 r4.1.L.length c8, .int .i64 r4.1.At]), .res (OwnL e_Field 60 A3 c3 r1.2.Fields), .res (OwnL e_Field 60 A5 c5 r2.2.Fields), .res (OwnL e_Field 60 A7 c7 r3.2.Fields), .res (OwnL eu8 5 A9 c9 r4.2)] ⟨A8, c8, A3, c3, A5, c5, A7, c7, A9, c9, rfl, rfl⟩ (fun _ w => ((.k (.k (.k (.k (.k (.k (.d (.d .z)))))))) : Keep _ _).sat (Sat.dup (G := [.ro (SlL ei64 A8 c8 r4.1.L)]) rfl ⟨(.tail _ (.tail _ (.tail _ (.tail _ (.tail _ (.tail _ (.head _))))))), trivial⟩ (((((w.front (.s (.s (.s .z)))).front (.s (.s (.s (.s .z))))).front (.s (.s (.s (.s (.s .z)))))).front (.s (.s (.s (.s (.s (.s .z))))))).front (.s (.s (.s (.s (.s (.s .z)))))))))

theorem ent13 : Ent Tryd.prog 13 := ⟨_, Tryd.func13, by kernel_rfl, by kernel_rfl⟩

noncomputable def m_law17_odd (d_p0 : T_Dice) : Option (T_Dice × T_Info) :=
  bnd (m_made_Dice_Info_r0 d_p0) fun r1 => bnd (m_made_Dice_Next r1.1 9) fun r2 => bif (r2.2 == 0) then (bnd (m_made_Dice_OddField r2.1) fun r3 => bnd (app 24 r1.2.Chassis.Fields [r3.2]) fun l1 => some (r3.1, (⟨(⟨r1.2.Chassis.Present, r1.2.Chassis.Code, r1.2.Chassis.Minutes, l1⟩ : T_Area), r1.2.Board, r1.2.Product, r1.2.Multi⟩ : T_Info))) else (bif (r2.2 == 1) then (bnd (m_made_Dice_Next r2.1 2) fun r4 => some (r4.1, (⟨r1.2.Chassis, r1.2.Board, (⟨r1.2.Product.Present, r1.2.Product.Code, IntKind.wrap .u32 r4.2, r1.2.Product.Fields⟩ : T_Area), r1.2.Multi⟩ : T_Info))) else (bif (r2.2 == 2) then (bnd (m_made_Dice_Next r2.1 2) fun r5 => some (r5.1, (⟨r1.2.Chassis, (⟨r1.2.Board.Present, r1.2.Board.Code, IntKind.wrap .u32 (16777215 + (IntKind.wrap .u32 r5.2)), r1.2.Board.Fields⟩ : T_Area), r1.2.Product, r1.2.Multi⟩ : T_Info))) else (bif (r2.2 == 3) then (some (r2.1, (⟨r1.2.Chassis, (⟨!r1.2.Board.Present, r1.2.Board.Code, r1.2.Board.Minutes, r1.2.Board.Fields⟩ : T_Area), r1.2.Product, r1.2.Multi⟩ : T_Info))) else (bif (r2.2 == 4) then (bnd (m_made_Dice_Next r2.1 60) fun r6 => bnd (mkS 1 0 (IntKind.wrap .i64 (2000 + r6.2)) (IntKind.wrap .i64 (2000 + r6.2))) fun l2 => some (r6.1, (⟨r1.2.Chassis, r1.2.Board, r1.2.Product, l2⟩ : T_Info))) else (bif (r2.2 == 5) then (some (r2.1, (⟨r1.2.Chassis, r1.2.Board, (⟨r1.2.Product.Present, r1.2.Product.Code, r1.2.Product.Minutes, []⟩ : T_Area), r1.2.Multi⟩ : T_Info))) else (bif (r2.2 == 6) then (bnd (loopM (τ := List T_Field) (fun (s1 : Int × List T_Field) => bif decide (s1.1 < 20) then (bnd (mkS 1 0 63 63) fun l3 => bnd (app 24 s1.2 [(⟨0, strOf l3⟩ : T_Field)]) fun l4 => some (.next (IntKind.wrap .i64 (s1.1 + 1), l4))) else (some (.done s1.2))) (0, r1.2.Product.Fields)) fun o1 => bnd (m_made_Dice_Next r2.1 2) fun r7 => bnd (sub o1 0 (IntKind.wrap .i64 (16 + r7.2))) fun l5 => some (r7.1, (⟨r1.2.Chassis, (⟨r1.2.Product.Present, r1.2.Product.Code, r1.2.Product.Minutes, l5⟩ : T_Area), (⟨r1.2.Product.Present, r1.2.Product.Code, r1.2.Product.Minutes, l5⟩ : T_Area), r1.2.Multi⟩ : T_Info))) else (some (r2.1, r1.2))))))))

set_option maxHeartbeats 4000000 in
theorem c_law17_odd {d_p0 : T_Dice} {A1 : Option Addr} {c1 : Nat} {gb1 : Nat} {r : (T_Dice × T_Info)} (h : m_law17_odd d_p0 = some r) :
    Fun Tryd.prog 13 [.pointer (some ⟨gb1, 0, none⟩)] [.ro (SlL ei64 A1 c1 d_p0.L), .res (Box gb1 62 [.slice A1 d_p0.L.length c1, .int .i64 d_p0.At])] (fun v_ F_ => ∃ (A1 : Option Addr) (c1 : Nat) (A2 : Option Addr) (c2 : Nat) (A3 : Option Addr) (c3 : Nat) (A4 : Option Addr) (c4 : Nat) (A5 : Option Addr) (c5 : Nat), v_ = .agg (bx_T_Info r.2 A2 c2 A3 c3 A4 c4 A5 c5).toArray ∧ F_ = [.ro (SlL ei64 A1 c1 r.1.L), .ro (SlL e_Field A2 c2 r.2.Chassis.Fields), .ro (SlL e_Field A3 c3 r.2.Board.Fields), .ro (SlL e_Field A4 c4 r.2.Product.Fields), .ro (SlL eu8 A5 c5 r.2.Multi), .res (Box gb1 62 [.slice A1 r.1.L.length c1, .int .i64 r.1.At])]) := by
  unfold m_law17_odd at h
  refine Fun.intro Tryd.func13 rfl rfl rfl fun w R => ?_
  refine St.seq ?_
  refine St.region ?_
  refine St.alloc rfl rfl fun g1 => ?_
  refine St.done ?_
  refine St.thenN ?_
  refine St.seq ?_
  refine St.region ?_
  refine St.p rfl rfl ?_
  obtain ⟨r1, hr1, h⟩ := bnd_e h
  refine St.call (c_made_Dice_Info_r0 hr1) ent12 rfl rfl rfl (fun _ w => Sat.dup (G := [.ro (SlL ei64 A1 c1 d_p0.L)]) rfl ⟨(.tail _ (.tail _ (.head _))), trivial⟩ (w.front (.s (.s .z)))) ?_
  rintro _ _ ⟨A2, c2, A3, c3, A4, c4, A5, c5, A6, c6, rfl, rfl⟩
  refine St.asrt (F' := .ro (SlL ei64 A2 c2 r1.1.L) :: .res (Box gb1 62 [.slice A2 r1.1.L.length c2, .int .i64 r1.1.At]) :: .res (OwnL e_Field 60 A3 c3 r1.2.Chassis.Fields) :: .res (OwnL e_Field 60 A4 c4 r1.2.Board.Fields) :: .res (OwnL e_Field 60 A5 c5 r1.2.Product.Fields) :: .res (OwnL eu8 5 A6 c6 r1.2.Multi) :: .res (Box g1 28 [.bool false, .int .u8 0, .int .u32 0, .slice none 0 0, .bool false, .int .u8 0, .int .u32 0, .slice none 0 0, .bool false, .int .u8 0, .int .u32 0, .slice none 0 0, .slice none 0 0]) :: .ro (SlL ei64 A1 c1 d_p0.L) :: R) (fun _ w => w) ?_
  refine St.alloc rfl rfl fun g2 => ?_
  refine St.store 0 rfl rfl rfl rfl rfl rfl .z rfl ?_
  refine St.done ?_
  refine St.thenN ?_
  refine St.prune (Γ' := [(0, _), (2, _), (3, _)]) ⟨rfl, rfl, rfl, trivial⟩ (.k (.k (.k (.k (.k (.k (.k (.k (.d .z))))))))) ?_
  refine St.seq ?_
  refine St.seq ?_
  refine St.region ?_
  refine St.p rfl rfl ?_
  obtain ⟨r2, hr2, h⟩ := bnd_e h
  refine St.call (c_made_Dice_Next hr2) ent23 rfl rfl rfl (fun _ w => Sat.dup (G := [.ro (SlL ei64 A2 c2 r1.1.L)]) rfl ⟨(.tail _ (.tail _ (.head _))), trivial⟩ (w.front (.s (.s .z)))) ?_
  rintro _ _ ⟨A7, c7, rfl, rfl⟩
  refine St.asrt (F' := .ro (SlL ei64 A7 c7 r2.1.L) :: .res (Box gb1 62 [.slice A7 r2.1.L.length c7, .int .i64 r2.1.At]) :: .res (Box g2 28 [.bool r1.2.Chassis.Present, .int .u8 r1.2.Chassis.Code, .int .u32 r1.2.Chassis.Minutes, .slice A3 r1.2.Chassis.Fields.length c3, .bool r1.2.Board.Present, .int .u8 r1.2.Board.Code, .int .u32 r1.2.Board.Minutes, .slice A4 r1.2.Board.Fields.length c4, .bool r1.2.Product.Present, .int .u8 r1.2.Product.Code, .int .u32 r1.2.Product.Minutes, .slice A5 r1.2.Product.Fields.length c5, .slice A6 r1.2.Multi.length c6]) :: .ro (SlL ei64 A2 c2 r1.1.L) :: .res (OwnL e_Field 60 A3 c3 r1.2.Chassis.Fields) :: .res (OwnL e_Field 60 A4 c4 r1.2.Board.Fields) :: .res (OwnL e_Field 60 A5 c5 r1.2.Product.Fields) :: .res (OwnL eu8 5 A6 c6 r1.2.Multi) :: .res (Box g1 28 [.bool false, .int .u8 0, .int .u32 0, .slice none 0 0, .bool false, .int .u8 0, .int .u32 0, .slice none 0 0, .bool false, .int .u8 0, .int .u32 0, .slice none 0 0, .slice none 0 0]) :: R) (fun _ w => w) ?_
  refine St.done ?_
  refine St.thenN ?_
  refine St.prune (Γ' := [(0, _), (2, _), (3, _), (8, _)]) ⟨rfl, rfl, rfl, rfl, trivial⟩ (.k (.k (.k (.d (.k (.k (.k (.k (.k .z))))))))) ?_
  refine St.block ?_
  refine St.seq ?_
  refine St.region ?_
  refine St.p rfl rfl ?_
  refine St.p rfl rfl ?_
  refine St.done ?_
  refine St.thenN ?_
  refine St.prune (Γ' := [(0, _), (2, _), (3, _), (8, _), (9, _)]) ⟨rfl, rfl, rfl, rfl, rfl, trivial⟩ (.k (.k (.k (.k (.k (.k (.k (.k .z)))))))) ?_
  refine St.cond _ rfl (fun hb1 => ?_) (fun hb1 => ?_)
  · replace h := bif_t hb1 h
    obtain ⟨r3, hr3, h⟩ := bnd_e h
    obtain ⟨l1, hl1, h⟩ := bnd_e h
    refine St.regionX (iL [(.fl, 0), (.fl, 1), (.fl, 3)] (.alt (iL [(.ef, 2)] (iL [(.ef, 4)] (iL [(.ef, 5)] (iL [(.ef, 6), (.fl, 7), (.fl, 8)] (iL [(.ef, 9)] .nil))))) (iL [(.ef, 4)] (.alt (iL [(.ef, 2)] (iL [(.ef, 5)] (iL [(.ef, 6), (.fl, 7), (.fl, 8)] (iL [(.ef, 9)] .nil)))) (iL [(.ef, 5)] (iL [(.ef, 2)] (iL [(.ef, 6), (.fl, 7), (.fl, 8)] (iL [(.ef, 9)] .nil)))))))) (.ro (SlL ei64 A7 c7 r2.1.L) :: .res (OwnL e_Field 60 A4 c4 r1.2.Board.Fields) :: .res (OwnL e_Field 60 A5 c5 r1.2.Product.Fields) :: .res (OwnL eu8 5 A6 c6 r1.2.Multi) :: .res (Box g1 28 [.bool false, .int .u8 0, .int .u32 0, .slice none 0 0, .bool false, .int .u8 0, .int .u32 0, .slice none 0 0, .bool false, .int .u8 0, .int .u32 0, .slice none 0 0, .slice none 0 0]) :: R) mixed (by kernel_rfl) (fun _ w => ((.k (.d (.d (.d (.k (.k (.k (.k .z)))))))) : Keep _ _).sat w) ?_
    refine St.share (Y := ?Ynd1_0) (fun (e : Nat × Option Addr × Nat) => [(0, .pointer (some ⟨gb1, 0, none⟩)), (2, .pointer (some ⟨g1, 0, none⟩)), (3, .pointer (some ⟨g2, 0, none⟩)), (8, .int .i64 r2.2), (9, .bool (r2.2 == 0)), (11, .pointer (some ⟨g2, 0, none⟩)), (12, .pointer (some ⟨g2, 3, none⟩)), (13, .slice A3 r1.2.Chassis.Fields.length c3), (14, .pointer (some ⟨gb1, 0, none⟩)), (15, .agg #[.int .i64 r3.2.Kind, .string r3.2.Value]), (16, .slice (some ⟨e.1, 0, none⟩) 1 1)]) (fun e => .res (Box e.1 60 [.int .i64 r3.2.Kind, .string r3.2.Value]) :: .ro (SlL ei64 e.2.1 e.2.2 r3.1.L) :: .res (Box gb1 62 [.slice e.2.1 r3.1.L.length e.2.2, .int .i64 r3.1.At]) :: .ro (SlL ei64 A7 c7 r2.1.L) :: .res (Box g2 28 [.bool r1.2.Chassis.Present, .int .u8 r1.2.Chassis.Code, .int .u32 r1.2.Chassis.Minutes, .slice A3 r1.2.Chassis.Fields.length c3, .bool r1.2.Board.Present, .int .u8 r1.2.Board.Code, .int .u32 r1.2.Board.Minutes, .slice A4 r1.2.Board.Fields.length c4, .bool r1.2.Product.Present, .int .u8 r1.2.Product.Code, .int .u32 r1.2.Product.Minutes, .slice A5 r1.2.Product.Fields.length c5, .slice A6 r1.2.Multi.length c6]) :: .res (OwnL e_Field 60 A3 c3 r1.2.Chassis.Fields) :: .res (OwnL e_Field 60 A4 c4 r1.2.Board.Fields) :: .res (OwnL e_Field 60 A5 c5 r1.2.Product.Fields) :: .res (OwnL eu8 5 A6 c6 r1.2.Multi) :: .res (Box g1 28 [.bool false, .int .u8 0, .int .u32 0, .slice none 0 0, .bool false, .int .u8 0, .int .u32 0, .slice none 0 0, .bool false, .int .u8 0, .int .u32 0, .slice none 0 0, .slice none 0 0]) :: R) (fun hnd1_0 => ?mnd1_0) ?tnd1_0
    case mnd1_0 =>
      refine St.share (Y := ?Ynd1_1) (fun (e : Option Addr × Nat) => [(0, .pointer (some ⟨gb1, 0, none⟩)), (2, .pointer (some ⟨g1, 0, none⟩)), (3, .pointer (some ⟨g2, 0, none⟩)), (8, .int .i64 r2.2), (9, .bool (r2.2 == 0)), (11, .pointer (some ⟨g2, 0, none⟩)), (12, .pointer (some ⟨g2, 3, none⟩)), (13, .slice A3 r1.2.Chassis.Fields.length c3), (14, .pointer (some ⟨gb1, 0, none⟩)), (15, .agg #[.int .i64 r3.2.Kind, .string r3.2.Value])]) (fun e => .ro (SlL ei64 e.1 e.2 r3.1.L) :: .res (Box gb1 62 [.slice e.1 r3.1.L.length e.2, .int .i64 r3.1.At]) :: .ro (SlL ei64 A7 c7 r2.1.L) :: .res (Box g2 28 [.bool r1.2.Chassis.Present, .int .u8 r1.2.Chassis.Code, .int .u32 r1.2.Chassis.Minutes, .slice A3 r1.2.Chassis.Fields.length c3, .bool r1.2.Board.Present, .int .u8 r1.2.Board.Code, .int .u32 r1.2.Board.Minutes, .slice A4 r1.2.Board.Fields.length c4, .bool r1.2.Product.Present, .int .u8 r1.2.Product.Code, .int .u32 r1.2.Product.Minutes, .slice A5 r1.2.Product.Fields.length c5, .slice A6 r1.2.Multi.length c6]) :: .res (OwnL e_Field 60 A3 c3 r1.2.Chassis.Fields) :: .res (OwnL e_Field 60 A4 c4 r1.2.Board.Fields) :: .res (OwnL e_Field 60 A5 c5 r1.2.Product.Fields) :: .res (OwnL eu8 5 A6 c6 r1.2.Multi) :: .res (Box g1 28 [.bool false, .int .u8 0, .int .u32 0, .slice none 0 0, .bool false, .int .u8 0, .int .u32 0, .slice none 0 0, .bool false, .int .u8 0, .int .u32 0, .slice none 0 0, .slice none 0 0]) :: R) (fun hnd1_1 => ?mnd1_1) ?tnd1_1
      case mnd1_1 =>
        refine St.xfl (fun _ h => h) (Rd.p rfl) rfl ?_
        refine St.xfl (fun _ h => h) (Rd.p rfl) rfl ?_
        refine St.xfl (fun _ h => h) (Rd.p rfl) rfl ?_
        refine St.xalt ?_ ?_
        · refine St.xef ?_
          refine St.loadB 3 rfl rfl (.tail _ (.tail _ (.head _))) rfl rfl ?_
          refine St.xk (fun _ w => ((.k (.d (.d (.d (.k (.k (.k (.k .z)))))))) : Keep _ _).sat w) ?_
          refine St.xef ?_
          refine St.call (c_made_Dice_OddField hr3) ent34 rfl rfl rfl (fun _ w => Sat.dup (G := [.ro (SlL ei64 A7 c7 r2.1.L)]) rfl ⟨(.tail _ (.head _)), trivial⟩ (w.front (.s .z))) ?_
          rintro _ _ ⟨A8, c8, rfl, rfl⟩
          refine St.asrt (F' := .ro (SlL ei64 A8 c8 r3.1.L) :: .res (Box gb1 62 [.slice A8 r3.1.L.length c8, .int .i64 r3.1.At]) :: .ro (SlL ei64 A7 c7 r2.1.L) :: .res (Box g2 28 [.bool r1.2.Chassis.Present, .int .u8 r1.2.Chassis.Code, .int .u32 r1.2.Chassis.Minutes, .slice A3 r1.2.Chassis.Fields.length c3, .bool r1.2.Board.Present, .int .u8 r1.2.Board.Code, .int .u32 r1.2.Board.Minutes, .slice A4 r1.2.Board.Fields.length c4, .bool r1.2.Product.Present, .int .u8 r1.2.Product.Code, .int .u32 r1.2.Product.Minutes, .slice A5 r1.2.Product.Fields.length c5, .slice A6 r1.2.Multi.length c6]) :: .res (OwnL e_Field 60 A3 c3 r1.2.Chassis.Fields) :: .res (OwnL e_Field 60 A4 c4 r1.2.Board.Fields) :: .res (OwnL e_Field 60 A5 c5 r1.2.Product.Fields) :: .res (OwnL eu8 5 A6 c6 r1.2.Multi) :: .res (Box g1 28 [.bool false, .int .u8 0, .int .u32 0, .slice none 0 0, .bool false, .int .u8 0, .int .u32 0, .slice none 0 0, .bool false, .int .u8 0, .int .u32 0, .slice none 0 0, .slice none 0 0]) :: R) (fun _ w => w) ?_
          refine St.xk (fun _ w => ((.d (.d (.k (.d (.d (.k (.k (.k (.k .z))))))))) : Keep _ _).sat w) ?_
          refine hnd1_1 _ _ (A8, c8) ?_ ?_
          · exact ⟨rfl, rfl, rfl, rfl, rfl, rfl, rfl, rfl, rfl, rfl, trivial⟩
          · exact fun _ w => ((.k (.k (.k (.k (.k (.k (.k (.k (.k .z))))))))) : Keep _ _).sat w
        · refine St.xef ?_
          refine St.call (c_made_Dice_OddField hr3) ent34 rfl rfl rfl (fun _ w => Sat.dup (G := [.ro (SlL ei64 A7 c7 r2.1.L)]) rfl ⟨(.tail _ (.head _)), trivial⟩ (w.front (.s .z))) ?_
          rintro _ _ ⟨A8, c8, rfl, rfl⟩
          refine St.asrt (F' := .ro (SlL ei64 A8 c8 r3.1.L) :: .res (Box gb1 62 [.slice A8 r3.1.L.length c8, .int .i64 r3.1.At]) :: .ro (SlL ei64 A7 c7 r2.1.L) :: .res (Box g2 28 [.bool r1.2.Chassis.Present, .int .u8 r1.2.Chassis.Code, .int .u32 r1.2.Chassis.Minutes, .slice A3 r1.2.Chassis.Fields.length c3, .bool r1.2.Board.Present, .int .u8 r1.2.Board.Code, .int .u32 r1.2.Board.Minutes, .slice A4 r1.2.Board.Fields.length c4, .bool r1.2.Product.Present, .int .u8 r1.2.Product.Code, .int .u32 r1.2.Product.Minutes, .slice A5 r1.2.Product.Fields.length c5, .slice A6 r1.2.Multi.length c6]) :: .res (OwnL e_Field 60 A3 c3 r1.2.Chassis.Fields) :: .res (OwnL e_Field 60 A4 c4 r1.2.Board.Fields) :: .res (OwnL e_Field 60 A5 c5 r1.2.Product.Fields) :: .res (OwnL eu8 5 A6 c6 r1.2.Multi) :: .res (Box g1 28 [.bool false, .int .u8 0, .int .u32 0, .slice none 0 0, .bool false, .int .u8 0, .int .u32 0, .slice none 0 0, .bool false, .int .u8 0, .int .u32 0, .slice none 0 0, .slice none 0 0]) :: R) (fun _ w => w) ?_
          refine St.xk (fun _ w => ((.d (.d (.k (.d (.d (.k (.k (.k (.k .z))))))))) : Keep _ _).sat w) ?_
          refine St.xalt ?_ ?_
          · refine St.xef ?_
            refine St.loadB 3 rfl rfl (.tail _ (.tail _ (.tail _ (.head _)))) rfl rfl ?_
            refine St.xk (fun _ w => ((.d (.d (.k (.d (.d (.k (.k (.k (.k .z))))))))) : Keep _ _).sat w) ?_
            refine hnd1_1 _ _ (A8, c8) ?_ ?_
            · exact ⟨rfl, rfl, rfl, rfl, rfl, rfl, rfl, rfl, rfl, rfl, trivial⟩
            · exact fun _ w => ((.k (.k (.k (.k (.k (.k (.k (.k (.k .z))))))))) : Keep _ _).sat w
          · refine St.xef ?_
            refine St.buildSlice rfl rfl rfl rfl rfl rfl rfl rfl fun g3 => ?_
            refine St.xk (fun _ w => ((.d (.d (.d (.k (.d (.d (.k (.k (.k (.k .z)))))))))) : Keep _ _).sat w) ?_
            refine St.xef ?_
            refine St.loadB 3 rfl rfl (.tail _ (.tail _ (.tail _ (.tail _ (.head _))))) rfl rfl ?_
            refine St.xk (fun _ w => ((.d (.d (.d (.k (.d (.d (.k (.k (.k (.k .z)))))))))) : Keep _ _).sat w) ?_
            refine hnd1_0 _ _ (g3, A8, c8) ?_ ?_
            · exact ⟨rfl, rfl, rfl, rfl, rfl, rfl, rfl, rfl, rfl, rfl, rfl, trivial⟩
            · exact fun _ w => ((.k (.k (.k (.k (.k (.k (.k (.k (.k (.k .z)))))))))) : Keep _ _).sat w
      case tnd1_1 =>
        rintro ⟨A8, c8⟩
        refine St.asrt (F' := .ro (SlL ei64 A8 c8 r3.1.L) :: .res (Box gb1 62 [.slice A8 r3.1.L.length c8, .int .i64 r3.1.At]) :: .ro (SlL ei64 A7 c7 r2.1.L) :: .res (Box g2 28 [.bool r1.2.Chassis.Present, .int .u8 r1.2.Chassis.Code, .int .u32 r1.2.Chassis.Minutes, .slice A3 r1.2.Chassis.Fields.length c3, .bool r1.2.Board.Present, .int .u8 r1.2.Board.Code, .int .u32 r1.2.Board.Minutes, .slice A4 r1.2.Board.Fields.length c4, .bool r1.2.Product.Present, .int .u8 r1.2.Product.Code, .int .u32 r1.2.Product.Minutes, .slice A5 r1.2.Product.Fields.length c5, .slice A6 r1.2.Multi.length c6]) :: .res (OwnL e_Field 60 A3 c3 r1.2.Chassis.Fields) :: .res (OwnL e_Field 60 A4 c4 r1.2.Board.Fields) :: .res (OwnL e_Field 60 A5 c5 r1.2.Product.Fields) :: .res (OwnL eu8 5 A6 c6 r1.2.Multi) :: .res (Box g1 28 [.bool false, .int .u8 0, .int .u32 0, .slice none 0 0, .bool false, .int .u8 0, .int .u32 0, .slice none 0 0, .bool false, .int .u8 0, .int .u32 0, .slice none 0 0, .slice none 0 0]) :: R) (fun _ w => w) ?_
        refine St.xef ?_
        refine St.buildSlice rfl rfl rfl rfl rfl rfl rfl rfl fun g3 => ?_
        refine St.xk (fun _ w => ((.d (.d (.d (.k (.d (.d (.k (.k (.k (.k .z)))))))))) : Keep _ _).sat w) ?_
        refine hnd1_0 _ _ (g3, A8, c8) ?_ ?_
        · exact ⟨rfl, rfl, rfl, rfl, rfl, rfl, rfl, rfl, rfl, rfl, rfl, trivial⟩
        · exact fun _ w => ((.k (.k (.k (.k (.k (.k (.k (.k (.k (.k .z)))))))))) : Keep _ _).sat w
    case tnd1_0 =>
      rintro ⟨g3, A8, c8⟩
      refine St.asrt (F' := .res (Box g3 60 [.int .i64 r3.2.Kind, .string r3.2.Value]) :: .ro (SlL ei64 A8 c8 r3.1.L) :: .res (Box gb1 62 [.slice A8 r3.1.L.length c8, .int .i64 r3.1.At]) :: .ro (SlL ei64 A7 c7 r2.1.L) :: .res (Box g2 28 [.bool r1.2.Chassis.Present, .int .u8 r1.2.Chassis.Code, .int .u32 r1.2.Chassis.Minutes, .slice A3 r1.2.Chassis.Fields.length c3, .bool r1.2.Board.Present, .int .u8 r1.2.Board.Code, .int .u32 r1.2.Board.Minutes, .slice A4 r1.2.Board.Fields.length c4, .bool r1.2.Product.Present, .int .u8 r1.2.Product.Code, .int .u32 r1.2.Product.Minutes, .slice A5 r1.2.Product.Fields.length c5, .slice A6 r1.2.Multi.length c6]) :: .res (OwnL e_Field 60 A3 c3 r1.2.Chassis.Fields) :: .res (OwnL e_Field 60 A4 c4 r1.2.Board.Fields) :: .res (OwnL e_Field 60 A5 c5 r1.2.Product.Fields) :: .res (OwnL eu8 5 A6 c6 r1.2.Multi) :: .res (Box g1 28 [.bool false, .int .u8 0, .int .u32 0, .slice none 0 0, .bool false, .int .u8 0, .int .u32 0, .slice none 0 0, .bool false, .int .u8 0, .int .u32 0, .slice none 0 0, .slice none 0 0]) :: R) (fun _ w => w) ?_
      refine St.xef ?_
      refine St.app (E := e_Field) hl1 rfl rfl rfl (.s (.s (.s (.s (.s .z))))) rfl rfl rfl rfl rfl rfl rfl rfl (srcB (.head _) rfl rfl) rfl rfl fun A9 c9 => ?_
      refine St.xk (fun _ w => ((.d (.d (.d (.d (.k (.d (.k (.k (.k (.k .z)))))))))) : Keep _ _).sat w) ?_
      refine St.xfl (fun _ h => h) (Rd.p rfl) rfl ?_
      refine St.xfl (fun _ h => h) (Rd.p rfl) rfl ?_
      refine St.xef ?_
      refine St.store 3 rfl rfl rfl rfl rfl rfl (.s (.s (.s (.s (.s .z))))) rfl ?_
      refine St.xk (fun _ w => ((.d (.d (.d (.d (.d (.k (.k (.k (.k (.k .z)))))))))) : Keep _ _).sat w) ?_
      refine St.xdone ?_
      refine St.blkN ?_
      refine St.thenN ?_
      refine St.prune (Γ' := [(2, _), (3, _)]) ⟨rfl, rfl, trivial⟩ (.k (.k (.d (.k (.k (.d (.k (.k (.k (.k .z)))))))))) ?_
      refine St.seq ?_
      refine St.region ?_
      refine St.loadB 0 rfl rfl (.head _) rfl rfl ?_
      refine St.store 0 rfl rfl rfl rfl rfl rfl (.s (.s (.s (.s (.s (.s (.s .z))))))) rfl ?_
      refine St.done ?_
      refine St.thenN ?_
      refine St.prune (Γ' := [(2, _)]) ⟨rfl, trivial⟩ (.k (.d (.k (.k (.k (.k (.k (.k .z)))))))) ?_
      refine St.ret ?_
      repeat (first | refine St.thenR ?_ | refine St.blkR ?_)
      refine St.asrt (fun _ w => (w.front (.s .z)).meltL) ?_
      refine St.asrt (fun _ w => (w.front (.s (.s (.s (.s .z))))).meltL) ?_
      refine St.asrt (fun _ w => (w.front (.s (.s (.s (.s (.s .z)))))).meltL) ?_
      refine St.asrt (fun _ w => (w.front (.s (.s (.s (.s (.s (.s .z))))))).meltL) ?_
      injection h with h
      subst h
      exact St.finR Tryd.results13 (.cell rfl (.tail _ (.tail _ (.tail _ (.tail _ (.head _))))) rfl .nil) rfl [.ro (SlL ei64 A8 c8 r3.1.L), .ro (SlL e_Field A9 c9 l1), .ro (SlL e_Field A4 c4 r1.2.Board.Fields), .ro (SlL e_Field A5 c5 r1.2.Product.Fields), .ro (SlL eu8 A6 c6 r1.2.Multi), .res (Box gb1 62 [.slice A8 r3.1.L.length c8, .int .i64 r3.1.At])] ⟨A8, c8, A9, c9, A4, c4, A5, c5, A6, c6, rfl, rfl⟩ (fun _ w => ((.k (.k (.k (.k (.k (.k (.d (.d (.d (.d (.d (.d .z)))))))))))) : Keep _ _).sat (Sat.dup (G := [.ro (SlL ei64 A8 c8 r3.1.L), .ro (SlL e_Field A9 c9 l1), .ro (SlL e_Field A4 c4 r1.2.Board.Fields), .ro (SlL e_Field A5 c5 r1.2.Product.Fields), .ro (SlL eu8 A6 c6 r1.2.Multi)]) rfl ⟨(.tail _ (.tail _ (.tail _ (.tail _ (.tail _ (.tail _ (.head _))))))), (.tail _ (.tail _ (.tail _ (.tail _ (.head _))))), (.tail _ (.tail _ (.tail _ (.head _)))), (.tail _ (.tail _ (.head _))), (.tail _ (.head _)), trivial⟩ (w.front (.s (.s (.s (.s (.s (.s .z)))))))))
  · replace h := bif_f hb1 h
    refine St.seq ?_
    refine St.region ?_
    refine St.p rfl rfl ?_
    refine St.p rfl rfl ?_
    refine St.done ?_
    refine St.thenN ?_
    refine St.prune (Γ' := [(0, _), (2, _), (3, _), (8, _), (20, _)]) ⟨rfl, rfl, rfl, rfl, rfl, trivial⟩ (.k (.k (.k (.k (.k (.k (.k (.k .z)))))))) ?_
    refine St.cond _ rfl (fun hb2 => ?_) (fun hb2 => ?_)
    · replace h := bif_t hb2 h
      refine St.region ?_
      refine St.p rfl rfl ?_
      obtain ⟨r4, hr4, h⟩ := bnd_e h
      refine St.call (c_made_Dice_Next hr4) ent23 rfl rfl rfl (fun _ w => Sat.dup (G := [.ro (SlL ei64 A7 c7 r2.1.L)]) rfl ⟨(.tail _ (.head _)), trivial⟩ (w.front (.s .z))) ?_
      rintro _ _ ⟨A10, c10, rfl, rfl⟩
      refine St.asrt (F' := .ro (SlL ei64 A10 c10 r4.1.L) :: .res (Box gb1 62 [.slice A10 r4.1.L.length c10, .int .i64 r4.1.At]) :: .ro (SlL ei64 A7 c7 r2.1.L) :: .res (Box g2 28 [.bool r1.2.Chassis.Present, .int .u8 r1.2.Chassis.Code, .int .u32 r1.2.Chassis.Minutes, .slice A3 r1.2.Chassis.Fields.length c3, .bool r1.2.Board.Present, .int .u8 r1.2.Board.Code, .int .u32 r1.2.Board.Minutes, .slice A4 r1.2.Board.Fields.length c4, .bool r1.2.Product.Present, .int .u8 r1.2.Product.Code, .int .u32 r1.2.Product.Minutes, .slice A5 r1.2.Product.Fields.length c5, .slice A6 r1.2.Multi.length c6]) :: .res (OwnL e_Field 60 A3 c3 r1.2.Chassis.Fields) :: .res (OwnL e_Field 60 A4 c4 r1.2.Board.Fields) :: .res (OwnL e_Field 60 A5 c5 r1.2.Product.Fields) :: .res (OwnL eu8 5 A6 c6 r1.2.Multi) :: .res (Box g1 28 [.bool false, .int .u8 0, .int .u32 0, .slice none 0 0, .bool false, .int .u8 0, .int .u32 0, .slice none 0 0, .bool false, .int .u8 0, .int .u32 0, .slice none 0 0, .slice none 0 0]) :: R) (fun _ w => w) ?_
      iterate 3 refine St.p rfl rfl ?_
      refine St.store 10 rfl rfl rfl rfl rfl rfl (.s (.s (.s .z))) rfl ?_
      refine St.done ?_
      refine St.blkN ?_
      refine St.thenN ?_
      refine St.prune (Γ' := [(2, _), (3, _)]) ⟨rfl, rfl, trivial⟩ (.k (.k (.k (.d (.k (.k (.k (.k (.k .z))))))))) ?_
      refine St.seq ?_
      refine St.region ?_
      refine St.loadB 0 rfl rfl (.head _) rfl rfl ?_
      refine St.store 0 rfl rfl rfl rfl rfl rfl (.s (.s (.s (.s (.s (.s (.s .z))))))) rfl ?_
      refine St.done ?_
      refine St.thenN ?_
      refine St.prune (Γ' := [(2, _)]) ⟨rfl, trivial⟩ (.k (.d (.k (.k (.k (.k (.k (.k .z)))))))) ?_
      refine St.ret ?_
      repeat (first | refine St.thenR ?_ | refine St.blkR ?_)
      refine St.asrt (fun _ w => (w.front (.s (.s (.s .z)))).meltL) ?_
      refine St.asrt (fun _ w => (w.front (.s (.s (.s (.s .z))))).meltL) ?_
      refine St.asrt (fun _ w => (w.front (.s (.s (.s (.s (.s .z)))))).meltL) ?_
      refine St.asrt (fun _ w => (w.front (.s (.s (.s (.s (.s (.s .z))))))).meltL) ?_
      injection h with h
      subst h
      exact St.finR Tryd.results13 (.cell rfl (.tail _ (.tail _ (.tail _ (.tail _ (.head _))))) rfl .nil) rfl [.ro (SlL ei64 A10 c10 r4.1.L), .ro (SlL e_Field A3 c3 r1.2.Chassis.Fields), .ro (SlL e_Field A4 c4 r1.2.Board.Fields), .ro (SlL e_Field A5 c5 r1.2.Product.Fields), .ro (SlL eu8 A6 c6 r1.2.Multi), .res (Box gb1 62 [.slice A10 r4.1.L.length c10, .int .i64 r4.1.At])] ⟨A10, c10, A3, c3, A4, c4, A5, c5, A6, c6, rfl, rfl⟩ (fun _ w => ((.k (.k (.k (.k (.k (.k (.d (.d (.d (.d (.d (.d .z)))))))))))) : Keep _ _).sat (Sat.dup (G := [.ro (SlL ei64 A10 c10 r4.1.L), .ro (SlL e_Field A3 c3 r1.2.Chassis.Fields), .ro (SlL e_Field A4 c4 r1.2.Board.Fields), .ro (SlL e_Field A5 c5 r1.2.Product.Fields), .ro (SlL eu8 A6 c6 r1.2.Multi)]) rfl ⟨(.tail _ (.tail _ (.tail _ (.tail _ (.tail _ (.tail _ (.head _))))))), (.tail _ (.tail _ (.tail _ (.tail _ (.head _))))), (.tail _ (.tail _ (.tail _ (.head _)))), (.tail _ (.tail _ (.head _))), (.tail _ (.head _)), trivial⟩ (w.front (.s (.s (.s (.s (.s (.s .z)))))))))
    · replace h := bif_f hb2 h
      refine St.seq ?_
      refine St.region ?_
      refine St.p rfl rfl ?_
      refine St.p rfl rfl ?_
      refine St.done ?_
      refine St.thenN ?_
      refine St.prune (Γ' := [(0, _), (2, _), (3, _), (8, _), (27, _)]) ⟨rfl, rfl, rfl, rfl, rfl, trivial⟩ (.k (.k (.k (.k (.k (.k (.k (.k .z)))))))) ?_
      refine St.cond _ rfl (fun hb3 => ?_) (fun hb3 => ?_)
      · replace h := bif_t hb3 h
        refine St.region ?_
        refine St.p rfl rfl ?_
        obtain ⟨r5, hr5, h⟩ := bnd_e h
        refine St.call (c_made_Dice_Next hr5) ent23 rfl rfl rfl (fun _ w => Sat.dup (G := [.ro (SlL ei64 A7 c7 r2.1.L)]) rfl ⟨(.tail _ (.head _)), trivial⟩ (w.front (.s .z))) ?_
        rintro _ _ ⟨A11, c11, rfl, rfl⟩
        refine St.asrt (F' := .ro (SlL ei64 A11 c11 r5.1.L) :: .res (Box gb1 62 [.slice A11 r5.1.L.length c11, .int .i64 r5.1.At]) :: .ro (SlL ei64 A7 c7 r2.1.L) :: .res (Box g2 28 [.bool r1.2.Chassis.Present, .int .u8 r1.2.Chassis.Code, .int .u32 r1.2.Chassis.Minutes, .slice A3 r1.2.Chassis.Fields.length c3, .bool r1.2.Board.Present, .int .u8 r1.2.Board.Code, .int .u32 r1.2.Board.Minutes, .slice A4 r1.2.Board.Fields.length c4, .bool r1.2.Product.Present, .int .u8 r1.2.Product.Code, .int .u32 r1.2.Product.Minutes, .slice A5 r1.2.Product.Fields.length c5, .slice A6 r1.2.Multi.length c6]) :: .res (OwnL e_Field 60 A3 c3 r1.2.Chassis.Fields) :: .res (OwnL e_Field 60 A4 c4 r1.2.Board.Fields) :: .res (OwnL e_Field 60 A5 c5 r1.2.Product.Fields) :: .res (OwnL eu8 5 A6 c6 r1.2.Multi) :: .res (Box g1 28 [.bool false, .int .u8 0, .int .u32 0, .slice none 0 0, .bool false, .int .u8 0, .int .u32 0, .slice none 0 0, .bool false, .int .u8 0, .int .u32 0, .slice none 0 0, .slice none 0 0]) :: R) (fun _ w => w) ?_
        iterate 4 refine St.p rfl rfl ?_
        refine St.store 6 rfl rfl rfl rfl rfl rfl (.s (.s (.s .z))) rfl ?_
        refine St.done ?_
        refine St.blkN ?_
        refine St.thenN ?_
        refine St.prune (Γ' := [(2, _), (3, _)]) ⟨rfl, rfl, trivial⟩ (.k (.k (.k (.d (.k (.k (.k (.k (.k .z))))))))) ?_
        refine St.seq ?_
        refine St.region ?_
        refine St.loadB 0 rfl rfl (.head _) rfl rfl ?_
        refine St.store 0 rfl rfl rfl rfl rfl rfl (.s (.s (.s (.s (.s (.s (.s .z))))))) rfl ?_
        refine St.done ?_
        refine St.thenN ?_
        refine St.prune (Γ' := [(2, _)]) ⟨rfl, trivial⟩ (.k (.d (.k (.k (.k (.k (.k (.k .z)))))))) ?_
        refine St.ret ?_
        repeat (first | refine St.thenR ?_ | refine St.blkR ?_)
        refine St.asrt (fun _ w => (w.front (.s (.s (.s .z)))).meltL) ?_
        refine St.asrt (fun _ w => (w.front (.s (.s (.s (.s .z))))).meltL) ?_
        refine St.asrt (fun _ w => (w.front (.s (.s (.s (.s (.s .z)))))).meltL) ?_
        refine St.asrt (fun _ w => (w.front (.s (.s (.s (.s (.s (.s .z))))))).meltL) ?_
        injection h with h
        subst h
        exact St.finR Tryd.results13 (.cell rfl (.tail _ (.tail _ (.tail _ (.tail _ (.head _))))) rfl .nil) rfl [.ro (SlL ei64 A11 c11 r5.1.L), .ro (SlL e_Field A3 c3 r1.2.Chassis.Fields), .ro (SlL e_Field A4 c4 r1.2.Board.Fields), .ro (SlL e_Field A5 c5 r1.2.Product.Fields), .ro (SlL eu8 A6 c6 r1.2.Multi), .res (Box gb1 62 [.slice A11 r5.1.L.length c11, .int .i64 r5.1.At])] ⟨A11, c11, A3, c3, A4, c4, A5, c5, A6, c6, rfl, rfl⟩ (fun _ w => ((.k (.k (.k (.k (.k (.k (.d (.d (.d (.d (.d (.d .z)))))))))))) : Keep _ _).sat (Sat.dup (G := [.ro (SlL ei64 A11 c11 r5.1.L), .ro (SlL e_Field A3 c3 r1.2.Chassis.Fields), .ro (SlL e_Field A4 c4 r1.2.Board.Fields), .ro (SlL e_Field A5 c5 r1.2.Product.Fields), .ro (SlL eu8 A6 c6 r1.2.Multi)]) rfl ⟨(.tail _ (.tail _ (.tail _ (.tail _ (.tail _ (.tail _ (.head _))))))), (.tail _ (.tail _ (.tail _ (.tail _ (.head _))))), (.tail _ (.tail _ (.tail _ (.head _)))), (.tail _ (.tail _ (.head _))), (.tail _ (.head _)), trivial⟩ (w.front (.s (.s (.s (.s (.s (.s .z)))))))))
      · replace h := bif_f hb3 h
        refine St.seq ?_
        refine St.region ?_
        refine St.p rfl rfl ?_
        refine St.p rfl rfl ?_
        refine St.done ?_
        refine St.thenN ?_
        refine St.prune (Γ' := [(0, _), (2, _), (3, _), (8, _), (35, _)]) ⟨rfl, rfl, rfl, rfl, rfl, trivial⟩ (.k (.k (.k (.k (.k (.k (.k (.k .z)))))))) ?_
        refine St.cond _ rfl (fun hb4 => ?_) (fun hb4 => ?_)
        · replace h := bif_t hb4 h
          refine St.region ?_
          refine St.p rfl rfl ?_
          refine St.p rfl rfl ?_
          refine St.loadB 4 rfl rfl (.tail _ (.tail _ (.head _))) rfl rfl ?_
          iterate 3 refine St.p rfl rfl ?_
          refine St.store 4 rfl rfl rfl rfl rfl rfl (.s (.s .z)) rfl ?_
          refine St.done ?_
          refine St.blkN ?_
          refine St.thenN ?_
          refine St.prune (Γ' := [(2, _), (3, _)]) ⟨rfl, rfl, trivial⟩ (.k (.k (.k (.k (.k (.k (.k (.k .z)))))))) ?_
          refine St.seq ?_
          refine St.region ?_
          refine St.loadB 0 rfl rfl (.head _) rfl rfl ?_
          refine St.store 0 rfl rfl rfl rfl rfl rfl (.s (.s (.s (.s (.s (.s (.s .z))))))) rfl ?_
          refine St.done ?_
          refine St.thenN ?_
          refine St.prune (Γ' := [(2, _)]) ⟨rfl, trivial⟩ (.k (.d (.k (.k (.k (.k (.k (.k .z)))))))) ?_
          refine St.ret ?_
          repeat (first | refine St.thenR ?_ | refine St.blkR ?_)
          refine St.asrt (fun _ w => (w.front (.s (.s (.s .z)))).meltL) ?_
          refine St.asrt (fun _ w => (w.front (.s (.s (.s (.s .z))))).meltL) ?_
          refine St.asrt (fun _ w => (w.front (.s (.s (.s (.s (.s .z)))))).meltL) ?_
          refine St.asrt (fun _ w => (w.front (.s (.s (.s (.s (.s (.s .z))))))).meltL) ?_
          injection h with h
          subst h
          exact St.finR Tryd.results13 (.cell rfl (.tail _ (.tail _ (.tail _ (.tail _ (.head _))))) rfl .nil) rfl [.ro (SlL ei64 A7 c7 r2.1.L), .ro (SlL e_Field A3 c3 r1.2.Chassis.Fields), .ro (SlL e_Field A4 c4 r1.2.Board.Fields), .ro (SlL e_Field A5 c5 r1.2.Product.Fields), .ro (SlL eu8 A6 c6 r1.2.Multi), .res (Box gb1 62 [.slice A7 r2.1.L.length c7, .int .i64 r2.1.At])] ⟨A7, c7, A3, c3, A4, c4, A5, c5, A6, c6, rfl, rfl⟩ (fun _ w => ((.k (.k (.k (.k (.k (.k (.d (.d (.d (.d (.d (.d .z)))))))))))) : Keep _ _).sat (Sat.dup (G := [.ro (SlL ei64 A7 c7 r2.1.L), .ro (SlL e_Field A3 c3 r1.2.Chassis.Fields), .ro (SlL e_Field A4 c4 r1.2.Board.Fields), .ro (SlL e_Field A5 c5 r1.2.Product.Fields), .ro (SlL eu8 A6 c6 r1.2.Multi)]) rfl ⟨(.tail _ (.tail _ (.tail _ (.tail _ (.tail _ (.tail _ (.head _))))))), (.tail _ (.tail _ (.tail _ (.tail _ (.head _))))), (.tail _ (.tail _ (.tail _ (.head _)))), (.tail _ (.tail _ (.head _))), (.tail _ (.head _)), trivial⟩ (w.front (.s (.s (.s (.s (.s (.s .z)))))))))
        · replace h := bif_f hb4 h
          refine St.seq ?_
          refine St.region ?_
          refine St.p rfl rfl ?_
          refine St.p rfl rfl ?_
          refine St.done ?_
          refine St.thenN ?_
          refine St.prune (Γ' := [(0, _), (2, _), (3, _), (8, _), (43, _)]) ⟨rfl, rfl, rfl, rfl, rfl, trivial⟩ (.k (.k (.k (.k (.k (.k (.k (.k .z)))))))) ?_
          refine St.cond _ rfl (fun hb5 => ?_) (fun hb5 => ?_)
          · replace h := bif_t hb5 h
            refine St.region ?_
            refine St.p rfl rfl ?_
            obtain ⟨r6, hr6, h⟩ := bnd_e h
            refine St.call (c_made_Dice_Next hr6) ent23 rfl rfl rfl (fun _ w => Sat.dup (G := [.ro (SlL ei64 A7 c7 r2.1.L)]) rfl ⟨(.tail _ (.head _)), trivial⟩ (w.front (.s .z))) ?_
            rintro _ _ ⟨A12, c12, rfl, rfl⟩
            refine St.asrt (F' := .ro (SlL ei64 A12 c12 r6.1.L) :: .res (Box gb1 62 [.slice A12 r6.1.L.length c12, .int .i64 r6.1.At]) :: .ro (SlL ei64 A7 c7 r2.1.L) :: .res (Box g2 28 [.bool r1.2.Chassis.Present, .int .u8 r1.2.Chassis.Code, .int .u32 r1.2.Chassis.Minutes, .slice A3 r1.2.Chassis.Fields.length c3, .bool r1.2.Board.Present, .int .u8 r1.2.Board.Code, .int .u32 r1.2.Board.Minutes, .slice A4 r1.2.Board.Fields.length c4, .bool r1.2.Product.Present, .int .u8 r1.2.Product.Code, .int .u32 r1.2.Product.Minutes, .slice A5 r1.2.Product.Fields.length c5, .slice A6 r1.2.Multi.length c6]) :: .res (OwnL e_Field 60 A3 c3 r1.2.Chassis.Fields) :: .res (OwnL e_Field 60 A4 c4 r1.2.Board.Fields) :: .res (OwnL e_Field 60 A5 c5 r1.2.Product.Fields) :: .res (OwnL eu8 5 A6 c6 r1.2.Multi) :: .res (Box g1 28 [.bool false, .int .u8 0, .int .u32 0, .slice none 0 0, .bool false, .int .u8 0, .int .u32 0, .slice none 0 0, .bool false, .int .u8 0, .int .u32 0, .slice none 0 0, .slice none 0 0]) :: R) (fun _ w => w) ?_
            refine St.p rfl rfl ?_
            obtain ⟨l2, hl2, h⟩ := bnd_e h
            refine St.mkL (E := eu8) 0 hl2 rfl rfl rfl rfl rfl rfl rfl rfl rfl rfl fun g4 => ?_
            refine St.p rfl rfl ?_
            refine St.store 12 rfl rfl rfl rfl rfl rfl (.s (.s (.s (.s .z)))) rfl ?_
            refine St.done ?_
            refine St.blkN ?_
            refine St.thenN ?_
            refine St.prune (Γ' := [(2, _), (3, _)]) ⟨rfl, rfl, trivial⟩ (.k (.k (.k (.k (.d (.k (.k (.k (.d (.k .z)))))))))) ?_
            refine St.seq ?_
            refine St.region ?_
            refine St.loadB 0 rfl rfl (.head _) rfl rfl ?_
            refine St.store 0 rfl rfl rfl rfl rfl rfl (.s (.s (.s (.s (.s (.s (.s .z))))))) rfl ?_
            refine St.done ?_
            refine St.thenN ?_
            refine St.prune (Γ' := [(2, _)]) ⟨rfl, trivial⟩ (.k (.d (.k (.k (.k (.k (.k (.k .z)))))))) ?_
            refine St.ret ?_
            repeat (first | refine St.thenR ?_ | refine St.blkR ?_)
            refine St.asrt (fun _ w => (w.front (.s (.s (.s (.s .z))))).meltL) ?_
            refine St.asrt (fun _ w => (w.front (.s (.s (.s (.s (.s .z)))))).meltL) ?_
            refine St.asrt (fun _ w => (w.front (.s (.s (.s (.s (.s (.s .z))))))).meltL) ?_
            refine St.asrt (fun _ w => (w.front (.s (.s (.s (.s .z))))).meltL) ?_
            injection h with h
            subst h
            exact St.finR Tryd.results13 (.cell rfl (.tail _ (.tail _ (.tail _ (.tail _ (.head _))))) rfl .nil) rfl [.ro (SlL ei64 A12 c12 r6.1.L), .ro (SlL e_Field A3 c3 r1.2.Chassis.Fields), .ro (SlL e_Field A4 c4 r1.2.Board.Fields), .ro (SlL e_Field A5 c5 r1.2.Product.Fields), .ro (SlL eu8 (some ⟨g4, 0, none⟩) (Int.toNat (IntKind.wrap .i64 (2000 + r6.2))) l2), .res (Box gb1 62 [.slice A12 r6.1.L.length c12, .int .i64 r6.1.At])] ⟨A12, c12, A3, c3, A4, c4, A5, c5, (some ⟨g4, 0, none⟩), (Int.toNat (IntKind.wrap .i64 (2000 + r6.2))), rfl, rfl⟩ (fun _ w => ((.k (.k (.k (.k (.k (.k (.d (.d (.d (.d (.d (.d .z)))))))))))) : Keep _ _).sat (Sat.dup (G := [.ro (SlL ei64 A12 c12 r6.1.L), .ro (SlL e_Field A3 c3 r1.2.Chassis.Fields), .ro (SlL e_Field A4 c4 r1.2.Board.Fields), .ro (SlL e_Field A5 c5 r1.2.Product.Fields), .ro (SlL eu8 (some ⟨g4, 0, none⟩) (Int.toNat (IntKind.wrap .i64 (2000 + r6.2))) l2)]) rfl ⟨(.tail _ (.tail _ (.tail _ (.tail _ (.tail _ (.tail _ (.head _))))))), (.tail _ (.tail _ (.tail _ (.tail _ (.head _))))), (.tail _ (.tail _ (.tail _ (.head _)))), (.tail _ (.tail _ (.head _))), (.tail _ (.head _)), trivial⟩ (w.front (.s (.s (.s (.s (.s (.s .z)))))))))
          · replace h := bif_f hb5 h
            refine St.seq ?_
            refine St.region ?_
            refine St.p rfl rfl ?_
            refine St.p rfl rfl ?_
            refine St.done ?_
            refine St.thenN ?_
            refine St.prune (Γ' := [(0, _), (2, _), (3, _), (8, _), (50, _)]) ⟨rfl, rfl, rfl, rfl, rfl, trivial⟩ (.k (.k (.k (.k (.k (.k (.k (.k .z)))))))) ?_
            refine St.cond _ rfl (fun hb6 => ?_) (fun hb6 => ?_)
            · replace h := bif_t hb6 h
              refine St.region ?_
              refine St.p rfl rfl ?_
              refine St.p rfl rfl ?_
              refine St.store 11 rfl rfl rfl rfl rfl rfl (.s (.s .z)) rfl ?_
              refine St.done ?_
              refine St.blkN ?_
              refine St.thenN ?_
              refine St.prune (Γ' := [(2, _), (3, _)]) ⟨rfl, rfl, trivial⟩ (.k (.k (.k (.k (.k (.d (.k (.k .z)))))))) ?_
              refine St.seq ?_
              refine St.region ?_
              refine St.loadB 0 rfl rfl (.head _) rfl rfl ?_
              refine St.store 0 rfl rfl rfl rfl rfl rfl (.s (.s (.s (.s (.s (.s .z)))))) rfl ?_
              refine St.done ?_
              refine St.thenN ?_
              refine St.prune (Γ' := [(2, _)]) ⟨rfl, trivial⟩ (.k (.d (.k (.k (.k (.k (.k .z))))))) ?_
              refine St.ret ?_
              repeat (first | refine St.thenR ?_ | refine St.blkR ?_)
              refine St.asrt (fun _ w => (w.front (.s (.s (.s .z)))).meltL) ?_
              refine St.asrt (fun _ w => (w.front (.s (.s (.s (.s .z))))).meltL) ?_
              refine St.asrt (fun _ w => w.nilSl (cod e_Field)) ?_
              refine St.asrt (fun _ w => (w.front (.s (.s (.s (.s (.s (.s .z))))))).meltL) ?_
              injection h with h
              subst h
              exact St.finR Tryd.results13 (.cell rfl (.tail _ (.tail _ (.tail _ (.tail _ (.head _))))) rfl .nil) rfl [.ro (SlL ei64 A7 c7 r2.1.L), .ro (SlL e_Field A3 c3 r1.2.Chassis.Fields), .ro (SlL e_Field A4 c4 r1.2.Board.Fields), .ro (SlL e_Field none 0 ([] : List T_Field)), .ro (SlL eu8 A6 c6 r1.2.Multi), .res (Box gb1 62 [.slice A7 r2.1.L.length c7, .int .i64 r2.1.At])] ⟨A7, c7, A3, c3, A4, c4, none, 0, A6, c6, rfl, rfl⟩ (fun _ w => ((.k (.k (.k (.k (.k (.k (.d (.d (.d (.d (.d (.d .z)))))))))))) : Keep _ _).sat (Sat.dup (G := [.ro (SlL ei64 A7 c7 r2.1.L), .ro (SlL e_Field A3 c3 r1.2.Chassis.Fields), .ro (SlL e_Field A4 c4 r1.2.Board.Fields), .ro (SlL e_Field none 0 ([] : List T_Field)), .ro (SlL eu8 A6 c6 r1.2.Multi)]) rfl ⟨(.tail _ (.tail _ (.tail _ (.tail _ (.tail _ (.tail _ (.head _))))))), (.tail _ (.tail _ (.tail _ (.tail _ (.head _))))), (.tail _ (.tail _ (.tail _ (.head _)))), (.tail _ (.tail _ (.head _))), (.tail _ (.head _)), trivial⟩ (w.front (.s (.s (.s (.s (.s (.s .z)))))))))
            · replace h := bif_f hb6 h
              refine St.seq ?_
              refine St.region ?_
              refine St.p rfl rfl ?_
              refine St.p rfl rfl ?_
              refine St.done ?_
              refine St.thenN ?_
              refine St.prune (Γ' := [(0, _), (2, _), (3, _), (54, _)]) ⟨rfl, rfl, rfl, rfl, trivial⟩ (.k (.k (.k (.k (.k (.k (.k (.k .z)))))))) ?_
              refine St.cond _ rfl (fun hb7 => ?_) (fun hb7 => ?_)
              · replace h := bif_t hb7 h
                refine St.seq ?_
                refine St.seq ?_
                refine St.region ?_
                refine St.p rfl rfl ?_
                refine St.done ?_
                refine St.thenN ?_
                refine St.prune (Γ' := [(0, _), (2, _), (3, _), (4, _)]) ⟨rfl, rfl, rfl, rfl, trivial⟩ (.k (.k (.k (.k (.k (.k (.k (.k .z)))))))) ?_
                obtain ⟨o1, hl1, h⟩ := bnd_e h
                refine St.cutE (fun (e2 : Option Addr × Nat) => [(0, .pointer (some ⟨gb1, 0, none⟩)), (2, .pointer (some ⟨g1, 0, none⟩)), (3, .pointer (some ⟨g2, 0, none⟩))]) (fun e2 => .res (OwnL e_Field 60 e2.1 e2.2 o1) :: .ro (SlL ei64 A7 c7 r2.1.L) :: .res (Box gb1 62 [.slice A7 r2.1.L.length c7, .int .i64 r2.1.At]) :: .res (Box g2 28 [.bool r1.2.Chassis.Present, .int .u8 r1.2.Chassis.Code, .int .u32 r1.2.Chassis.Minutes, .slice A3 r1.2.Chassis.Fields.length c3, .bool r1.2.Board.Present, .int .u8 r1.2.Board.Code, .int .u32 r1.2.Board.Minutes, .slice A4 r1.2.Board.Fields.length c4, .bool r1.2.Product.Present, .int .u8 r1.2.Product.Code, .int .u32 r1.2.Product.Minutes, .slice e2.1 o1.length e2.2, .slice A6 r1.2.Multi.length c6]) :: .res (OwnL e_Field 60 A3 c3 r1.2.Chassis.Fields) :: .res (OwnL e_Field 60 A4 c4 r1.2.Board.Fields) :: .res (OwnL eu8 5 A6 c6 r1.2.Multi) :: .res (Box g1 28 [.bool false, .int .u8 0, .int .u32 0, .slice none 0 0, .bool false, .int .u8 0, .int .u32 0, .slice none 0 0, .bool false, .int .u8 0, .int .u32 0, .slice none 0 0, .slice none 0 0]) :: R) ?_ ?_
                · refine St.block ?_
                  refine St.loop hl1 (fun (s1 : Int × List T_Field) (e1 : Option Addr × Nat) => [(0, .pointer (some ⟨gb1, 0, none⟩)), (2, .pointer (some ⟨g1, 0, none⟩)), (3, .pointer (some ⟨g2, 0, none⟩)), (4, .int .i64 s1.1)]) (fun s1 e1 => .res (OwnL e_Field 60 e1.1 e1.2 s1.2) :: .ro (SlL ei64 A7 c7 r2.1.L) :: .res (Box gb1 62 [.slice A7 r2.1.L.length c7, .int .i64 r2.1.At]) :: .res (Box g2 28 [.bool r1.2.Chassis.Present, .int .u8 r1.2.Chassis.Code, .int .u32 r1.2.Chassis.Minutes, .slice A3 r1.2.Chassis.Fields.length c3, .bool r1.2.Board.Present, .int .u8 r1.2.Board.Code, .int .u32 r1.2.Board.Minutes, .slice A4 r1.2.Board.Fields.length c4, .bool r1.2.Product.Present, .int .u8 r1.2.Product.Code, .int .u32 r1.2.Product.Minutes, .slice e1.1 s1.2.length e1.2, .slice A6 r1.2.Multi.length c6]) :: .res (OwnL e_Field 60 A3 c3 r1.2.Chassis.Fields) :: .res (OwnL e_Field 60 A4 c4 r1.2.Board.Fields) :: .res (OwnL eu8 5 A6 c6 r1.2.Multi) :: .res (Box g1 28 [.bool false, .int .u8 0, .int .u32 0, .slice none 0 0, .bool false, .int .u8 0, .int .u32 0, .slice none 0 0, .bool false, .int .u8 0, .int .u32 0, .slice none 0 0, .slice none 0 0]) :: R) (fun _ _ => True) (A5, c5) trivial ⟨rfl, rfl, rfl, rfl, trivial⟩ (fun _ w => ((.k (.k (.k (.k (.k (.k (.k (.k .z)))))))) : Keep _ _).sat ((((((((w.front (.s (.s (.s (.s (.s (.s (.s .z)))))))).front (.s (.s (.s (.s (.s (.s (.s .z)))))))).front (.s (.s (.s (.s (.s (.s .z))))))).front (.s (.s (.s (.s (.s (.s .z))))))).front (.s (.s (.s (.s (.s (.s .z))))))).front (.s (.s (.s (.s (.s (.s .z))))))).front (.s (.s (.s (.s (.s (.s .z))))))).front (.s (.s (.s (.s (.s (.s (.s .z))))))))) ?_
                  rintro s1 ⟨A13, c13⟩ - hit1
                  obtain ⟨st1, hm1, hd1⟩ := iter_e hit1
                  have h1 := hm1
                  refine St.seq ?_
                  refine St.seq ?_
                  refine St.region ?_
                  refine St.p rfl rfl ?_
                  refine St.p rfl rfl ?_
                  refine St.done ?_
                  refine St.thenN ?_
                  refine St.prune (Γ' := [(0, _), (2, _), (3, _), (4, _), (57, _)]) ⟨rfl, rfl, rfl, rfl, rfl, trivial⟩ (.k (.k (.k (.k (.k (.k (.k (.k .z)))))))) ?_
                  refine St.cond _ rfl (fun hb8 => ?_) (fun hb8 => ?_)
                  · replace h1 := bif_t hb8 h1
                    refine St.skip ?_
                    refine St.thenN ?_
                    refine St.prune (Γ' := [(0, _), (2, _), (3, _), (4, _)]) ⟨rfl, rfl, rfl, rfl, trivial⟩ (.k (.k (.k (.k (.k (.k (.k (.k .z)))))))) ?_
                    refine St.seq ?_
                    refine St.block ?_
                    obtain ⟨l3, hl3, h1⟩ := bnd_e h1
                    obtain ⟨l4, hl4, h1⟩ := bnd_e h1
                    refine St.regionX (iL [(.fl, 0), (.fl, 1)] (.alt (iL [(.ef, 2)] (iL [(.ef, 3)] (iL [(.ef, 4), (.fl, 5)] (iL [(.ef, 6)] (iL [(.ef, 7), (.fl, 8), (.fl, 9)] (iL [(.ef, 10)] .nil)))))) (iL [(.ef, 3)] (.alt (iL [(.ef, 2)] (iL [(.ef, 4), (.fl, 5)] (iL [(.ef, 6)] (iL [(.ef, 7), (.fl, 8), (.fl, 9)] (iL [(.ef, 10)] .nil))))) (iL [(.ef, 4), (.fl, 5)] (.alt (iL [(.ef, 2)] (iL [(.ef, 6)] (iL [(.ef, 7), (.fl, 8), (.fl, 9)] (iL [(.ef, 10)] .nil)))) (iL [(.ef, 6)] (iL [(.ef, 2)] (iL [(.ef, 7), (.fl, 8), (.fl, 9)] (iL [(.ef, 10)] .nil)))))))))) (.ro (SlL ei64 A7 c7 r2.1.L) :: .res (Box gb1 62 [.slice A7 r2.1.L.length c7, .int .i64 r2.1.At]) :: .res (OwnL e_Field 60 A3 c3 r1.2.Chassis.Fields) :: .res (OwnL e_Field 60 A4 c4 r1.2.Board.Fields) :: .res (OwnL eu8 5 A6 c6 r1.2.Multi) :: .res (Box g1 28 [.bool false, .int .u8 0, .int .u32 0, .slice none 0 0, .bool false, .int .u8 0, .int .u32 0, .slice none 0 0, .bool false, .int .u8 0, .int .u32 0, .slice none 0 0, .slice none 0 0]) :: R) mixed (by kernel_rfl) (fun _ w => ((.d (.k (.k (.d (.k (.k (.k (.k .z)))))))) : Keep _ _).sat w) ?_
                    refine St.share (Y := ?Ynd2_0) (fun (e : Nat × Nat) => [(0, .pointer (some ⟨gb1, 0, none⟩)), (2, .pointer (some ⟨g1, 0, none⟩)), (3, .pointer (some ⟨g2, 0, none⟩)), (4, .int .i64 s1.1), (60, .pointer (some ⟨g2, 8, none⟩)), (61, .pointer (some ⟨g2, 11, none⟩)), (62, .slice A13 s1.2.length c13), (63, .slice (some ⟨e.1, 0, none⟩) l3.length (Int.toNat 63)), (64, .string (strOf l3)), (65, .agg #[.int .i64 0, .string (strOf l3)]), (66, .slice (some ⟨e.2, 0, none⟩) 1 1)]) (fun e => .res (Box e.2 60 [.int .i64 0, .string (strOf l3)]) :: .ro (SlL eu8 (some ⟨e.1, 0, none⟩) (Int.toNat 63) l3) :: .res (OwnL e_Field 60 A13 c13 s1.2) :: .ro (SlL ei64 A7 c7 r2.1.L) :: .res (Box gb1 62 [.slice A7 r2.1.L.length c7, .int .i64 r2.1.At]) :: .res (Box g2 28 [.bool r1.2.Chassis.Present, .int .u8 r1.2.Chassis.Code, .int .u32 r1.2.Chassis.Minutes, .slice A3 r1.2.Chassis.Fields.length c3, .bool r1.2.Board.Present, .int .u8 r1.2.Board.Code, .int .u32 r1.2.Board.Minutes, .slice A4 r1.2.Board.Fields.length c4, .bool r1.2.Product.Present, .int .u8 r1.2.Product.Code, .int .u32 r1.2.Product.Minutes, .slice A13 s1.2.length c13, .slice A6 r1.2.Multi.length c6]) :: .res (OwnL e_Field 60 A3 c3 r1.2.Chassis.Fields) :: .res (OwnL e_Field 60 A4 c4 r1.2.Board.Fields) :: .res (OwnL eu8 5 A6 c6 r1.2.Multi) :: .res (Box g1 28 [.bool false, .int .u8 0, .int .u32 0, .slice none 0 0, .bool false, .int .u8 0, .int .u32 0, .slice none 0 0, .bool false, .int .u8 0, .int .u32 0, .slice none 0 0, .slice none 0 0]) :: R) (fun hnd2_0 => ?mnd2_0) ?tnd2_0
                    case mnd2_0 =>
                      refine St.share (Y := ?Ynd2_1) (fun (e : Nat) => [(0, .pointer (some ⟨gb1, 0, none⟩)), (2, .pointer (some ⟨g1, 0, none⟩)), (3, .pointer (some ⟨g2, 0, none⟩)), (4, .int .i64 s1.1), (60, .pointer (some ⟨g2, 8, none⟩)), (61, .pointer (some ⟨g2, 11, none⟩)), (62, .slice A13 s1.2.length c13), (63, .slice (some ⟨e, 0, none⟩) l3.length (Int.toNat 63)), (64, .string (strOf l3)), (65, .agg #[.int .i64 0, .string (strOf l3)])]) (fun e => .ro (SlL eu8 (some ⟨e, 0, none⟩) (Int.toNat 63) l3) :: .res (OwnL e_Field 60 A13 c13 s1.2) :: .ro (SlL ei64 A7 c7 r2.1.L) :: .res (Box gb1 62 [.slice A7 r2.1.L.length c7, .int .i64 r2.1.At]) :: .res (Box g2 28 [.bool r1.2.Chassis.Present, .int .u8 r1.2.Chassis.Code, .int .u32 r1.2.Chassis.Minutes, .slice A3 r1.2.Chassis.Fields.length c3, .bool r1.2.Board.Present, .int .u8 r1.2.Board.Code, .int .u32 r1.2.Board.Minutes, .slice A4 r1.2.Board.Fields.length c4, .bool r1.2.Product.Present, .int .u8 r1.2.Product.Code, .int .u32 r1.2.Product.Minutes, .slice A13 s1.2.length c13, .slice A6 r1.2.Multi.length c6]) :: .res (OwnL e_Field 60 A3 c3 r1.2.Chassis.Fields) :: .res (OwnL e_Field 60 A4 c4 r1.2.Board.Fields) :: .res (OwnL eu8 5 A6 c6 r1.2.Multi) :: .res (Box g1 28 [.bool false, .int .u8 0, .int .u32 0, .slice none 0 0, .bool false, .int .u8 0, .int .u32 0, .slice none 0 0, .bool false, .int .u8 0, .int .u32 0, .slice none 0 0, .slice none 0 0]) :: R) (fun hnd2_1 => ?mnd2_1) ?tnd2_1
                      case mnd2_1 =>
                        refine St.share (Y := ?Ynd2_2) (fun (e : Nat) => [(0, .pointer (some ⟨gb1, 0, none⟩)), (2, .pointer (some ⟨g1, 0, none⟩)), (3, .pointer (some ⟨g2, 0, none⟩)), (4, .int .i64 s1.1), (60, .pointer (some ⟨g2, 8, none⟩)), (61, .pointer (some ⟨g2, 11, none⟩)), (62, .slice A13 s1.2.length c13), (63, .slice (some ⟨e, 0, none⟩) l3.length (Int.toNat 63))]) (fun e => .res (OwnL eu8 5 (some ⟨e, 0, none⟩) (Int.toNat 63) l3) :: .res (OwnL e_Field 60 A13 c13 s1.2) :: .ro (SlL ei64 A7 c7 r2.1.L) :: .res (Box gb1 62 [.slice A7 r2.1.L.length c7, .int .i64 r2.1.At]) :: .res (Box g2 28 [.bool r1.2.Chassis.Present, .int .u8 r1.2.Chassis.Code, .int .u32 r1.2.Chassis.Minutes, .slice A3 r1.2.Chassis.Fields.length c3, .bool r1.2.Board.Present, .int .u8 r1.2.Board.Code, .int .u32 r1.2.Board.Minutes, .slice A4 r1.2.Board.Fields.length c4, .bool r1.2.Product.Present, .int .u8 r1.2.Product.Code, .int .u32 r1.2.Product.Minutes, .slice A13 s1.2.length c13, .slice A6 r1.2.Multi.length c6]) :: .res (OwnL e_Field 60 A3 c3 r1.2.Chassis.Fields) :: .res (OwnL e_Field 60 A4 c4 r1.2.Board.Fields) :: .res (OwnL eu8 5 A6 c6 r1.2.Multi) :: .res (Box g1 28 [.bool false, .int .u8 0, .int .u32 0, .slice none 0 0, .bool false, .int .u8 0, .int .u32 0, .slice none 0 0, .bool false, .int .u8 0, .int .u32 0, .slice none 0 0, .slice none 0 0]) :: R) (fun hnd2_2 => ?mnd2_2) ?tnd2_2
                        case mnd2_2 =>
                          refine St.xfl (fun _ h => h) (Rd.p rfl) rfl ?_
                          refine St.xfl (fun _ h => h) (Rd.p rfl) rfl ?_
                          refine St.xalt ?_ ?_
                          · refine St.xef ?_
                            refine St.loadB 11 rfl rfl (.tail _ (.tail _ (.tail _ (.head _)))) rfl rfl ?_
                            refine St.xk (fun _ w => ((.d (.k (.k (.d (.k (.k (.k (.k .z)))))))) : Keep _ _).sat w) ?_
                            refine St.xef ?_
                            refine St.mkL (E := eu8) 0 hl3 rfl rfl rfl rfl rfl rfl rfl rfl rfl rfl fun g5 => ?_
                            refine St.xk (fun _ w => ((.d (.d (.k (.k (.d (.k (.k (.k (.k .z))))))))) : Keep _ _).sat w) ?_
                            refine hnd2_2 _ _ g5 ?_ ?_
                            · exact ⟨rfl, rfl, rfl, rfl, rfl, rfl, rfl, rfl, trivial⟩
                            · exact fun _ w => ((.k (.k (.k (.k (.k (.k (.k (.k (.k .z))))))))) : Keep _ _).sat w
                          · refine St.xef ?_
                            refine St.mkL (E := eu8) 0 hl3 rfl rfl rfl rfl rfl rfl rfl rfl rfl rfl fun g5 => ?_
                            refine St.xk (fun _ w => ((.d (.d (.k (.k (.d (.k (.k (.k (.k .z))))))))) : Keep _ _).sat w) ?_
                            refine St.xalt ?_ ?_
                            · refine St.xef ?_
                              refine St.loadB 11 rfl rfl (.tail _ (.tail _ (.tail _ (.tail _ (.head _))))) rfl rfl ?_
                              refine St.xk (fun _ w => ((.d (.d (.k (.k (.d (.k (.k (.k (.k .z))))))))) : Keep _ _).sat w) ?_
                              refine hnd2_2 _ _ g5 ?_ ?_
                              · exact ⟨rfl, rfl, rfl, rfl, rfl, rfl, rfl, rfl, trivial⟩
                              · exact fun _ w => ((.k (.k (.k (.k (.k (.k (.k (.k (.k .z))))))))) : Keep _ _).sat w
                            · refine St.xef ?_
                              refine St.asrt (fun _ w => (w.front .z).meltL) ?_
                              refine St.b2s rfl rfl rfl rfl rfl rfl rfl rfl rfl (srcL (E := eu8) (.head _)) ?_
                              refine St.xk (fun _ w => ((.d (.d (.k (.k (.d (.k (.k (.k (.k .z))))))))) : Keep _ _).sat w) ?_
                              refine St.xfl (fun _ h => h) (Rd.p rfl) rfl ?_
                              refine St.xalt ?_ ?_
                              · refine St.xef ?_
                                refine St.loadB 11 rfl rfl (.tail _ (.tail _ (.tail _ (.tail _ (.head _))))) rfl rfl ?_
                                refine St.xk (fun _ w => ((.d (.d (.k (.k (.d (.k (.k (.k (.k .z))))))))) : Keep _ _).sat w) ?_
                                refine hnd2_1 _ _ g5 ?_ ?_
                                · exact ⟨rfl, rfl, rfl, rfl, rfl, rfl, rfl, rfl, rfl, rfl, trivial⟩
                                · exact fun _ w => ((.k (.k (.k (.k (.k (.k (.k (.k (.k .z))))))))) : Keep _ _).sat w
                              · refine St.xef ?_
                                refine St.buildSlice rfl rfl rfl rfl rfl rfl rfl rfl fun g6 => ?_
                                refine St.xk (fun _ w => ((.d (.d (.d (.k (.k (.d (.k (.k (.k (.k .z)))))))))) : Keep _ _).sat w) ?_
                                refine St.xef ?_
                                refine St.loadB 11 rfl rfl (.tail _ (.tail _ (.tail _ (.tail _ (.tail _ (.head _)))))) rfl rfl ?_
                                refine St.xk (fun _ w => ((.d (.d (.d (.k (.k (.d (.k (.k (.k (.k .z)))))))))) : Keep _ _).sat w) ?_
                                refine hnd2_0 _ _ (g5, g6) ?_ ?_
                                · exact ⟨rfl, rfl, rfl, rfl, rfl, rfl, rfl, rfl, rfl, rfl, rfl, trivial⟩
                                · exact fun _ w => ((.k (.k (.k (.k (.k (.k (.k (.k (.k (.k .z)))))))))) : Keep _ _).sat w
                        case tnd2_2 =>
                          rintro g5
                          refine St.asrt (F' := .res (OwnL eu8 5 (some ⟨g5, 0, none⟩) (Int.toNat 63) l3) :: .res (OwnL e_Field 60 A13 c13 s1.2) :: .ro (SlL ei64 A7 c7 r2.1.L) :: .res (Box gb1 62 [.slice A7 r2.1.L.length c7, .int .i64 r2.1.At]) :: .res (Box g2 28 [.bool r1.2.Chassis.Present, .int .u8 r1.2.Chassis.Code, .int .u32 r1.2.Chassis.Minutes, .slice A3 r1.2.Chassis.Fields.length c3, .bool r1.2.Board.Present, .int .u8 r1.2.Board.Code, .int .u32 r1.2.Board.Minutes, .slice A4 r1.2.Board.Fields.length c4, .bool r1.2.Product.Present, .int .u8 r1.2.Product.Code, .int .u32 r1.2.Product.Minutes, .slice A13 s1.2.length c13, .slice A6 r1.2.Multi.length c6]) :: .res (OwnL e_Field 60 A3 c3 r1.2.Chassis.Fields) :: .res (OwnL e_Field 60 A4 c4 r1.2.Board.Fields) :: .res (OwnL eu8 5 A6 c6 r1.2.Multi) :: .res (Box g1 28 [.bool false, .int .u8 0, .int .u32 0, .slice none 0 0, .bool false, .int .u8 0, .int .u32 0, .slice none 0 0, .bool false, .int .u8 0, .int .u32 0, .slice none 0 0, .slice none 0 0]) :: R) (fun _ w => w) ?_
                          refine St.xef ?_
                          refine St.asrt (fun _ w => (w.front .z).meltL) ?_
                          refine St.b2s rfl rfl rfl rfl rfl rfl rfl rfl rfl (srcL (E := eu8) (.head _)) ?_
                          refine St.xk (fun _ w => ((.d (.d (.k (.k (.d (.k (.k (.k (.k .z))))))))) : Keep _ _).sat w) ?_
                          refine St.xfl (fun _ h => h) (Rd.p rfl) rfl ?_
                          refine hnd2_1 _ _ g5 ?_ ?_
                          · exact ⟨rfl, rfl, rfl, rfl, rfl, rfl, rfl, rfl, rfl, rfl, trivial⟩
                          · exact fun _ w => ((.k (.k (.k (.k (.k (.k (.k (.k (.k .z))))))))) : Keep _ _).sat w
                      case tnd2_1 =>
                        rintro g5
                        refine St.asrt (F' := .ro (SlL eu8 (some ⟨g5, 0, none⟩) (Int.toNat 63) l3) :: .res (OwnL e_Field 60 A13 c13 s1.2) :: .ro (SlL ei64 A7 c7 r2.1.L) :: .res (Box gb1 62 [.slice A7 r2.1.L.length c7, .int .i64 r2.1.At]) :: .res (Box g2 28 [.bool r1.2.Chassis.Present, .int .u8 r1.2.Chassis.Code, .int .u32 r1.2.Chassis.Minutes, .slice A3 r1.2.Chassis.Fields.length c3, .bool r1.2.Board.Present, .int .u8 r1.2.Board.Code, .int .u32 r1.2.Board.Minutes, .slice A4 r1.2.Board.Fields.length c4, .bool r1.2.Product.Present, .int .u8 r1.2.Product.Code, .int .u32 r1.2.Product.Minutes, .slice A13 s1.2.length c13, .slice A6 r1.2.Multi.length c6]) :: .res (OwnL e_Field 60 A3 c3 r1.2.Chassis.Fields) :: .res (OwnL e_Field 60 A4 c4 r1.2.Board.Fields) :: .res (OwnL eu8 5 A6 c6 r1.2.Multi) :: .res (Box g1 28 [.bool false, .int .u8 0, .int .u32 0, .slice none 0 0, .bool false, .int .u8 0, .int .u32 0, .slice none 0 0, .bool false, .int .u8 0, .int .u32 0, .slice none 0 0, .slice none 0 0]) :: R) (fun _ w => w) ?_
                        refine St.xef ?_
                        refine St.buildSlice rfl rfl rfl rfl rfl rfl rfl rfl fun g6 => ?_
                        refine St.xk (fun _ w => ((.d (.d (.d (.k (.k (.d (.k (.k (.k (.k .z)))))))))) : Keep _ _).sat w) ?_
                        refine hnd2_0 _ _ (g5, g6) ?_ ?_
                        · exact ⟨rfl, rfl, rfl, rfl, rfl, rfl, rfl, rfl, rfl, rfl, rfl, trivial⟩
                        · exact fun _ w => ((.k (.k (.k (.k (.k (.k (.k (.k (.k (.k .z)))))))))) : Keep _ _).sat w
                    case tnd2_0 =>
                      rintro ⟨g5, g6⟩
                      refine St.asrt (F' := .res (Box g6 60 [.int .i64 0, .string (strOf l3)]) :: .ro (SlL eu8 (some ⟨g5, 0, none⟩) (Int.toNat 63) l3) :: .res (OwnL e_Field 60 A13 c13 s1.2) :: .ro (SlL ei64 A7 c7 r2.1.L) :: .res (Box gb1 62 [.slice A7 r2.1.L.length c7, .int .i64 r2.1.At]) :: .res (Box g2 28 [.bool r1.2.Chassis.Present, .int .u8 r1.2.Chassis.Code, .int .u32 r1.2.Chassis.Minutes, .slice A3 r1.2.Chassis.Fields.length c3, .bool r1.2.Board.Present, .int .u8 r1.2.Board.Code, .int .u32 r1.2.Board.Minutes, .slice A4 r1.2.Board.Fields.length c4, .bool r1.2.Product.Present, .int .u8 r1.2.Product.Code, .int .u32 r1.2.Product.Minutes, .slice A13 s1.2.length c13, .slice A6 r1.2.Multi.length c6]) :: .res (OwnL e_Field 60 A3 c3 r1.2.Chassis.Fields) :: .res (OwnL e_Field 60 A4 c4 r1.2.Board.Fields) :: .res (OwnL eu8 5 A6 c6 r1.2.Multi) :: .res (Box g1 28 [.bool false, .int .u8 0, .int .u32 0, .slice none 0 0, .bool false, .int .u8 0, .int .u32 0, .slice none 0 0, .bool false, .int .u8 0, .int .u32 0, .slice none 0 0, .slice none 0 0]) :: R) (fun _ w => w) ?_
                      refine St.xef ?_
                      refine St.app (E := e_Field) hl4 rfl rfl rfl (.s (.s .z)) rfl rfl rfl rfl rfl rfl rfl rfl (srcB (.head _) rfl rfl) rfl rfl fun A15 c15 => ?_
                      refine St.xk (fun _ w => ((.d (.d (.d (.k (.k (.d (.k (.k (.k (.k .z)))))))))) : Keep _ _).sat w) ?_
                      refine St.xfl (fun _ h => h) (Rd.p rfl) rfl ?_
                      refine St.xfl (fun _ h => h) (Rd.p rfl) rfl ?_
                      refine St.xef ?_
                      refine St.store 11 rfl rfl rfl rfl rfl rfl (.s (.s (.s (.s (.s .z))))) rfl ?_
                      refine St.xk (fun _ w => ((.d (.d (.d (.d (.k (.k (.k (.k (.k (.k .z)))))))))) : Keep _ _).sat w) ?_
                      refine St.xdone ?_
                      refine St.blkN ?_
                      refine St.thenN ?_
                      refine St.prune (Γ' := [(0, _), (2, _), (3, _), (4, _)]) ⟨rfl, rfl, rfl, rfl, trivial⟩ (.k (.k (.d (.d (.k (.k (.k (.k (.k (.k .z)))))))))) ?_
                      refine St.region ?_
                      iterate 3 refine St.p rfl rfl ?_
                      refine St.done ?_
                      injection h1 with h1
                      subst h1
                      refine St.thenN ?_
                      exact St.again _ (A15, c15) hm1 trivial ⟨rfl, rfl, rfl, rfl, trivial⟩ (fun _ w => ((.k (.k (.k (.k (.k (.k (.k (.k .z)))))))) : Keep _ _).sat ((((((((w.front (.s (.s (.s (.s (.s (.s (.s .z)))))))).front (.s (.s (.s (.s (.s (.s (.s .z)))))))).front (.s (.s (.s (.s (.s (.s (.s .z)))))))).front (.s (.s (.s (.s (.s (.s (.s .z)))))))).front (.s (.s (.s (.s .z))))).front (.s (.s (.s (.s (.s (.s (.s .z)))))))).front (.s (.s (.s (.s (.s (.s (.s .z)))))))).front (.s (.s (.s (.s (.s (.s (.s .z)))))))))
                  · replace h1 := bif_f hb8 h1
                    refine St.exit ?_
                    repeat (first | refine St.thenX ?_ | refine St.blkMiss rfl ?_)
                    refine St.blkHit ?_
                    injection h1 with h1
                    subst h1
                    have ho := hd1 _ rfl
                    subst ho
                    refine St.thenN ?_
                    exact St.hereE (A13, c13) ⟨rfl, rfl, rfl, trivial⟩ (fun _ w => ((.k (.k (.k (.k (.k (.k (.k (.k .z)))))))) : Keep _ _).sat w)
                · rintro ⟨A14, c14⟩
                  refine St.seq ?_
                  obtain ⟨r7, hr7, h⟩ := bnd_e h
                  obtain ⟨l5, hl5, h⟩ := bnd_e h
                  refine St.regionX (iL [(.fl, 0), (.fl, 1), (.fl, 3)] (.alt (iL [(.ef, 2)] (iL [(.ef, 4), (.fl, 5)] (iL [(.ef, 6), (.fl, 7), (.fl, 8)] (iL [(.ef, 9)] .nil)))) (iL [(.ef, 4), (.fl, 5)] (iL [(.ef, 2)] (iL [(.ef, 6), (.fl, 7), (.fl, 8)] (iL [(.ef, 9)] .nil)))))) (.ro (SlL ei64 A7 c7 r2.1.L) :: .res (OwnL e_Field 60 A3 c3 r1.2.Chassis.Fields) :: .res (OwnL e_Field 60 A4 c4 r1.2.Board.Fields) :: .res (OwnL eu8 5 A6 c6 r1.2.Multi) :: .res (Box g1 28 [.bool false, .int .u8 0, .int .u32 0, .slice none 0 0, .bool false, .int .u8 0, .int .u32 0, .slice none 0 0, .bool false, .int .u8 0, .int .u32 0, .slice none 0 0, .slice none 0 0]) :: R) mixed (by kernel_rfl) (fun _ w => ((.d (.k (.d (.d (.k (.k (.k (.k .z)))))))) : Keep _ _).sat w) ?_
                  refine St.share (Y := ?Ynd3_0) (fun (e : Option Addr × Nat) => [(0, .pointer (some ⟨gb1, 0, none⟩)), (2, .pointer (some ⟨g1, 0, none⟩)), (3, .pointer (some ⟨g2, 0, none⟩)), (70, .pointer (some ⟨g2, 8, none⟩)), (71, .pointer (some ⟨g2, 11, none⟩)), (72, .slice A14 o1.length c14), (73, .pointer (some ⟨gb1, 0, none⟩)), (74, .int .i64 r7.2), (75, .int .i64 (IntKind.wrap .i64 (16 + r7.2)))]) (fun e => .ro (SlL ei64 e.1 e.2 r7.1.L) :: .res (Box gb1 62 [.slice e.1 r7.1.L.length e.2, .int .i64 r7.1.At]) :: .res (OwnL e_Field 60 A14 c14 o1) :: .ro (SlL ei64 A7 c7 r2.1.L) :: .res (Box g2 28 [.bool r1.2.Chassis.Present, .int .u8 r1.2.Chassis.Code, .int .u32 r1.2.Chassis.Minutes, .slice A3 r1.2.Chassis.Fields.length c3, .bool r1.2.Board.Present, .int .u8 r1.2.Board.Code, .int .u32 r1.2.Board.Minutes, .slice A4 r1.2.Board.Fields.length c4, .bool r1.2.Product.Present, .int .u8 r1.2.Product.Code, .int .u32 r1.2.Product.Minutes, .slice A14 o1.length c14, .slice A6 r1.2.Multi.length c6]) :: .res (OwnL e_Field 60 A3 c3 r1.2.Chassis.Fields) :: .res (OwnL e_Field 60 A4 c4 r1.2.Board.Fields) :: .res (OwnL eu8 5 A6 c6 r1.2.Multi) :: .res (Box g1 28 [.bool false, .int .u8 0, .int .u32 0, .slice none 0 0, .bool false, .int .u8 0, .int .u32 0, .slice none 0 0, .bool false, .int .u8 0, .int .u32 0, .slice none 0 0, .slice none 0 0]) :: R) (fun hnd3_0 => ?mnd3_0) ?tnd3_0
                  case mnd3_0 =>
                    refine St.xfl (fun _ h => h) (Rd.p rfl) rfl ?_
                    refine St.xfl (fun _ h => h) (Rd.p rfl) rfl ?_
                    refine St.xfl (fun _ h => h) (Rd.p rfl) rfl ?_
                    refine St.xalt ?_ ?_
                    · refine St.xef ?_
                      refine St.loadB 11 rfl rfl (.tail _ (.tail _ (.tail _ (.head _)))) rfl rfl ?_
                      refine St.xk (fun _ w => ((.d (.k (.d (.d (.k (.k (.k (.k .z)))))))) : Keep _ _).sat w) ?_
                      refine St.xef ?_
                      refine St.call (c_made_Dice_Next hr7) ent23 rfl rfl rfl (fun _ w => Sat.dup (G := [.ro (SlL ei64 A7 c7 r2.1.L)]) rfl ⟨(.tail _ (.tail _ (.head _))), trivial⟩ (w.front (.s (.s .z)))) ?_
                      rintro _ _ ⟨A16, c16, rfl, rfl⟩
                      refine St.asrt (F' := .ro (SlL ei64 A16 c16 r7.1.L) :: .res (Box gb1 62 [.slice A16 r7.1.L.length c16, .int .i64 r7.1.At]) :: .res (OwnL e_Field 60 A14 c14 o1) :: .ro (SlL ei64 A7 c7 r2.1.L) :: .res (Box g2 28 [.bool r1.2.Chassis.Present, .int .u8 r1.2.Chassis.Code, .int .u32 r1.2.Chassis.Minutes, .slice A3 r1.2.Chassis.Fields.length c3, .bool r1.2.Board.Present, .int .u8 r1.2.Board.Code, .int .u32 r1.2.Board.Minutes, .slice A4 r1.2.Board.Fields.length c4, .bool r1.2.Product.Present, .int .u8 r1.2.Product.Code, .int .u32 r1.2.Product.Minutes, .slice A14 o1.length c14, .slice A6 r1.2.Multi.length c6]) :: .res (OwnL e_Field 60 A3 c3 r1.2.Chassis.Fields) :: .res (OwnL e_Field 60 A4 c4 r1.2.Board.Fields) :: .res (OwnL eu8 5 A6 c6 r1.2.Multi) :: .res (Box g1 28 [.bool false, .int .u8 0, .int .u32 0, .slice none 0 0, .bool false, .int .u8 0, .int .u32 0, .slice none 0 0, .bool false, .int .u8 0, .int .u32 0, .slice none 0 0, .slice none 0 0]) :: R) (fun _ w => w) ?_
                      refine St.xk (fun _ w => ((.d (.d (.d (.k (.d (.k (.k (.k (.k .z))))))))) : Keep _ _).sat w) ?_
                      refine St.xfl (fun _ h => h) (Rd.p rfl) rfl ?_
                      refine hnd3_0 _ _ (A16, c16) ?_ ?_
                      · exact ⟨rfl, rfl, rfl, rfl, rfl, rfl, rfl, rfl, rfl, trivial⟩
                      · exact fun _ w => ((.k (.k (.k (.k (.k (.k (.k (.k (.k .z))))))))) : Keep _ _).sat w
                    · refine St.xef ?_
                      refine St.call (c_made_Dice_Next hr7) ent23 rfl rfl rfl (fun _ w => Sat.dup (G := [.ro (SlL ei64 A7 c7 r2.1.L)]) rfl ⟨(.tail _ (.tail _ (.head _))), trivial⟩ (w.front (.s (.s .z)))) ?_
                      rintro _ _ ⟨A16, c16, rfl, rfl⟩
                      refine St.asrt (F' := .ro (SlL ei64 A16 c16 r7.1.L) :: .res (Box gb1 62 [.slice A16 r7.1.L.length c16, .int .i64 r7.1.At]) :: .res (OwnL e_Field 60 A14 c14 o1) :: .ro (SlL ei64 A7 c7 r2.1.L) :: .res (Box g2 28 [.bool r1.2.Chassis.Present, .int .u8 r1.2.Chassis.Code, .int .u32 r1.2.Chassis.Minutes, .slice A3 r1.2.Chassis.Fields.length c3, .bool r1.2.Board.Present, .int .u8 r1.2.Board.Code, .int .u32 r1.2.Board.Minutes, .slice A4 r1.2.Board.Fields.length c4, .bool r1.2.Product.Present, .int .u8 r1.2.Product.Code, .int .u32 r1.2.Product.Minutes, .slice A14 o1.length c14, .slice A6 r1.2.Multi.length c6]) :: .res (OwnL e_Field 60 A3 c3 r1.2.Chassis.Fields) :: .res (OwnL e_Field 60 A4 c4 r1.2.Board.Fields) :: .res (OwnL eu8 5 A6 c6 r1.2.Multi) :: .res (Box g1 28 [.bool false, .int .u8 0, .int .u32 0, .slice none 0 0, .bool false, .int .u8 0, .int .u32 0, .slice none 0 0, .bool false, .int .u8 0, .int .u32 0, .slice none 0 0, .slice none 0 0]) :: R) (fun _ w => w) ?_
                      refine St.xk (fun _ w => ((.d (.d (.d (.k (.d (.k (.k (.k (.k .z))))))))) : Keep _ _).sat w) ?_
                      refine St.xfl (fun _ h => h) (Rd.p rfl) rfl ?_
                      refine St.xef ?_
                      refine St.loadB 11 rfl rfl (.tail _ (.tail _ (.tail _ (.tail _ (.head _))))) rfl rfl ?_
                      refine St.xk (fun _ w => ((.d (.d (.d (.k (.d (.k (.k (.k (.k .z))))))))) : Keep _ _).sat w) ?_
                      refine hnd3_0 _ _ (A16, c16) ?_ ?_
                      · exact ⟨rfl, rfl, rfl, rfl, rfl, rfl, rfl, rfl, rfl, trivial⟩
                      · exact fun _ w => ((.k (.k (.k (.k (.k (.k (.k (.k (.k .z))))))))) : Keep _ _).sat w
                  case tnd3_0 =>
                    rintro ⟨A16, c16⟩
                    refine St.asrt (F' := .ro (SlL ei64 A16 c16 r7.1.L) :: .res (Box gb1 62 [.slice A16 r7.1.L.length c16, .int .i64 r7.1.At]) :: .res (OwnL e_Field 60 A14 c14 o1) :: .ro (SlL ei64 A7 c7 r2.1.L) :: .res (Box g2 28 [.bool r1.2.Chassis.Present, .int .u8 r1.2.Chassis.Code, .int .u32 r1.2.Chassis.Minutes, .slice A3 r1.2.Chassis.Fields.length c3, .bool r1.2.Board.Present, .int .u8 r1.2.Board.Code, .int .u32 r1.2.Board.Minutes, .slice A4 r1.2.Board.Fields.length c4, .bool r1.2.Product.Present, .int .u8 r1.2.Product.Code, .int .u32 r1.2.Product.Minutes, .slice A14 o1.length c14, .slice A6 r1.2.Multi.length c6]) :: .res (OwnL e_Field 60 A3 c3 r1.2.Chassis.Fields) :: .res (OwnL e_Field 60 A4 c4 r1.2.Board.Fields) :: .res (OwnL eu8 5 A6 c6 r1.2.Multi) :: .res (Box g1 28 [.bool false, .int .u8 0, .int .u32 0, .slice none 0 0, .bool false, .int .u8 0, .int .u32 0, .slice none 0 0, .bool false, .int .u8 0, .int .u32 0, .slice none 0 0, .slice none 0 0]) :: R) (fun _ w => w) ?_
                    refine St.xef ?_
                    refine St.asrt (fun _ w => (w.front (.s (.s .z))).meltL) ?_
                    refine St.sub (E := (cod e_Field)) rfl rfl (.head _) rfl rfl rfl rfl rfl rfl rfl hl5 fun A17 c17 => ?_
                    refine St.xk (fun _ w => ((.d (.d (.d (.d (.k (.d (.k (.k (.k (.k .z)))))))))) : Keep _ _).sat w) ?_
                    refine St.xfl (fun _ h => h) (Rd.p rfl) rfl ?_
                    refine St.xfl (fun _ h => h) (Rd.p rfl) rfl ?_
                    refine St.xef ?_
                    refine St.store 11 rfl rfl rfl rfl rfl rfl (.s (.s (.s (.s (.s .z))))) rfl ?_
                    refine St.xk (fun _ w => ((.d (.d (.d (.d (.d (.k (.k (.k (.k (.k .z)))))))))) : Keep _ _).sat w) ?_
                    refine St.xdone ?_
                    refine St.thenN ?_
                    refine St.prune (Γ' := [(2, _), (3, _)]) ⟨rfl, rfl, trivial⟩ (.k (.k (.d (.k (.k (.d (.k (.k (.k (.k .z)))))))))) ?_
                    refine St.region ?_
                    refine St.p rfl rfl ?_
                    refine St.loadB 8 rfl rfl (.head _) rfl rfl ?_
                    refine St.p rfl rfl ?_
                    refine St.store 4 rfl rfl rfl rfl rfl rfl .z rfl ?_
                    refine St.done ?_
                    refine St.blkN ?_
                    refine St.thenN ?_
                    refine St.prune (Γ' := [(2, _), (3, _)]) ⟨rfl, rfl, trivial⟩ (.k (.k (.k (.k (.k (.d (.k (.k .z)))))))) ?_
                    refine St.seq ?_
                    refine St.region ?_
                    refine St.loadB 0 rfl rfl (.head _) rfl rfl ?_
                    refine St.store 0 rfl rfl rfl rfl rfl rfl (.s (.s (.s (.s (.s (.s .z)))))) rfl ?_
                    refine St.done ?_
                    refine St.thenN ?_
                    refine St.prune (Γ' := [(2, _)]) ⟨rfl, trivial⟩ (.k (.d (.k (.k (.k (.k (.k .z))))))) ?_
                    refine St.ret ?_
                    repeat (first | refine St.thenR ?_ | refine St.blkR ?_)
                    refine St.asrt (fun _ w => (w.front (.s (.s (.s (.s .z))))).meltL) ?_
                    refine St.asrt (fun _ w => (w.front (.s (.s (.s (.s (.s .z)))))).meltL) ?_
                    injection h with h
                    subst h
                    exact St.finR Tryd.results13 (.cell rfl (.tail _ (.tail _ (.head _))) rfl .nil) rfl [.ro (SlL ei64 A16 c16 r7.1.L), .ro (SlL e_Field A3 c3 r1.2.Chassis.Fields), .ro (SlL e_Field A17 c17 l5), .ro (SlL e_Field A17 c17 l5), .ro (SlL eu8 A6 c6 r1.2.Multi), .res (Box gb1 62 [.slice A16 r7.1.L.length c16, .int .i64 r7.1.At])] ⟨A16, c16, A3, c3, A17, c17, A17, c17, A6, c6, rfl, rfl⟩ (fun _ w => ((.k (.k (.k (.k (.k (.k (.d (.d (.d (.d (.d .z))))))))))) : Keep _ _).sat (Sat.dup (G := [.ro (SlL ei64 A16 c16 r7.1.L), .ro (SlL e_Field A3 c3 r1.2.Chassis.Fields), .ro (SlL e_Field A17 c17 l5), .ro (SlL e_Field A17 c17 l5), .ro (SlL eu8 A6 c6 r1.2.Multi)]) rfl ⟨(.tail _ (.tail _ (.tail _ (.tail _ (.tail _ (.head _)))))), (.tail _ (.tail _ (.head _))), (.tail _ (.tail _ (.tail _ (.tail _ (.head _))))), (.tail _ (.tail _ (.tail _ (.tail _ (.head _))))), (.tail _ (.head _)), trivial⟩ (w.front (.s (.s (.s (.s (.s .z))))))))
              · replace h := bif_f hb7 h
                refine St.skip ?_
                refine St.blkN ?_
                refine St.thenN ?_
                refine St.prune (Γ' := [(2, _), (3, _)]) ⟨rfl, rfl, trivial⟩ (.k (.k (.k (.k (.k (.k (.k (.k .z)))))))) ?_
                refine St.seq ?_
                refine St.region ?_
                refine St.loadB 0 rfl rfl (.tail _ (.tail _ (.head _))) rfl rfl ?_
                refine St.store 0 rfl rfl rfl rfl rfl rfl (.s (.s (.s (.s (.s (.s (.s .z))))))) rfl ?_
                refine St.done ?_
                refine St.thenN ?_
                refine St.prune (Γ' := [(2, _)]) ⟨rfl, trivial⟩ (.k (.k (.k (.d (.k (.k (.k (.k .z)))))))) ?_
                refine St.ret ?_
                repeat (first | refine St.thenR ?_ | refine St.blkR ?_)
                refine St.asrt (fun _ w => (w.front (.s (.s (.s .z)))).meltL) ?_
                refine St.asrt (fun _ w => (w.front (.s (.s (.s (.s .z))))).meltL) ?_
                refine St.asrt (fun _ w => (w.front (.s (.s (.s (.s (.s .z)))))).meltL) ?_
                refine St.asrt (fun _ w => (w.front (.s (.s (.s (.s (.s (.s .z))))))).meltL) ?_
                injection h with h
                subst h
                exact St.finR Tryd.results13 (.cell rfl (.tail _ (.tail _ (.tail _ (.tail _ (.head _))))) rfl .nil) rfl [.ro (SlL ei64 A7 c7 r2.1.L), .ro (SlL e_Field A3 c3 r1.2.Chassis.Fields), .ro (SlL e_Field A4 c4 r1.2.Board.Fields), .ro (SlL e_Field A5 c5 r1.2.Product.Fields), .ro (SlL eu8 A6 c6 r1.2.Multi), .res (Box gb1 62 [.slice A7 r2.1.L.length c7, .int .i64 r2.1.At])] ⟨A7, c7, A3, c3, A4, c4, A5, c5, A6, c6, rfl, rfl⟩ (fun _ w => ((.k (.k (.k (.k (.k (.k (.d (.d (.d (.d (.d (.d .z)))))))))))) : Keep _ _).sat (Sat.dup (G := [.ro (SlL ei64 A7 c7 r2.1.L), .ro (SlL e_Field A3 c3 r1.2.Chassis.Fields), .ro (SlL e_Field A4 c4 r1.2.Board.Fields), .ro (SlL e_Field A5 c5 r1.2.Product.Fields), .ro (SlL eu8 A6 c6 r1.2.Multi)]) rfl ⟨(.tail _ (.tail _ (.tail _ (.tail _ (.tail _ (.tail _ (.head _))))))), (.tail _ (.tail _ (.tail _ (.tail _ (.head _))))), (.tail _ (.tail _ (.tail _ (.head _)))), (.tail _ (.tail _ (.head _))), (.tail _ (.head _)), trivial⟩ (w.front (.s (.s (.s (.s (.s (.s .z)))))))))

theorem ent15 : Ent Tryd.prog 15 := ⟨_, Tryd.func15, by kernel_rfl, by kernel_rfl⟩

noncomputable def m_ref17_Encode (i_p0 : T_Info) : Option ((List Int) × Int) :=
  bnd (m_ref17_bytes i_p0) fun r1 => bif !r1.2 then (some ([], 1)) else (some (r1.1, 0))

theorem c_ref17_Encode {i_p0 : T_Info} {A1 : Option Addr} {c1 : Nat} {A2 : Option Addr} {c2 : Nat} {A3 : Option Addr} {c3 : Nat} {A4 : Option Addr} {c4 : Nat} {r : ((List Int) × Int)} (h : m_ref17_Encode i_p0 = some r) :
    Fun Tryd.prog 15 [.agg (bx_T_Info i_p0 A1 c1 A2 c2 A3 c3 A4 c4).toArray] [.ro (SlL e_Field A1 c1 i_p0.Chassis.Fields), .ro (SlL e_Field A2 c2 i_p0.Board.Fields), .ro (SlL e_Field A3 c3 i_p0.Product.Fields), .ro (SlL eu8 A4 c4 i_p0.Multi)] (fun v_ F_ => ∃ (A1 : Option Addr) (c1 : Nat), v_ = .tuple #[.slice A1 r.1.length c1, .int .i64 r.2] ∧ F_ = [.res (OwnL eu8 5 A1 c1 r.1)]) := by
  unfold m_ref17_Encode at h
  refine Fun.intro Tryd.func15 rfl rfl rfl fun w R => ?_
  refine St.seq ?_
  refine St.region ?_
  refine St.box rfl rfl fun g1 => ?_
  refine St.p rfl rfl ?_
  refine St.p rfl rfl ?_
  refine St.done ?_
  refine St.thenN ?_
  refine St.prune (Γ' := [(1, _)]) ⟨rfl, trivial⟩ (.k (.k (.k (.k (.k .z))))) ?_
  refine St.seq ?_
  refine St.region ?_
  refine St.loadB 0 rfl rfl (.head _) rfl rfl ?_
  obtain ⟨r1, hr1, h⟩ := bnd_e h
  refine St.call (c_ref17_bytes hr1) ent36 rfl rfl rfl (fun _ w => Sat.dup (G := [.ro (SlL e_Field A1 c1 i_p0.Chassis.Fields), .ro (SlL e_Field A2 c2 i_p0.Board.Fields), .ro (SlL e_Field A3 c3 i_p0.Product.Fields), .ro (SlL eu8 A4 c4 i_p0.Multi)]) rfl ⟨(.tail _ (.head _)), (.tail _ (.tail _ (.head _))), (.tail _ (.tail _ (.tail _ (.head _)))), (.tail _ (.tail _ (.tail _ (.tail _ (.head _))))), trivial⟩ w) ?_
  rintro _ _ ⟨A5, c5, rfl, rfl⟩
  refine St.asrt (F' := .res (OwnL eu8 5 A5 c5 r1.1) :: .res (Box g1 28 (bx_T_Info i_p0 A1 c1 A2 c2 A3 c3 A4 c4)) :: .ro (SlL e_Field A1 c1 i_p0.Chassis.Fields) :: .ro (SlL e_Field A2 c2 i_p0.Board.Fields) :: .ro (SlL e_Field A3 c3 i_p0.Product.Fields) :: .ro (SlL eu8 A4 c4 i_p0.Multi) :: R) (fun _ w => w) ?_
  iterate 5 refine St.p rfl rfl ?_
  refine St.done ?_
  refine St.thenN ?_
  refine St.prune (Γ' := [(4, _), (5, _)]) ⟨rfl, rfl, trivial⟩ (.k (.d (.d (.d (.d (.d .z)))))) ?_
  refine St.seq ?_
  refine St.seq ?_
  refine St.region ?_
  refine St.p rfl rfl ?_
  refine St.p rfl rfl ?_
  refine St.done ?_
  refine St.thenN ?_
  refine St.prune (Γ' := [(4, _), (12, _)]) ⟨rfl, rfl, trivial⟩ (.k .z) ?_
  refine St.cond _ rfl (fun hb1 => ?_) (fun hb1 => ?_)
  · replace h := bif_t hb1 h
    refine St.seq ?_
    refine St.region ?_
    refine St.p rfl rfl ?_
    refine St.p rfl rfl ?_
    refine St.done ?_
    refine St.thenN ?_
    refine St.prune (Γ' := [(2, _), (3, _)]) ⟨rfl, rfl, trivial⟩ (.d .z) ?_
    refine St.ret ?_
    repeat (first | refine St.thenR ?_ | refine St.blkR ?_)
    refine St.asrt (fun _ w => w.nilL eu8 5) ?_
    injection h with h
    subst h
    exact St.finR Tryd.results15 (.tmp rfl (.tmp rfl .nil)) rfl [.res (OwnL eu8 5 none 0 ([] : List Int))] ⟨none, 0, rfl, rfl⟩ (fun _ w => ((.k .z) : Keep _ _).sat w)
  · replace h := bif_f hb1 h
    refine St.skip ?_
    refine St.thenN ?_
    refine St.prune (Γ' := [(4, _)]) ⟨rfl, trivial⟩ (.k .z) ?_
    refine St.seq ?_
    refine St.region ?_
    iterate 3 refine St.p rfl rfl ?_
    refine St.done ?_
    refine St.thenN ?_
    refine St.prune (Γ' := [(2, _), (3, _)]) ⟨rfl, rfl, trivial⟩ (.k .z) ?_
    refine St.ret ?_
    repeat (first | refine St.thenR ?_ | refine St.blkR ?_)
    injection h with h
    subst h
    exact St.finR Tryd.results15 (.tmp rfl (.tmp rfl .nil)) rfl [.res (OwnL eu8 5 A5 c5 r1.1)] ⟨A5, c5, rfl, rfl⟩ (fun _ w => ((.k .z) : Keep _ _).sat w)

theorem ent20 : Ent Tryd.prog 20 := ⟨_, Tryd.func20, by kernel_rfl, by kernel_rfl⟩

noncomputable def m_ref17_Serial (i_p0 : T_Info) : Option ByteArray :=
  bnd ((bif i_p0.Product.Present then (bnd (elt ([4, 2, 1]) 0) fun x1 => bif decide ((i_p0.Product.Fields.length : Int) > x1) then (bnd (elt ([4, 2, 1]) 0) fun x2 => bnd (elt i_p0.Product.Fields x2) fun x3 => some (!(x3.Value.toList == ((⟨#[]⟩) : ByteArray).toList))) else (some false)) else (some false) : Option Bool)) fun o1 => bif o1 then (bnd (elt ([4, 2, 1]) 0) fun x4 => bnd (elt i_p0.Product.Fields x4) fun x5 => some x5.Value) else (bnd ((bif i_p0.Board.Present then (bnd (elt ([4, 2, 1]) 1) fun x6 => bif decide ((i_p0.Board.Fields.length : Int) > x6) then (bnd (elt ([4, 2, 1]) 1) fun x7 => bnd (elt i_p0.Board.Fields x7) fun x8 => some (!(x8.Value.toList == ((⟨#[]⟩) : ByteArray).toList))) else (some false)) else (some false) : Option Bool)) fun o2 => bif o2 then (bnd (elt ([4, 2, 1]) 1) fun x9 => bnd (elt i_p0.Board.Fields x9) fun x10 => some x10.Value) else (bnd ((bif i_p0.Chassis.Present then (bnd (elt ([4, 2, 1]) 2) fun x11 => bif decide ((i_p0.Chassis.Fields.length : Int) > x11) then (bnd (elt ([4, 2, 1]) 2) fun x12 => bnd (elt i_p0.Chassis.Fields x12) fun x13 => some (!(x13.Value.toList == ((⟨#[]⟩) : ByteArray).toList))) else (some false)) else (some false) : Option Bool)) fun o3 => bif o3 then (bnd (elt ([4, 2, 1]) 2) fun x14 => bnd (elt i_p0.Chassis.Fields x14) fun x15 => some x15.Value) else (some (⟨#[]⟩))))

set_option maxHeartbeats 4000000 in
theorem c_ref17_Serial {i_p0 : T_Info} {A1 : Option Addr} {c1 : Nat} {A2 : Option Addr} {c2 : Nat} {A3 : Option Addr} {c3 : Nat} {A4 : Option Addr} {c4 : Nat} {r : ByteArray} (h : m_ref17_Serial i_p0 = some r) :
    Fun Tryd.prog 20 [.agg (bx_T_Info i_p0 A1 c1 A2 c2 A3 c3 A4 c4).toArray] [.ro (SlL e_Field A1 c1 i_p0.Chassis.Fields), .ro (SlL e_Field A2 c2 i_p0.Board.Fields), .ro (SlL e_Field A3 c3 i_p0.Product.Fields), .ro (SlL eu8 A4 c4 i_p0.Multi)] (Val (.string r)) := by
  unfold m_ref17_Serial at h
  refine Fun.intro Tryd.func20 rfl rfl rfl fun w R => ?_
  refine St.seq ?_
  refine St.region ?_
  refine St.box rfl rfl fun g1 => ?_
  refine St.p rfl rfl ?_
  refine St.done ?_
  refine St.thenN ?_
  refine St.prune (Γ' := [(1, _)]) ⟨rfl, trivial⟩ (.k (.k (.k (.k (.k .z))))) ?_
  refine St.seq ?_
  refine St.region ?_
  refine St.p rfl rfl ?_
  refine St.loadB 8 rfl rfl (.head _) rfl rfl ?_
  refine St.p rfl rfl ?_
  refine St.loadB 4 rfl rfl (.head _) rfl rfl ?_
  refine St.p rfl rfl ?_
  refine St.loadB 0 rfl rfl (.head _) rfl rfl ?_
  refine St.p rfl rfl ?_
  refine St.alloc rfl rfl fun g2 => ?_
  refine St.store 0 rfl rfl rfl rfl rfl rfl .z rfl ?_
  refine St.done ?_
  refine St.thenN ?_
  refine St.prune (Γ' := [(3, _)]) ⟨rfl, trivial⟩ (.k (.d (.k (.k (.k (.d .z)))))) ?_
  refine St.seq ?_
  refine St.region ?_
  refine St.p rfl rfl ?_
  refine St.alloc rfl rfl fun g3 => ?_
  refine St.store 0 rfl rfl rfl rfl rfl rfl .z rfl ?_
  refine St.asrt (fun _ w => (w.front .z).litL (E := ei64) (e := 74) [4, 2, 1] rfl rfl) ?_
  refine St.done ?_
  refine St.thenN ?_
  refine St.prune (Γ' := [(3, _), (4, _)]) ⟨rfl, rfl, trivial⟩ (.k (.k (.k (.k (.k .z))))) ?_
  refine St.seq ?_
  refine St.seq ?_
  refine St.region ?_
  refine St.p rfl rfl ?_
  refine St.done ?_
  refine St.thenN ?_
  refine St.block ?_
  refine St.rounds 9 ?_
  refine St.round ?_
  refine St.seq ?_
  refine St.seq ?_
  refine St.region ?_
  refine St.p rfl rfl ?_
  refine St.p rfl rfl ?_
  refine St.done ?_
  refine St.thenN ?_
  refine St.prune (Γ' := [(3, _), (4, _), (5, _), (15, _)]) ⟨rfl, rfl, rfl, rfl, trivial⟩ (.k (.k (.k (.k (.k .z))))) ?_
  refine St.condT rfl ?_
  refine St.skip ?_
  refine St.thenN ?_
  refine St.prune (Γ' := [(3, _), (4, _), (5, _)]) ⟨rfl, rfl, rfl, trivial⟩ (.k (.k (.k (.k (.k .z))))) ?_
  refine St.seq ?_
  refine St.block ?_
  refine St.seq ?_
  obtain ⟨o1, hj1, h⟩ := bnd_e h
  refine St.cutE (fun (e1 : Unit) => [(3, .pointer (some ⟨g2, 0, none⟩)), (4, .pointer (some ⟨g3, 0, none⟩)), (5, .int .i64 0), (45, .bool o1)]) (fun e1 => .res (OwnL ei64 74 (some ⟨g3, 0, none⟩) ([4, 2, 1] : List Int).length ([4, 2, 1])) :: .res (Box g2 69 [.bool i_p0.Product.Present, .int .u8 i_p0.Product.Code, .int .u32 i_p0.Product.Minutes, .slice A3 i_p0.Product.Fields.length c3, .bool i_p0.Board.Present, .int .u8 i_p0.Board.Code, .int .u32 i_p0.Board.Minutes, .slice A2 i_p0.Board.Fields.length c2, .bool i_p0.Chassis.Present, .int .u8 i_p0.Chassis.Code, .int .u32 i_p0.Chassis.Minutes, .slice A1 i_p0.Chassis.Fields.length c1]) :: .ro (SlL e_Field A1 c1 i_p0.Chassis.Fields) :: .ro (SlL e_Field A2 c2 i_p0.Board.Fields) :: .ro (SlL e_Field A3 c3 i_p0.Product.Fields) :: R) ?_ ?_
  · refine St.regionF mixed (by kernel_rfl) ?_
    iterate 3 refine St.p rfl rfl ?_
    refine St.loadB 0 rfl rfl (.tail _ (.head _)) rfl rfl ?_
    refine St.p rfl rfl ?_
    refine St.gSplit (dj := 22) _ rfl (fun hb1 => ?_) (fun hb1 => ?_)
    · replace hj1 := bif_t hb1 hj1
      refine St.gOn (dj := 22) rfl rfl ?_
      refine St.p rfl rfl ?_
      refine St.gOn (dj := 22) rfl rfl ?_
      refine St.p rfl rfl ?_
      refine St.gOn (dj := 22) rfl rfl ?_
      refine St.p rfl rfl ?_
      refine St.gOn (dj := 22) rfl rfl ?_
      refine St.loadB 3 rfl rfl (.tail _ (.head _)) rfl rfl ?_
      refine St.gOn (dj := 22) rfl rfl ?_
      refine St.p rfl rfl ?_
      refine St.gOn (dj := 22) rfl rfl ?_
      refine St.p rfl rfl ?_
      refine St.gOn (dj := 22) rfl rfl ?_
      obtain ⟨x1, hx1, hj1⟩ := bnd_e hj1
      refine St.ixA (sz := 1) hx1 rfl rfl rfl rfl rfl rfl rfl rfl ?_
      refine St.gOn (dj := 22) rfl rfl ?_
      refine St.ldO 0 hx1 rfl rfl (.head _) rfl rfl ?_
      refine St.gOn (dj := 22) rfl rfl ?_
      iterate 3 refine St.p rfl rfl ?_
      refine St.gSplit (dj := 33) _ rfl (fun hb2 => ?_) (fun hb2 => ?_)
      · replace hj1 := bif_t hb2 hj1
        refine St.gOn (dj := 33) rfl rfl ?_
        refine St.p rfl rfl ?_
        refine St.gOn (dj := 33) rfl rfl ?_
        refine St.p rfl rfl ?_
        refine St.gOn (dj := 33) rfl rfl ?_
        refine St.p rfl rfl ?_
        refine St.gOn (dj := 33) rfl rfl ?_
        refine St.loadB 3 rfl rfl (.tail _ (.head _)) rfl rfl ?_
        refine St.gOn (dj := 33) rfl rfl ?_
        refine St.p rfl rfl ?_
        refine St.gOn (dj := 33) rfl rfl ?_
        obtain ⟨x2, hx2, hj1⟩ := bnd_e hj1
        refine St.ixA (sz := 1) hx2 rfl rfl rfl rfl rfl rfl rfl rfl ?_
        refine St.gOn (dj := 33) rfl rfl ?_
        refine St.ldO 0 hx2 rfl rfl (.head _) rfl rfl ?_
        refine St.gOn (dj := 33) rfl rfl ?_
        obtain ⟨x3, hx3, hj1⟩ := bnd_e hj1
        refine St.ixL hx3 rfl rfl rfl (.tail _ (.tail _ (.tail _ (.tail _ (.head _))))) rfl rfl rfl rfl rfl fun b1 ob1 => ?_
        refine St.gOn (dj := 33) rfl rfl ?_
        refine St.p rfl rfl ?_
        refine St.gOn (dj := 33) rfl rfl ?_
        refine St.load ob1 1 rfl rfl (.head _) rfl rfl ?_
        refine St.gOn (dj := 33) rfl rfl ?_
        refine St.p rfl rfl ?_
        refine St.p rfl rfl ?_
        refine St.doneQ ?_
        injection hj1 with hj1
        subst hj1
        refine St.thenN ?_
        exact St.hereE () ⟨rfl, rfl, rfl, rfl, trivial⟩ (fun _ w => ((.d (.k (.k (.k (.k (.k .z)))))) : Keep _ _).sat w)
      · replace hj1 := bif_f hb2 hj1
        refine St.gOff (dj := 33) rfl rfl rfl rfl ?_
        refine St.gOff (dj := 33) rfl rfl rfl rfl ?_
        refine St.gOff (dj := 33) rfl rfl rfl rfl ?_
        refine St.gOff (dj := 33) rfl rfl rfl rfl ?_
        refine St.gOff (dj := 33) rfl rfl rfl rfl ?_
        refine St.gOff (dj := 33) rfl rfl rfl rfl ?_
        refine St.gOff (dj := 33) rfl rfl rfl rfl ?_
        refine St.gOff (dj := 33) rfl rfl rfl rfl ?_
        refine St.gOff (dj := 33) rfl rfl rfl rfl ?_
        refine St.gOff (dj := 33) rfl rfl rfl rfl ?_
        refine St.gOff (dj := 33) rfl rfl rfl rfl ?_
        refine St.p rfl rfl ?_
        refine St.doneQ ?_
        injection hj1 with hj1
        subst hj1
        refine St.thenN ?_
        exact St.hereE () ⟨rfl, rfl, rfl, rfl, trivial⟩ (fun _ w => ((.k (.k (.k (.k (.k .z))))) : Keep _ _).sat w)
    · replace hj1 := bif_f hb1 hj1
      refine St.gOff (dj := 22) rfl rfl rfl rfl ?_
      refine St.gOff (dj := 22) rfl rfl rfl rfl ?_
      refine St.gOff (dj := 22) rfl rfl rfl rfl ?_
      refine St.gOff (dj := 22) rfl rfl rfl rfl ?_
      refine St.gOff (dj := 22) rfl rfl rfl rfl ?_
      refine St.gOff (dj := 22) rfl rfl rfl rfl ?_
      refine St.gOff (dj := 22) rfl rfl rfl rfl ?_
      refine St.gOff (dj := 22) rfl rfl rfl rfl ?_
      refine St.gOff (dj := 22) rfl rfl rfl rfl ?_
      refine St.p rfl rfl ?_
      refine St.p rfl rfl ?_
      refine St.gOff (dj := 33) rfl rfl rfl rfl ?_
      refine St.gOff (dj := 33) rfl rfl rfl rfl ?_
      refine St.gOff (dj := 33) rfl rfl rfl rfl ?_
      refine St.gOff (dj := 33) rfl rfl rfl rfl ?_
      refine St.gOff (dj := 33) rfl rfl rfl rfl ?_
      refine St.gOff (dj := 33) rfl rfl rfl rfl ?_
      refine St.gOff (dj := 33) rfl rfl rfl rfl ?_
      refine St.gOff (dj := 33) rfl rfl rfl rfl ?_
      refine St.gOff (dj := 33) rfl rfl rfl rfl ?_
      refine St.gOff (dj := 33) rfl rfl rfl rfl ?_
      refine St.gOff (dj := 33) rfl rfl rfl rfl ?_
      refine St.p rfl rfl ?_
      refine St.doneQ ?_
      injection hj1 with hj1
      subst hj1
      refine St.thenN ?_
      exact St.hereE () ⟨rfl, rfl, rfl, rfl, trivial⟩ (fun _ w => ((.k (.k (.k (.k (.k .z))))) : Keep _ _).sat w)
  · rintro e1
    refine St.cond _ rfl (fun hb3 => ?_) (fun hb3 => ?_)
    · replace h := bif_t hb3 h
      refine St.seq ?_
      refine St.regionF mixed (by kernel_rfl) ?_
      iterate 3 refine St.p rfl rfl ?_
      refine St.loadB 3 rfl rfl (.tail _ (.head _)) rfl rfl ?_
      refine St.p rfl rfl ?_
      obtain ⟨x4, hx4, h⟩ := bnd_e h
      refine St.ixA (sz := 1) hx4 rfl rfl rfl rfl rfl rfl rfl rfl ?_
      refine St.ldO 0 hx4 rfl rfl (.head _) rfl rfl ?_
      obtain ⟨x5, hx5, h⟩ := bnd_e h
      refine St.ixL hx5 rfl rfl rfl (.tail _ (.tail _ (.tail _ (.tail _ (.head _))))) rfl rfl rfl rfl rfl fun b2 ob2 => ?_
      refine St.p rfl rfl ?_
      refine St.load ob2 1 rfl rfl (.head _) rfl rfl ?_
      refine St.p rfl rfl ?_
      refine St.doneQ ?_
      refine St.thenN ?_
      refine St.prune (Γ' := [(2, _)]) ⟨rfl, trivial⟩ (.d (.d (.d (.d (.d (.d .z)))))) ?_
      refine St.ret ?_
      repeat (first | refine St.thenR ?_ | refine St.blkR ?_)
      injection h with h
      subst h
      exact St.finR Tryd.results20 (.tmp rfl .nil) rfl [] ⟨rfl, rfl⟩ (fun _ w => (.z : Keep _ _).sat w)
    · replace h := bif_f hb3 h
      refine St.skip ?_
      refine St.blkN ?_
      refine St.thenN ?_
      refine St.prune (Γ' := [(3, _), (4, _), (5, _)]) ⟨rfl, rfl, rfl, trivial⟩ (.k (.k (.k (.k (.k .z))))) ?_
      refine St.region ?_
      iterate 3 refine St.p rfl rfl ?_
      refine St.done ?_
      refine St.thenN ?_
      refine St.round ?_
      refine St.prune (Γ' := [(3, _), (4, _), (5, _)]) ⟨rfl, rfl, rfl, trivial⟩ (.k (.k (.k (.k (.k .z))))) ?_
      refine St.seq ?_
      refine St.seq ?_
      refine St.region ?_
      refine St.p rfl rfl ?_
      refine St.p rfl rfl ?_
      refine St.done ?_
      refine St.thenN ?_
      refine St.prune (Γ' := [(3, _), (4, _), (5, _), (15, _)]) ⟨rfl, rfl, rfl, rfl, trivial⟩ (.k (.k (.k (.k (.k .z))))) ?_
      refine St.condT rfl ?_
      refine St.skip ?_
      refine St.thenN ?_
      refine St.prune (Γ' := [(3, _), (4, _), (5, _)]) ⟨rfl, rfl, rfl, trivial⟩ (.k (.k (.k (.k (.k .z))))) ?_
      refine St.seq ?_
      refine St.block ?_
      refine St.seq ?_
      obtain ⟨o2, hj2, h⟩ := bnd_e h
      refine St.cutE (fun (e2 : Unit) => [(3, .pointer (some ⟨g2, 0, none⟩)), (4, .pointer (some ⟨g3, 0, none⟩)), (5, .int .i64 1), (45, .bool o2)]) (fun e2 => .res (OwnL ei64 74 (some ⟨g3, 0, none⟩) ([4, 2, 1] : List Int).length ([4, 2, 1])) :: .res (Box g2 69 [.bool i_p0.Product.Present, .int .u8 i_p0.Product.Code, .int .u32 i_p0.Product.Minutes, .slice A3 i_p0.Product.Fields.length c3, .bool i_p0.Board.Present, .int .u8 i_p0.Board.Code, .int .u32 i_p0.Board.Minutes, .slice A2 i_p0.Board.Fields.length c2, .bool i_p0.Chassis.Present, .int .u8 i_p0.Chassis.Code, .int .u32 i_p0.Chassis.Minutes, .slice A1 i_p0.Chassis.Fields.length c1]) :: .ro (SlL e_Field A1 c1 i_p0.Chassis.Fields) :: .ro (SlL e_Field A2 c2 i_p0.Board.Fields) :: .ro (SlL e_Field A3 c3 i_p0.Product.Fields) :: R) ?_ ?_
      · refine St.regionF mixed (by kernel_rfl) ?_
        iterate 3 refine St.p rfl rfl ?_
        refine St.loadB 4 rfl rfl (.tail _ (.head _)) rfl rfl ?_
        refine St.p rfl rfl ?_
        refine St.gSplit (dj := 22) _ rfl (fun hb4 => ?_) (fun hb4 => ?_)
        · replace hj2 := bif_t hb4 hj2
          refine St.gOn (dj := 22) rfl rfl ?_
          refine St.p rfl rfl ?_
          refine St.gOn (dj := 22) rfl rfl ?_
          refine St.p rfl rfl ?_
          refine St.gOn (dj := 22) rfl rfl ?_
          refine St.p rfl rfl ?_
          refine St.gOn (dj := 22) rfl rfl ?_
          refine St.loadB 7 rfl rfl (.tail _ (.head _)) rfl rfl ?_
          refine St.gOn (dj := 22) rfl rfl ?_
          refine St.p rfl rfl ?_
          refine St.gOn (dj := 22) rfl rfl ?_
          refine St.p rfl rfl ?_
          refine St.gOn (dj := 22) rfl rfl ?_
          obtain ⟨x6, hx6, hj2⟩ := bnd_e hj2
          refine St.ixA (sz := 1) hx6 rfl rfl rfl rfl rfl rfl rfl rfl ?_
          refine St.gOn (dj := 22) rfl rfl ?_
          refine St.ldO 0 hx6 rfl rfl (.head _) rfl rfl ?_
          refine St.gOn (dj := 22) rfl rfl ?_
          iterate 3 refine St.p rfl rfl ?_
          refine St.gSplit (dj := 33) _ rfl (fun hb5 => ?_) (fun hb5 => ?_)
          · replace hj2 := bif_t hb5 hj2
            refine St.gOn (dj := 33) rfl rfl ?_
            refine St.p rfl rfl ?_
            refine St.gOn (dj := 33) rfl rfl ?_
            refine St.p rfl rfl ?_
            refine St.gOn (dj := 33) rfl rfl ?_
            refine St.p rfl rfl ?_
            refine St.gOn (dj := 33) rfl rfl ?_
            refine St.loadB 7 rfl rfl (.tail _ (.head _)) rfl rfl ?_
            refine St.gOn (dj := 33) rfl rfl ?_
            refine St.p rfl rfl ?_
            refine St.gOn (dj := 33) rfl rfl ?_
            obtain ⟨x7, hx7, hj2⟩ := bnd_e hj2
            refine St.ixA (sz := 1) hx7 rfl rfl rfl rfl rfl rfl rfl rfl ?_
            refine St.gOn (dj := 33) rfl rfl ?_
            refine St.ldO 0 hx7 rfl rfl (.head _) rfl rfl ?_
            refine St.gOn (dj := 33) rfl rfl ?_
            obtain ⟨x8, hx8, hj2⟩ := bnd_e hj2
            refine St.ixL hx8 rfl rfl rfl (.tail _ (.tail _ (.tail _ (.head _)))) rfl rfl rfl rfl rfl fun b3 ob3 => ?_
            refine St.gOn (dj := 33) rfl rfl ?_
            refine St.p rfl rfl ?_
            refine St.gOn (dj := 33) rfl rfl ?_
            refine St.load ob3 1 rfl rfl (.head _) rfl rfl ?_
            refine St.gOn (dj := 33) rfl rfl ?_
            refine St.p rfl rfl ?_
            refine St.p rfl rfl ?_
            refine St.doneQ ?_
            injection hj2 with hj2
            subst hj2
            refine St.thenN ?_
            exact St.hereE () ⟨rfl, rfl, rfl, rfl, trivial⟩ (fun _ w => ((.d (.k (.k (.k (.k (.k .z)))))) : Keep _ _).sat w)
          · replace hj2 := bif_f hb5 hj2
            refine St.gOff (dj := 33) rfl rfl rfl rfl ?_
            refine St.gOff (dj := 33) rfl rfl rfl rfl ?_
            refine St.gOff (dj := 33) rfl rfl rfl rfl ?_
            refine St.gOff (dj := 33) rfl rfl rfl rfl ?_
            refine St.gOff (dj := 33) rfl rfl rfl rfl ?_
            refine St.gOff (dj := 33) rfl rfl rfl rfl ?_
            refine St.gOff (dj := 33) rfl rfl rfl rfl ?_
            refine St.gOff (dj := 33) rfl rfl rfl rfl ?_
            refine St.gOff (dj := 33) rfl rfl rfl rfl ?_
            refine St.gOff (dj := 33) rfl rfl rfl rfl ?_
            refine St.gOff (dj := 33) rfl rfl rfl rfl ?_
            refine St.p rfl rfl ?_
            refine St.doneQ ?_
            injection hj2 with hj2
            subst hj2
            refine St.thenN ?_
            exact St.hereE () ⟨rfl, rfl, rfl, rfl, trivial⟩ (fun _ w => ((.k (.k (.k (.k (.k .z))))) : Keep _ _).sat w)
        · replace hj2 := bif_f hb4 hj2
          refine St.gOff (dj := 22) rfl rfl rfl rfl ?_
          refine St.gOff (dj := 22) rfl rfl rfl rfl ?_
          refine St.gOff (dj := 22) rfl rfl rfl rfl ?_
          refine St.gOff (dj := 22) rfl rfl rfl rfl ?_
          refine St.gOff (dj := 22) rfl rfl rfl rfl ?_
          refine St.gOff (dj := 22) rfl rfl rfl rfl ?_
          refine St.gOff (dj := 22) rfl rfl rfl rfl ?_
          refine St.gOff (dj := 22) rfl rfl rfl rfl ?_
          refine St.gOff (dj := 22) rfl rfl rfl rfl ?_
          refine St.p rfl rfl ?_
          refine St.p rfl rfl ?_
          refine St.gOff (dj := 33) rfl rfl rfl rfl ?_
          refine St.gOff (dj := 33) rfl rfl rfl rfl ?_
          refine St.gOff (dj := 33) rfl rfl rfl rfl ?_
          refine St.gOff (dj := 33) rfl rfl rfl rfl ?_
          refine St.gOff (dj := 33) rfl rfl rfl rfl ?_
          refine St.gOff (dj := 33) rfl rfl rfl rfl ?_
          refine St.gOff (dj := 33) rfl rfl rfl rfl ?_
          refine St.gOff (dj := 33) rfl rfl rfl rfl ?_
          refine St.gOff (dj := 33) rfl rfl rfl rfl ?_
          refine St.gOff (dj := 33) rfl rfl rfl rfl ?_
          refine St.gOff (dj := 33) rfl rfl rfl rfl ?_
          refine St.p rfl rfl ?_
          refine St.doneQ ?_
          injection hj2 with hj2
          subst hj2
          refine St.thenN ?_
          exact St.hereE () ⟨rfl, rfl, rfl, rfl, trivial⟩ (fun _ w => ((.k (.k (.k (.k (.k .z))))) : Keep _ _).sat w)
      · rintro e2
        refine St.cond _ rfl (fun hb6 => ?_) (fun hb6 => ?_)
        · replace h := bif_t hb6 h
          refine St.seq ?_
          refine St.regionF mixed (by kernel_rfl) ?_
          iterate 3 refine St.p rfl rfl ?_
          refine St.loadB 7 rfl rfl (.tail _ (.head _)) rfl rfl ?_
          refine St.p rfl rfl ?_
          obtain ⟨x9, hx9, h⟩ := bnd_e h
          refine St.ixA (sz := 1) hx9 rfl rfl rfl rfl rfl rfl rfl rfl ?_
          refine St.ldO 0 hx9 rfl rfl (.head _) rfl rfl ?_
          obtain ⟨x10, hx10, h⟩ := bnd_e h
          refine St.ixL hx10 rfl rfl rfl (.tail _ (.tail _ (.tail _ (.head _)))) rfl rfl rfl rfl rfl fun b4 ob4 => ?_
          refine St.p rfl rfl ?_
          refine St.load ob4 1 rfl rfl (.head _) rfl rfl ?_
          refine St.p rfl rfl ?_
          refine St.doneQ ?_
          refine St.thenN ?_
          refine St.prune (Γ' := [(2, _)]) ⟨rfl, trivial⟩ (.d (.d (.d (.d (.d (.d .z)))))) ?_
          refine St.ret ?_
          repeat (first | refine St.thenR ?_ | refine St.blkR ?_)
          injection h with h
          subst h
          exact St.finR Tryd.results20 (.tmp rfl .nil) rfl [] ⟨rfl, rfl⟩ (fun _ w => (.z : Keep _ _).sat w)
        · replace h := bif_f hb6 h
          refine St.skip ?_
          refine St.blkN ?_
          refine St.thenN ?_
          refine St.prune (Γ' := [(3, _), (4, _), (5, _)]) ⟨rfl, rfl, rfl, trivial⟩ (.k (.k (.k (.k (.k .z))))) ?_
          refine St.region ?_
          iterate 3 refine St.p rfl rfl ?_
          refine St.done ?_
          refine St.thenN ?_
          refine St.round ?_
          refine St.prune (Γ' := [(3, _), (4, _), (5, _)]) ⟨rfl, rfl, rfl, trivial⟩ (.k (.k (.k (.k (.k .z))))) ?_
          refine St.seq ?_
          refine St.seq ?_
          refine St.region ?_
          refine St.p rfl rfl ?_
          refine St.p rfl rfl ?_
          refine St.done ?_
          refine St.thenN ?_
          refine St.prune (Γ' := [(3, _), (4, _), (5, _), (15, _)]) ⟨rfl, rfl, rfl, rfl, trivial⟩ (.k (.k (.k (.k (.k .z))))) ?_
          refine St.condT rfl ?_
          refine St.skip ?_
          refine St.thenN ?_
          refine St.prune (Γ' := [(3, _), (4, _), (5, _)]) ⟨rfl, rfl, rfl, trivial⟩ (.k (.k (.k (.k (.k .z))))) ?_
          refine St.seq ?_
          refine St.block ?_
          refine St.seq ?_
          obtain ⟨o3, hj3, h⟩ := bnd_e h
          refine St.cutE (fun (e3 : Unit) => [(3, .pointer (some ⟨g2, 0, none⟩)), (4, .pointer (some ⟨g3, 0, none⟩)), (5, .int .i64 2), (45, .bool o3)]) (fun e3 => .res (OwnL ei64 74 (some ⟨g3, 0, none⟩) ([4, 2, 1] : List Int).length ([4, 2, 1])) :: .res (Box g2 69 [.bool i_p0.Product.Present, .int .u8 i_p0.Product.Code, .int .u32 i_p0.Product.Minutes, .slice A3 i_p0.Product.Fields.length c3, .bool i_p0.Board.Present, .int .u8 i_p0.Board.Code, .int .u32 i_p0.Board.Minutes, .slice A2 i_p0.Board.Fields.length c2, .bool i_p0.Chassis.Present, .int .u8 i_p0.Chassis.Code, .int .u32 i_p0.Chassis.Minutes, .slice A1 i_p0.Chassis.Fields.length c1]) :: .ro (SlL e_Field A1 c1 i_p0.Chassis.Fields) :: .ro (SlL e_Field A2 c2 i_p0.Board.Fields) :: .ro (SlL e_Field A3 c3 i_p0.Product.Fields) :: R) ?_ ?_
          · refine St.regionF mixed (by kernel_rfl) ?_
            iterate 3 refine St.p rfl rfl ?_
            refine St.loadB 8 rfl rfl (.tail _ (.head _)) rfl rfl ?_
            refine St.p rfl rfl ?_
            refine St.gSplit (dj := 22) _ rfl (fun hb7 => ?_) (fun hb7 => ?_)
            · replace hj3 := bif_t hb7 hj3
              refine St.gOn (dj := 22) rfl rfl ?_
              refine St.p rfl rfl ?_
              refine St.gOn (dj := 22) rfl rfl ?_
              refine St.p rfl rfl ?_
              refine St.gOn (dj := 22) rfl rfl ?_
              refine St.p rfl rfl ?_
              refine St.gOn (dj := 22) rfl rfl ?_
              refine St.loadB 11 rfl rfl (.tail _ (.head _)) rfl rfl ?_
              refine St.gOn (dj := 22) rfl rfl ?_
              refine St.p rfl rfl ?_
              refine St.gOn (dj := 22) rfl rfl ?_
              refine St.p rfl rfl ?_
              refine St.gOn (dj := 22) rfl rfl ?_
              obtain ⟨x11, hx11, hj3⟩ := bnd_e hj3
              refine St.ixA (sz := 1) hx11 rfl rfl rfl rfl rfl rfl rfl rfl ?_
              refine St.gOn (dj := 22) rfl rfl ?_
              refine St.ldO 0 hx11 rfl rfl (.head _) rfl rfl ?_
              refine St.gOn (dj := 22) rfl rfl ?_
              iterate 3 refine St.p rfl rfl ?_
              refine St.gSplit (dj := 33) _ rfl (fun hb8 => ?_) (fun hb8 => ?_)
              · replace hj3 := bif_t hb8 hj3
                refine St.gOn (dj := 33) rfl rfl ?_
                refine St.p rfl rfl ?_
                refine St.gOn (dj := 33) rfl rfl ?_
                refine St.p rfl rfl ?_
                refine St.gOn (dj := 33) rfl rfl ?_
                refine St.p rfl rfl ?_
                refine St.gOn (dj := 33) rfl rfl ?_
                refine St.loadB 11 rfl rfl (.tail _ (.head _)) rfl rfl ?_
                refine St.gOn (dj := 33) rfl rfl ?_
                refine St.p rfl rfl ?_
                refine St.gOn (dj := 33) rfl rfl ?_
                obtain ⟨x12, hx12, hj3⟩ := bnd_e hj3
                refine St.ixA (sz := 1) hx12 rfl rfl rfl rfl rfl rfl rfl rfl ?_
                refine St.gOn (dj := 33) rfl rfl ?_
                refine St.ldO 0 hx12 rfl rfl (.head _) rfl rfl ?_
                refine St.gOn (dj := 33) rfl rfl ?_
                obtain ⟨x13, hx13, hj3⟩ := bnd_e hj3
                refine St.ixL hx13 rfl rfl rfl (.tail _ (.tail _ (.head _))) rfl rfl rfl rfl rfl fun b5 ob5 => ?_
                refine St.gOn (dj := 33) rfl rfl ?_
                refine St.p rfl rfl ?_
                refine St.gOn (dj := 33) rfl rfl ?_
                refine St.load ob5 1 rfl rfl (.head _) rfl rfl ?_
                refine St.gOn (dj := 33) rfl rfl ?_
                refine St.p rfl rfl ?_
                refine St.p rfl rfl ?_
                refine St.doneQ ?_
                injection hj3 with hj3
                subst hj3
                refine St.thenN ?_
                exact St.hereE () ⟨rfl, rfl, rfl, rfl, trivial⟩ (fun _ w => ((.d (.k (.k (.k (.k (.k .z)))))) : Keep _ _).sat w)
              · replace hj3 := bif_f hb8 hj3
                refine St.gOff (dj := 33) rfl rfl rfl rfl ?_
                refine St.gOff (dj := 33) rfl rfl rfl rfl ?_
                refine St.gOff (dj := 33) rfl rfl rfl rfl ?_
                refine St.gOff (dj := 33) rfl rfl rfl rfl ?_
                refine St.gOff (dj := 33) rfl rfl rfl rfl ?_
                refine St.gOff (dj := 33) rfl rfl rfl rfl ?_
                refine St.gOff (dj := 33) rfl rfl rfl rfl ?_
                refine St.gOff (dj := 33) rfl rfl rfl rfl ?_
                refine St.gOff (dj := 33) rfl rfl rfl rfl ?_
                refine St.gOff (dj := 33) rfl rfl rfl rfl ?_
                refine St.gOff (dj := 33) rfl rfl rfl rfl ?_
                refine St.p rfl rfl ?_
                refine St.doneQ ?_
                injection hj3 with hj3
                subst hj3
                refine St.thenN ?_
                exact St.hereE () ⟨rfl, rfl, rfl, rfl, trivial⟩ (fun _ w => ((.k (.k (.k (.k (.k .z))))) : Keep _ _).sat w)
            · replace hj3 := bif_f hb7 hj3
              refine St.gOff (dj := 22) rfl rfl rfl rfl ?_
              refine St.gOff (dj := 22) rfl rfl rfl rfl ?_
              refine St.gOff (dj := 22) rfl rfl rfl rfl ?_
              refine St.gOff (dj := 22) rfl rfl rfl rfl ?_
              refine St.gOff (dj := 22) rfl rfl rfl rfl ?_
              refine St.gOff (dj := 22) rfl rfl rfl rfl ?_
              refine St.gOff (dj := 22) rfl rfl rfl rfl ?_
              refine St.gOff (dj := 22) rfl rfl rfl rfl ?_
              refine St.gOff (dj := 22) rfl rfl rfl rfl ?_
              refine St.p rfl rfl ?_
              refine St.p rfl rfl ?_
              refine St.gOff (dj := 33) rfl rfl rfl rfl ?_
              refine St.gOff (dj := 33) rfl rfl rfl rfl ?_
              refine St.gOff (dj := 33) rfl rfl rfl rfl ?_
              refine St.gOff (dj := 33) rfl rfl rfl rfl ?_
              refine St.gOff (dj := 33) rfl rfl rfl rfl ?_
              refine St.gOff (dj := 33) rfl rfl rfl rfl ?_
              refine St.gOff (dj := 33) rfl rfl rfl rfl ?_
              refine St.gOff (dj := 33) rfl rfl rfl rfl ?_
              refine St.gOff (dj := 33) rfl rfl rfl rfl ?_
              refine St.gOff (dj := 33) rfl rfl rfl rfl ?_
              refine St.gOff (dj := 33) rfl rfl rfl rfl ?_
              refine St.p rfl rfl ?_
              refine St.doneQ ?_
              injection hj3 with hj3
              subst hj3
              refine St.thenN ?_
              exact St.hereE () ⟨rfl, rfl, rfl, rfl, trivial⟩ (fun _ w => ((.k (.k (.k (.k (.k .z))))) : Keep _ _).sat w)
          · rintro e3
            refine St.cond _ rfl (fun hb9 => ?_) (fun hb9 => ?_)
            · replace h := bif_t hb9 h
              refine St.seq ?_
              refine St.regionF mixed (by kernel_rfl) ?_
              iterate 3 refine St.p rfl rfl ?_
              refine St.loadB 11 rfl rfl (.tail _ (.head _)) rfl rfl ?_
              refine St.p rfl rfl ?_
              obtain ⟨x14, hx14, h⟩ := bnd_e h
              refine St.ixA (sz := 1) hx14 rfl rfl rfl rfl rfl rfl rfl rfl ?_
              refine St.ldO 0 hx14 rfl rfl (.head _) rfl rfl ?_
              obtain ⟨x15, hx15, h⟩ := bnd_e h
              refine St.ixL hx15 rfl rfl rfl (.tail _ (.tail _ (.head _))) rfl rfl rfl rfl rfl fun b6 ob6 => ?_
              refine St.p rfl rfl ?_
              refine St.load ob6 1 rfl rfl (.head _) rfl rfl ?_
              refine St.p rfl rfl ?_
              refine St.doneQ ?_
              refine St.thenN ?_
              refine St.prune (Γ' := [(2, _)]) ⟨rfl, trivial⟩ (.d (.d (.d (.d (.d (.d .z)))))) ?_
              refine St.ret ?_
              repeat (first | refine St.thenR ?_ | refine St.blkR ?_)
              injection h with h
              subst h
              exact St.finR Tryd.results20 (.tmp rfl .nil) rfl [] ⟨rfl, rfl⟩ (fun _ w => (.z : Keep _ _).sat w)
            · replace h := bif_f hb9 h
              refine St.skip ?_
              refine St.blkN ?_
              refine St.thenN ?_
              refine St.prune (Γ' := [(3, _), (4, _), (5, _)]) ⟨rfl, rfl, rfl, trivial⟩ (.k (.k (.k (.k (.k .z))))) ?_
              refine St.region ?_
              iterate 3 refine St.p rfl rfl ?_
              refine St.done ?_
              refine St.thenN ?_
              refine St.round ?_
              refine St.prune (Γ' := [(3, _), (4, _), (5, _)]) ⟨rfl, rfl, rfl, trivial⟩ (.k (.k (.k (.k (.k .z))))) ?_
              refine St.seq ?_
              refine St.seq ?_
              refine St.region ?_
              refine St.p rfl rfl ?_
              refine St.p rfl rfl ?_
              refine St.done ?_
              refine St.thenN ?_
              refine St.prune (Γ' := [(3, _), (4, _), (5, _), (15, _)]) ⟨rfl, rfl, rfl, rfl, trivial⟩ (.k (.k (.k (.k (.k .z))))) ?_
              refine St.condF rfl ?_
              refine St.exit ?_
              repeat (first | refine St.thenX ?_ | refine St.blkMiss rfl ?_)
              refine St.blkHit ?_
              refine St.thenN ?_
              refine St.prune (Γ' := []) trivial (.d (.d (.d (.d (.d .z))))) ?_
              refine St.seq ?_
              refine St.region ?_
              refine St.p rfl rfl ?_
              refine St.done ?_
              refine St.thenN ?_
              refine St.ret ?_
              repeat (first | refine St.thenR ?_ | refine St.blkR ?_)
              injection h with h
              subst h
              exact St.finR Tryd.results20 (.tmp rfl .nil) rfl [] ⟨rfl, rfl⟩ (fun _ w => (.z : Keep _ _).sat w)

theorem ent3 : Ent Tryd.prog 3 := ⟨_, Tryd.func3, by kernel_rfl, by kernel_rfl⟩

noncomputable def m_law17_UnitinfoBytes (i_p0 : T_Info) (l_p1 : (List Int)) : Option Bool :=
  bnd ((bnd (m_law17_light i_p0) fun r1 => bif !r1 then (some true) else (bnd (m_made_Light l_p1) fun r2 => some (!r2)) : Option Bool)) fun o1 => bif o1 then (bnd (m_law17_awake) fun r3 => some r3) else (bnd (m_made_Roll l_p1) fun r4 => bnd (m_made_Dice_Info r4) fun r5 => bnd (m_law17_odd r5.1) fun r6 => bnd (m_unitinfo_Encode i_p0) fun r7 => bnd (m_ref17_Encode i_p0) fun r8 => bnd ((bnd (m_unitinfo_Valid i_p0) fun r9 => bnd (m_ref17_Valid i_p0) fun r10 => bif !(r9 == r10) then (some true) else (bif (r7.2 != r8.2) then (some true) else (bnd (m_ref01_Same r7.1 r8.1) fun r11 => bif !r11 then (some true) else (bnd (m_unitinfo_Serial i_p0) fun r12 => bnd (m_ref17_Serial i_p0) fun r13 => some (!(r12.toList == r13.toList))))) : Option Bool)) fun o2 => bif o2 then (some false) else (bnd (m_unitinfo_Encode r5.2) fun r14 => bnd (m_ref17_Encode r5.2) fun r15 => bnd ((bnd (m_unitinfo_Valid r5.2) fun r16 => bnd (m_ref17_Valid r5.2) fun r17 => bif !(r16 == r17) then (some true) else (bif (r14.2 != r15.2) then (some true) else (bnd (m_ref01_Same r14.1 r15.1) fun r18 => bif !r18 then (some true) else (bnd (m_unitinfo_Serial r5.2) fun r19 => bnd (m_ref17_Serial r5.2) fun r20 => some (!(r19.toList == r20.toList))))) : Option Bool)) fun o3 => bif o3 then (some false) else (bnd (m_unitinfo_Encode r6.2) fun r21 => bnd (m_ref17_Encode r6.2) fun r22 => bnd ((bnd (m_unitinfo_Valid r6.2) fun r23 => bnd (m_ref17_Valid r6.2) fun r24 => bif !(r23 == r24) then (some true) else (bif (r21.2 != r22.2) then (some true) else (bnd (m_ref01_Same r21.1 r22.1) fun r25 => bif !r25 then (some true) else (bnd (m_unitinfo_Serial r6.2) fun r26 => bnd (m_ref17_Serial r6.2) fun r27 => some (!(r26.toList == r27.toList))))) : Option Bool)) fun o4 => bif o4 then (some false) else (bnd (m_law17_awake) fun r28 => some r28))))

set_option maxHeartbeats 4000000 in
theorem c_law17_UnitinfoBytes {i_p0 : T_Info} {l_p1 : (List Int)} {A1 : Option Addr} {c1 : Nat} {A2 : Option Addr} {c2 : Nat} {A3 : Option Addr} {c3 : Nat} {A4 : Option Addr} {c4 : Nat} {A5 : Option Addr} {c5 : Nat} {r : Bool} (h : m_law17_UnitinfoBytes i_p0 l_p1 = some r) :
    Fun Tryd.prog 3 [.agg (bx_T_Info i_p0 A1 c1 A2 c2 A3 c3 A4 c4).toArray, .slice A5 l_p1.length c5] [.ro (SlL e_Field A1 c1 i_p0.Chassis.Fields), .ro (SlL e_Field A2 c2 i_p0.Board.Fields), .ro (SlL e_Field A3 c3 i_p0.Product.Fields), .ro (SlL eu8 A4 c4 i_p0.Multi), .ro (SlL ei64 A5 c5 l_p1), .ro (SlL ei64 (some ⟨0, 0, none⟩) 3 ([2, 5, 7] : List Int))] (Val (.bool r)) := by
  unfold m_law17_UnitinfoBytes at h
  refine Fun.intro Tryd.func3 rfl rfl rfl fun w R => ?_
  refine St.seq ?_
  refine St.region ?_
  refine St.box rfl rfl fun g1 => ?_
  refine St.p rfl rfl ?_
  refine St.done ?_
  refine St.thenN ?_
  refine St.prune (Γ' := [(1, _), (2, _)]) ⟨rfl, rfl, trivial⟩ (.k (.k (.k (.k (.k (.k (.k .z))))))) ?_
  refine St.seq ?_
  refine St.seq ?_
  obtain ⟨o1, hj1, h⟩ := bnd_e h
  refine St.cutE (fun (e1 : Unit) => [(1, .slice A5 l_p1.length c5), (2, .pointer (some ⟨g1, 0, none⟩)), (19, .bool o1)]) (fun e1 => .res (Box g1 28 (bx_T_Info i_p0 A1 c1 A2 c2 A3 c3 A4 c4)) :: .ro (SlL e_Field A1 c1 i_p0.Chassis.Fields) :: .ro (SlL e_Field A2 c2 i_p0.Board.Fields) :: .ro (SlL e_Field A3 c3 i_p0.Product.Fields) :: .ro (SlL eu8 A4 c4 i_p0.Multi) :: .ro (SlL ei64 A5 c5 l_p1) :: .ro (SlL ei64 (some ⟨0, 0, none⟩) 3 ([2, 5, 7] : List Int)) :: R) ?_ ?_
  · refine St.region ?_
    refine St.loadB 0 rfl rfl (.head _) rfl rfl ?_
    obtain ⟨r1, hr1, hj1⟩ := bnd_e hj1
    refine St.callV (c_law17_light hr1) ent8 rfl rfl rfl rfl ⟨(.tail _ (.head _)), (.tail _ (.tail _ (.head _))), (.tail _ (.tail _ (.tail _ (.head _)))), (.tail _ (.tail _ (.tail _ (.tail _ (.head _))))), trivial⟩ ?_
    refine St.p rfl rfl ?_
    refine St.p rfl rfl ?_
    refine St.gSplit (dj := 15) _ rfl (fun hb1 => ?_) (fun hb1 => ?_)
    · replace hj1 := bif_t hb1 hj1
      refine St.gOff (dj := 15) rfl rfl rfl rfl ?_
      refine St.gOff (dj := 15) rfl rfl rfl rfl ?_
      refine St.gOff (dj := 15) rfl rfl rfl rfl ?_
      refine St.p rfl rfl ?_
      refine St.done ?_
      injection hj1 with hj1
      subst hj1
      refine St.thenN ?_
      exact St.hereE () ⟨rfl, rfl, rfl, trivial⟩ (fun _ w => ((.k (.k (.k (.k (.k (.k (.k .z))))))) : Keep _ _).sat w)
    · replace hj1 := bif_f hb1 hj1
      refine St.gOn (dj := 15) rfl rfl ?_
      refine St.p rfl rfl ?_
      refine St.gOn (dj := 15) rfl rfl ?_
      obtain ⟨r2, hr2, hj1⟩ := bnd_e hj1
      refine St.callV (c_made_Light hr2) ent9 rfl rfl rfl rfl ⟨(.tail _ (.tail _ (.tail _ (.tail _ (.tail _ (.head _)))))), trivial⟩ ?_
      refine St.gOn (dj := 15) rfl rfl ?_
      refine St.p rfl rfl ?_
      refine St.p rfl rfl ?_
      refine St.done ?_
      injection hj1 with hj1
      subst hj1
      refine St.thenN ?_
      exact St.hereE () ⟨rfl, rfl, rfl, trivial⟩ (fun _ w => ((.k (.k (.k (.k (.k (.k (.k .z))))))) : Keep _ _).sat w)
  · rintro e1
    refine St.cond _ rfl (fun hb2 => ?_) (fun hb2 => ?_)
    · replace h := bif_t hb2 h
      refine St.seq ?_
      refine St.region ?_
      obtain ⟨r3, hr3, h⟩ := bnd_e h
      refine St.callV (c_law17_awake hr3) ent10 rfl rfl rfl rfl ⟨(.tail _ (.tail _ (.tail _ (.tail _ (.tail _ (.tail _ (.head _))))))), trivial⟩ ?_
      refine St.p rfl rfl ?_
      refine St.done ?_
      refine St.thenN ?_
      refine St.prune (Γ' := [(4, _)]) ⟨rfl, trivial⟩ (.d (.d (.d (.d (.d (.d (.k .z))))))) ?_
      refine St.ret ?_
      repeat (first | refine St.thenR ?_ | refine St.blkR ?_)
      injection h with h
      subst h
      exact St.finR Tryd.results3 (.tmp rfl .nil) rfl [] ⟨rfl, rfl⟩ (fun _ w => ((.d .z) : Keep _ _).sat w)
    · replace h := bif_f hb2 h
      refine St.skip ?_
      refine St.thenN ?_
      refine St.prune (Γ' := [(1, _), (2, _)]) ⟨rfl, rfl, trivial⟩ (.k (.k (.k (.k (.k (.k (.k .z))))))) ?_
      refine St.seq ?_
      refine St.region ?_
      refine St.p rfl rfl ?_
      obtain ⟨r4, hr4, h⟩ := bnd_e h
      refine St.call (c_made_Roll hr4) ent11 rfl rfl rfl (fun _ w => Sat.dup (G := [.ro (SlL ei64 A5 c5 l_p1)]) rfl ⟨(.tail _ (.tail _ (.tail _ (.tail _ (.tail _ (.head _)))))), trivial⟩ w) ?_
      rintro _ _ ⟨g2, A6, c6, rfl, rfl⟩
      refine St.asrt (F' := .ro (SlL ei64 A6 c6 r4.L) :: .res (Box g2 62 [.slice A6 r4.L.length c6, .int .i64 r4.At]) :: .res (Box g1 28 (bx_T_Info i_p0 A1 c1 A2 c2 A3 c3 A4 c4)) :: .ro (SlL e_Field A1 c1 i_p0.Chassis.Fields) :: .ro (SlL e_Field A2 c2 i_p0.Board.Fields) :: .ro (SlL e_Field A3 c3 i_p0.Product.Fields) :: .ro (SlL eu8 A4 c4 i_p0.Multi) :: .ro (SlL ei64 A5 c5 l_p1) :: .ro (SlL ei64 (some ⟨0, 0, none⟩) 3 ([2, 5, 7] : List Int)) :: R) (fun _ w => w) ?_
      refine St.p rfl rfl ?_
      refine St.done ?_
      refine St.thenN ?_
      refine St.prune (Γ' := [(2, _), (5, _)]) ⟨rfl, rfl, trivial⟩ (.k (.k (.k (.k (.k (.k (.k (.d (.k .z))))))))) ?_
      refine St.seq ?_
      refine St.seq ?_
      refine St.regionX (iL [(.fl, 0), (.fl, 1), (.fl, 3), (.fl, 7), (.ef, 2), (.ef, 4), (.ef, 5), (.fl, 6)] .nil) (.ro (SlL ei64 A6 c6 r4.L) :: .res (Box g1 28 (bx_T_Info i_p0 A1 c1 A2 c2 A3 c3 A4 c4)) :: .ro (SlL e_Field A1 c1 i_p0.Chassis.Fields) :: .ro (SlL e_Field A2 c2 i_p0.Board.Fields) :: .ro (SlL e_Field A3 c3 i_p0.Product.Fields) :: .ro (SlL eu8 A4 c4 i_p0.Multi) :: .ro (SlL ei64 (some ⟨0, 0, none⟩) 3 ([2, 5, 7] : List Int)) :: R) mixed (by kernel_rfl) (fun _ w => ((.k (.d (.k (.k (.k (.k (.k (.k .z)))))))) : Keep _ _).sat w) ?_
      refine St.xfl (fun _ h => h) (Rd.loadB 0 rfl (.tail _ (.head _)) rfl rfl) rfl ?_
      refine St.xfl (fun _ h => h) (Rd.p rfl) rfl ?_
      refine St.xfl (fun _ h => h) (Rd.p rfl) rfl ?_
      refine St.xfl (fun _ h => h) (Rd.p rfl) rfl ?_
      refine St.xef ?_
      obtain ⟨r5, hr5, h⟩ := bnd_e h
      refine St.call (c_made_Dice_Info hr5) ent12 rfl rfl rfl (fun _ w => Sat.dup (G := [.ro (SlL ei64 A6 c6 r4.L)]) rfl ⟨(.tail _ (.head _)), trivial⟩ (w.front (.s .z))) ?_
      rintro _ _ ⟨A7, c7, A8, c8, A9, c9, A10, c10, A11, c11, rfl, rfl⟩
      refine St.asrt (F' := .ro (SlL ei64 A7 c7 r5.1.L) :: .ro (SlL e_Field A8 c8 r5.2.Chassis.Fields) :: .ro (SlL e_Field A9 c9 r5.2.Board.Fields) :: .ro (SlL e_Field A10 c10 r5.2.Product.Fields) :: .ro (SlL eu8 A11 c11 r5.2.Multi) :: .res (Box g2 62 [.slice A7 r5.1.L.length c7, .int .i64 r5.1.At]) :: .ro (SlL ei64 A6 c6 r4.L) :: .res (Box g1 28 (bx_T_Info i_p0 A1 c1 A2 c2 A3 c3 A4 c4)) :: .ro (SlL e_Field A1 c1 i_p0.Chassis.Fields) :: .ro (SlL e_Field A2 c2 i_p0.Board.Fields) :: .ro (SlL e_Field A3 c3 i_p0.Product.Fields) :: .ro (SlL eu8 A4 c4 i_p0.Multi) :: .ro (SlL ei64 (some ⟨0, 0, none⟩) 3 ([2, 5, 7] : List Int)) :: R) (fun _ w => w) ?_
      refine St.xk (fun _ w => ((.d (.d (.d (.d (.d (.d (.k (.k (.k (.k (.k (.k (.k .z))))))))))))) : Keep _ _).sat w) ?_
      refine St.xef ?_
      obtain ⟨r6, hr6, h⟩ := bnd_e h
      refine St.call (c_law17_odd hr6) ent13 rfl rfl rfl (fun _ w => Sat.dup (G := [.ro (SlL ei64 A7 c7 r5.1.L)]) rfl ⟨(.tail _ (.head _)), trivial⟩ (w.front (.s (.s (.s (.s (.s .z))))))) ?_
      rintro _ _ ⟨A12, c12, A13, c13, A14, c14, A15, c15, A16, c16, rfl, rfl⟩
      refine St.asrt (F' := .ro (SlL ei64 A12 c12 r6.1.L) :: .ro (SlL e_Field A13 c13 r6.2.Chassis.Fields) :: .ro (SlL e_Field A14 c14 r6.2.Board.Fields) :: .ro (SlL e_Field A15 c15 r6.2.Product.Fields) :: .ro (SlL eu8 A16 c16 r6.2.Multi) :: .res (Box g2 62 [.slice A12 r6.1.L.length c12, .int .i64 r6.1.At]) :: .ro (SlL ei64 A7 c7 r5.1.L) :: .ro (SlL e_Field A8 c8 r5.2.Chassis.Fields) :: .ro (SlL e_Field A9 c9 r5.2.Board.Fields) :: .ro (SlL e_Field A10 c10 r5.2.Product.Fields) :: .ro (SlL eu8 A11 c11 r5.2.Multi) :: .ro (SlL ei64 A6 c6 r4.L) :: .res (Box g1 28 (bx_T_Info i_p0 A1 c1 A2 c2 A3 c3 A4 c4)) :: .ro (SlL e_Field A1 c1 i_p0.Chassis.Fields) :: .ro (SlL e_Field A2 c2 i_p0.Board.Fields) :: .ro (SlL e_Field A3 c3 i_p0.Product.Fields) :: .ro (SlL eu8 A4 c4 i_p0.Multi) :: .ro (SlL ei64 (some ⟨0, 0, none⟩) 3 ([2, 5, 7] : List Int)) :: R) (fun _ w => w) ?_
      refine St.xk (fun _ w => ((.d (.d (.d (.d (.d (.d (.d (.d (.d (.d (.d (.k (.k (.k (.k (.k (.k (.k .z)))))))))))))))))) : Keep _ _).sat w) ?_
      refine St.xef ?_
      refine St.buildSlice rfl rfl rfl rfl rfl rfl rfl rfl fun g3 => ?_
      refine St.xk (fun _ w => ((.d (.d (.d (.d (.d (.d (.d (.d (.d (.d (.d (.d (.k (.k (.k (.k (.k (.k (.k .z))))))))))))))))))) : Keep _ _).sat w) ?_
      refine St.xfl (fun _ h => h) (Rd.p rfl) rfl ?_
      refine St.xdone ?_
      refine St.thenN ?_
      refine St.prune (Γ' := [(28, _), (29, _), (30, _)]) ⟨rfl, rfl, rfl, trivial⟩ (.k (.d (.k (.k (.k (.k (.d (.d (.k (.k (.k (.k (.d (.d (.k (.k (.k (.k (.k .z))))))))))))))))))) ?_
      refine St.block ?_
      refine St.rounds 9 ?_
      refine St.round ?_
      refine St.seq ?_
      refine St.region ?_
      refine St.p rfl rfl ?_
      refine St.done ?_
      refine St.thenN ?_
      refine St.seq ?_
      refine St.condT rfl ?_
      refine St.skip ?_
      refine St.thenN ?_
      refine St.prune (Γ' := [(28, _), (29, _), (30, _)]) ⟨rfl, rfl, rfl, trivial⟩ (.k (.k (.k (.k (.k (.k (.k (.k (.k (.k (.k (.k (.k (.k .z)))))))))))))) ?_
      refine St.seq ?_
      refine St.block ?_
      refine St.seq ?_
      refine St.region ?_
      refine St.ixB 0 rfl rfl rfl rfl rfl rfl rfl rfl rfl rfl ?_
      refine St.loadB 0 rfl rfl (.head _) rfl rfl ?_
      refine St.alloc rfl rfl fun g4 => ?_
      refine St.store 0 rfl rfl rfl rfl rfl rfl .z rfl ?_
      refine St.done ?_
      refine St.thenN ?_
      refine St.prune (Γ' := [(7, _), (28, _), (29, _), (30, _)]) ⟨rfl, rfl, rfl, rfl, trivial⟩ (.k (.k (.k (.k (.k (.k (.k (.k (.k (.k (.k (.k (.k (.k (.k .z))))))))))))))) ?_
      refine St.seq ?_
      refine St.region ?_
      refine St.loadB 0 rfl rfl (.head _) rfl rfl ?_
      obtain ⟨r7, hr7, h⟩ := bnd_e h
      refine St.call (c_unitinfo_Encode hr7) ent14 rfl rfl rfl (fun _ w => Sat.dup (G := [.ro (SlL e_Field A1 c1 i_p0.Chassis.Fields), .ro (SlL e_Field A2 c2 i_p0.Board.Fields), .ro (SlL e_Field A3 c3 i_p0.Product.Fields), .ro (SlL eu8 A4 c4 i_p0.Multi), .ro (SlL ei64 (some ⟨0, 0, none⟩) 3 ([2, 5, 7] : List Int))]) rfl ⟨(.tail _ (.tail _ (.tail _ (.tail _ (.tail _ (.tail _ (.tail _ (.tail _ (.tail _ (.tail _ (.head _))))))))))), (.tail _ (.tail _ (.tail _ (.tail _ (.tail _ (.tail _ (.tail _ (.tail _ (.tail _ (.tail _ (.tail _ (.head _)))))))))))), (.tail _ (.tail _ (.tail _ (.tail _ (.tail _ (.tail _ (.tail _ (.tail _ (.tail _ (.tail _ (.tail _ (.tail _ (.head _))))))))))))), (.tail _ (.tail _ (.tail _ (.tail _ (.tail _ (.tail _ (.tail _ (.tail _ (.tail _ (.tail _ (.tail _ (.tail _ (.tail _ (.head _)))))))))))))), (.tail _ (.tail _ (.tail _ (.tail _ (.tail _ (.tail _ (.tail _ (.tail _ (.tail _ (.tail _ (.tail _ (.tail _ (.tail _ (.tail _ (.head _))))))))))))))), trivial⟩ w) ?_
      rintro _ _ ⟨A17, c17, rfl, rfl⟩
      refine St.asrt (F' := .res (OwnL eu8 5 A17 c17 r7.1) :: .res (Box g4 28 (bx_T_Info i_p0 A1 c1 A2 c2 A3 c3 A4 c4)) :: .res (Box g3 28 (.bool i_p0.Chassis.Present :: .int .u8 i_p0.Chassis.Code :: .int .u32 i_p0.Chassis.Minutes :: .slice A1 i_p0.Chassis.Fields.length c1 :: .bool i_p0.Board.Present :: .int .u8 i_p0.Board.Code :: .int .u32 i_p0.Board.Minutes :: .slice A2 i_p0.Board.Fields.length c2 :: .bool i_p0.Product.Present :: .int .u8 i_p0.Product.Code :: .int .u32 i_p0.Product.Minutes :: .slice A3 i_p0.Product.Fields.length c3 :: .slice A4 i_p0.Multi.length c4 :: .bool r5.2.Chassis.Present :: .int .u8 r5.2.Chassis.Code :: .int .u32 r5.2.Chassis.Minutes :: .slice A8 r5.2.Chassis.Fields.length c8 :: .bool r5.2.Board.Present :: .int .u8 r5.2.Board.Code :: .int .u32 r5.2.Board.Minutes :: .slice A9 r5.2.Board.Fields.length c9 :: .bool r5.2.Product.Present :: .int .u8 r5.2.Product.Code :: .int .u32 r5.2.Product.Minutes :: .slice A10 r5.2.Product.Fields.length c10 :: .slice A11 r5.2.Multi.length c11 :: .bool r6.2.Chassis.Present :: .int .u8 r6.2.Chassis.Code :: .int .u32 r6.2.Chassis.Minutes :: .slice A13 r6.2.Chassis.Fields.length c13 :: .bool r6.2.Board.Present :: .int .u8 r6.2.Board.Code :: .int .u32 r6.2.Board.Minutes :: .slice A14 r6.2.Board.Fields.length c14 :: .bool r6.2.Product.Present :: .int .u8 r6.2.Product.Code :: .int .u32 r6.2.Product.Minutes :: .slice A15 r6.2.Product.Fields.length c15 :: .slice A16 r6.2.Multi.length c16 :: [])) :: .ro (SlL e_Field A13 c13 r6.2.Chassis.Fields) :: .ro (SlL e_Field A14 c14 r6.2.Board.Fields) :: .ro (SlL e_Field A15 c15 r6.2.Product.Fields) :: .ro (SlL eu8 A16 c16 r6.2.Multi) :: .ro (SlL e_Field A8 c8 r5.2.Chassis.Fields) :: .ro (SlL e_Field A9 c9 r5.2.Board.Fields) :: .ro (SlL e_Field A10 c10 r5.2.Product.Fields) :: .ro (SlL eu8 A11 c11 r5.2.Multi) :: .ro (SlL e_Field A1 c1 i_p0.Chassis.Fields) :: .ro (SlL e_Field A2 c2 i_p0.Board.Fields) :: .ro (SlL e_Field A3 c3 i_p0.Product.Fields) :: .ro (SlL eu8 A4 c4 i_p0.Multi) :: .ro (SlL ei64 (some ⟨0, 0, none⟩) 3 ([2, 5, 7] : List Int)) :: R) (fun _ w => w) ?_
      iterate 5 refine St.p rfl rfl ?_
      refine St.done ?_
      refine St.thenN ?_
      refine St.prune (Γ' := [(7, _), (8, _), (9, _), (28, _), (29, _), (30, _)]) ⟨rfl, rfl, rfl, rfl, rfl, rfl, trivial⟩ (.k (.k (.k (.k (.k (.k (.k (.k (.k (.k (.k (.k (.k (.k (.k (.k .z)))))))))))))))) ?_
      refine St.seq ?_
      refine St.region ?_
      refine St.loadB 0 rfl rfl (.tail _ (.head _)) rfl rfl ?_
      obtain ⟨r8, hr8, h⟩ := bnd_e h
      refine St.call (c_ref17_Encode hr8) ent15 rfl rfl rfl (fun _ w => Sat.dup (G := [.ro (SlL e_Field A1 c1 i_p0.Chassis.Fields), .ro (SlL e_Field A2 c2 i_p0.Board.Fields), .ro (SlL e_Field A3 c3 i_p0.Product.Fields), .ro (SlL eu8 A4 c4 i_p0.Multi)]) rfl ⟨(.tail _ (.tail _ (.tail _ (.tail _ (.tail _ (.tail _ (.tail _ (.tail _ (.tail _ (.tail _ (.tail _ (.head _)))))))))))), (.tail _ (.tail _ (.tail _ (.tail _ (.tail _ (.tail _ (.tail _ (.tail _ (.tail _ (.tail _ (.tail _ (.tail _ (.head _))))))))))))), (.tail _ (.tail _ (.tail _ (.tail _ (.tail _ (.tail _ (.tail _ (.tail _ (.tail _ (.tail _ (.tail _ (.tail _ (.tail _ (.head _)))))))))))))), (.tail _ (.tail _ (.tail _ (.tail _ (.tail _ (.tail _ (.tail _ (.tail _ (.tail _ (.tail _ (.tail _ (.tail _ (.tail _ (.tail _ (.head _))))))))))))))), trivial⟩ w) ?_
      rintro _ _ ⟨A18, c18, rfl, rfl⟩
      refine St.asrt (F' := .res (OwnL eu8 5 A18 c18 r8.1) :: .res (OwnL eu8 5 A17 c17 r7.1) :: .res (Box g4 28 (bx_T_Info i_p0 A1 c1 A2 c2 A3 c3 A4 c4)) :: .res (Box g3 28 (.bool i_p0.Chassis.Present :: .int .u8 i_p0.Chassis.Code :: .int .u32 i_p0.Chassis.Minutes :: .slice A1 i_p0.Chassis.Fields.length c1 :: .bool i_p0.Board.Present :: .int .u8 i_p0.Board.Code :: .int .u32 i_p0.Board.Minutes :: .slice A2 i_p0.Board.Fields.length c2 :: .bool i_p0.Product.Present :: .int .u8 i_p0.Product.Code :: .int .u32 i_p0.Product.Minutes :: .slice A3 i_p0.Product.Fields.length c3 :: .slice A4 i_p0.Multi.length c4 :: .bool r5.2.Chassis.Present :: .int .u8 r5.2.Chassis.Code :: .int .u32 r5.2.Chassis.Minutes :: .slice A8 r5.2.Chassis.Fields.length c8 :: .bool r5.2.Board.Present :: .int .u8 r5.2.Board.Code :: .int .u32 r5.2.Board.Minutes :: .slice A9 r5.2.Board.Fields.length c9 :: .bool r5.2.Product.Present :: .int .u8 r5.2.Product.Code :: .int .u32 r5.2.Product.Minutes :: .slice A10 r5.2.Product.Fields.length c10 :: .slice A11 r5.2.Multi.length c11 :: .bool r6.2.Chassis.Present :: .int .u8 r6.2.Chassis.Code :: .int .u32 r6.2.Chassis.Minutes :: .slice A13 r6.2.Chassis.Fields.length c13 :: .bool r6.2.Board.Present :: .int .u8 r6.2.Board.Code :: .int .u32 r6.2.Board.Minutes :: .slice A14 r6.2.Board.Fields.length c14 :: .bool r6.2.Product.Present :: .int .u8 r6.2.Product.Code :: .int .u32 r6.2.Product.Minutes :: .slice A15 r6.2.Product.Fields.length c15 :: .slice A16 r6.2.Multi.length c16 :: [])) :: .ro (SlL e_Field A13 c13 r6.2.Chassis.Fields) :: .ro (SlL e_Field A14 c14 r6.2.Board.Fields) :: .ro (SlL e_Field A15 c15 r6.2.Product.Fields) :: .ro (SlL eu8 A16 c16 r6.2.Multi) :: .ro (SlL e_Field A8 c8 r5.2.Chassis.Fields) :: .ro (SlL e_Field A9 c9 r5.2.Board.Fields) :: .ro (SlL e_Field A10 c10 r5.2.Product.Fields) :: .ro (SlL eu8 A11 c11 r5.2.Multi) :: .ro (SlL e_Field A1 c1 i_p0.Chassis.Fields) :: .ro (SlL e_Field A2 c2 i_p0.Board.Fields) :: .ro (SlL e_Field A3 c3 i_p0.Product.Fields) :: .ro (SlL eu8 A4 c4 i_p0.Multi) :: .ro (SlL ei64 (some ⟨0, 0, none⟩) 3 ([2, 5, 7] : List Int)) :: R) (fun _ w => w) ?_
      iterate 5 refine St.p rfl rfl ?_
      refine St.done ?_
      refine St.thenN ?_
      refine St.prune (Γ' := [(7, _), (8, _), (9, _), (10, _), (11, _), (28, _), (29, _), (30, _)]) ⟨rfl, rfl, rfl, rfl, rfl, rfl, rfl, rfl, trivial⟩ (.k (.k (.k (.k (.k (.k (.k (.k (.k (.k (.k (.k (.k (.k (.k (.k (.k .z))))))))))))))))) ?_
      refine St.seq ?_
      obtain ⟨o2, hj2, h⟩ := bnd_e h
      refine St.cutE (fun (e2 : Unit) => [(28, .slice (some ⟨g3, 0, none⟩) 3 3), (29, .int .i64 ((3 : Nat) : Int)), (30, .int .i64 0), (66, .bool o2)]) (fun e2 => .res (Box g3 28 (.bool i_p0.Chassis.Present :: .int .u8 i_p0.Chassis.Code :: .int .u32 i_p0.Chassis.Minutes :: .slice A1 i_p0.Chassis.Fields.length c1 :: .bool i_p0.Board.Present :: .int .u8 i_p0.Board.Code :: .int .u32 i_p0.Board.Minutes :: .slice A2 i_p0.Board.Fields.length c2 :: .bool i_p0.Product.Present :: .int .u8 i_p0.Product.Code :: .int .u32 i_p0.Product.Minutes :: .slice A3 i_p0.Product.Fields.length c3 :: .slice A4 i_p0.Multi.length c4 :: .bool r5.2.Chassis.Present :: .int .u8 r5.2.Chassis.Code :: .int .u32 r5.2.Chassis.Minutes :: .slice A8 r5.2.Chassis.Fields.length c8 :: .bool r5.2.Board.Present :: .int .u8 r5.2.Board.Code :: .int .u32 r5.2.Board.Minutes :: .slice A9 r5.2.Board.Fields.length c9 :: .bool r5.2.Product.Present :: .int .u8 r5.2.Product.Code :: .int .u32 r5.2.Product.Minutes :: .slice A10 r5.2.Product.Fields.length c10 :: .slice A11 r5.2.Multi.length c11 :: .bool r6.2.Chassis.Present :: .int .u8 r6.2.Chassis.Code :: .int .u32 r6.2.Chassis.Minutes :: .slice A13 r6.2.Chassis.Fields.length c13 :: .bool r6.2.Board.Present :: .int .u8 r6.2.Board.Code :: .int .u32 r6.2.Board.Minutes :: .slice A14 r6.2.Board.Fields.length c14 :: .bool r6.2.Product.Present :: .int .u8 r6.2.Product.Code :: .int .u32 r6.2.Product.Minutes :: .slice A15 r6.2.Product.Fields.length c15 :: .slice A16 r6.2.Multi.length c16 :: [])) :: .ro (SlL e_Field A13 c13 r6.2.Chassis.Fields) :: .ro (SlL e_Field A14 c14 r6.2.Board.Fields) :: .ro (SlL e_Field A15 c15 r6.2.Product.Fields) :: .ro (SlL eu8 A16 c16 r6.2.Multi) :: .ro (SlL e_Field A8 c8 r5.2.Chassis.Fields) :: .ro (SlL e_Field A9 c9 r5.2.Board.Fields) :: .ro (SlL e_Field A10 c10 r5.2.Product.Fields) :: .ro (SlL eu8 A11 c11 r5.2.Multi) :: .ro (SlL e_Field A1 c1 i_p0.Chassis.Fields) :: .ro (SlL e_Field A2 c2 i_p0.Board.Fields) :: .ro (SlL e_Field A3 c3 i_p0.Product.Fields) :: .ro (SlL eu8 A4 c4 i_p0.Multi) :: .ro (SlL ei64 (some ⟨0, 0, none⟩) 3 ([2, 5, 7] : List Int)) :: R) ?_ ?_
      · refine St.regionF mixed (by kernel_rfl) ?_
        refine St.loadB 0 rfl rfl (.tail _ (.tail _ (.head _))) rfl rfl ?_
        obtain ⟨r9, hr9, hj2⟩ := bnd_e hj2
        refine St.callV (c_unitinfo_Valid hr9) ent16 rfl rfl rfl rfl ⟨(.tail _ (.tail _ (.tail _ (.tail _ (.tail _ (.tail _ (.tail _ (.tail _ (.tail _ (.tail _ (.tail _ (.tail _ (.head _))))))))))))), (.tail _ (.tail _ (.tail _ (.tail _ (.tail _ (.tail _ (.tail _ (.tail _ (.tail _ (.tail _ (.tail _ (.tail _ (.tail _ (.head _)))))))))))))), (.tail _ (.tail _ (.tail _ (.tail _ (.tail _ (.tail _ (.tail _ (.tail _ (.tail _ (.tail _ (.tail _ (.tail _ (.tail _ (.tail _ (.head _))))))))))))))), (.tail _ (.tail _ (.tail _ (.tail _ (.tail _ (.tail _ (.tail _ (.tail _ (.tail _ (.tail _ (.tail _ (.tail _ (.tail _ (.tail _ (.tail _ (.head _)))))))))))))))), (.tail _ (.tail _ (.tail _ (.tail _ (.tail _ (.tail _ (.tail _ (.tail _ (.tail _ (.tail _ (.tail _ (.tail _ (.tail _ (.tail _ (.tail _ (.tail _ (.head _))))))))))))))))), trivial⟩ ?_
        refine St.loadB 0 rfl rfl (.tail _ (.tail _ (.head _))) rfl rfl ?_
        obtain ⟨r10, hr10, hj2⟩ := bnd_e hj2
        refine St.callV (c_ref17_Valid hr10) ent17 rfl rfl rfl rfl ⟨(.tail _ (.tail _ (.tail _ (.tail _ (.tail _ (.tail _ (.tail _ (.tail _ (.tail _ (.tail _ (.tail _ (.tail _ (.head _))))))))))))), (.tail _ (.tail _ (.tail _ (.tail _ (.tail _ (.tail _ (.tail _ (.tail _ (.tail _ (.tail _ (.tail _ (.tail _ (.tail _ (.head _)))))))))))))), (.tail _ (.tail _ (.tail _ (.tail _ (.tail _ (.tail _ (.tail _ (.tail _ (.tail _ (.tail _ (.tail _ (.tail _ (.tail _ (.tail _ (.head _))))))))))))))), (.tail _ (.tail _ (.tail _ (.tail _ (.tail _ (.tail _ (.tail _ (.tail _ (.tail _ (.tail _ (.tail _ (.tail _ (.tail _ (.tail _ (.tail _ (.head _)))))))))))))))), trivial⟩ ?_
        refine St.p rfl rfl ?_
        refine St.p rfl rfl ?_
        refine St.gSplit (dj := 49) _ rfl (fun hb3 => ?_) (fun hb3 => ?_)
        · replace hj2 := bif_t hb3 hj2
          refine St.gOff (dj := 49) rfl rfl rfl rfl ?_
          refine St.gOff (dj := 49) rfl rfl rfl rfl ?_
          refine St.gOff (dj := 49) rfl rfl rfl rfl ?_
          refine St.p rfl rfl ?_
          refine St.p rfl rfl ?_
          refine St.gOff (dj := 54) rfl rfl rfl rfl ?_
          refine St.gOff (dj := 54) rfl rfl rfl rfl ?_
          refine St.gOff (dj := 54) rfl rfl rfl rfl ?_
          refine St.gOff (dj := 54) rfl rfl rfl rfl ?_
          refine St.p rfl rfl ?_
          refine St.p rfl rfl ?_
          refine St.gOff (dj := 60) rfl rfl rfl rfl ?_
          refine St.gOff (dj := 60) rfl rfl rfl rfl ?_
          refine St.gOff (dj := 60) rfl rfl rfl rfl ?_
          refine St.gOff (dj := 60) rfl rfl rfl rfl ?_
          refine St.gOff (dj := 60) rfl rfl rfl rfl ?_
          refine St.p rfl rfl ?_
          refine St.doneQ ?_
          injection hj2 with hj2
          subst hj2
          refine St.thenN ?_
          exact St.hereE () ⟨rfl, rfl, rfl, rfl, trivial⟩ (fun _ w => ((.d (.d (.d (.k (.k (.k (.k (.k (.k (.k (.k (.k (.k (.k (.k (.k (.k .z))))))))))))))))) : Keep _ _).sat w)
        · replace hj2 := bif_f hb3 hj2
          refine St.gOn (dj := 49) rfl rfl ?_
          refine St.p rfl rfl ?_
          refine St.gOn (dj := 49) rfl rfl ?_
          refine St.p rfl rfl ?_
          refine St.gOn (dj := 49) rfl rfl ?_
          iterate 3 refine St.p rfl rfl ?_
          refine St.gSplit (dj := 54) _ rfl (fun hb4 => ?_) (fun hb4 => ?_)
          · replace hj2 := bif_t hb4 hj2
            refine St.gOff (dj := 54) rfl rfl rfl rfl ?_
            refine St.gOff (dj := 54) rfl rfl rfl rfl ?_
            refine St.gOff (dj := 54) rfl rfl rfl rfl ?_
            refine St.gOff (dj := 54) rfl rfl rfl rfl ?_
            refine St.p rfl rfl ?_
            refine St.p rfl rfl ?_
            refine St.gOff (dj := 60) rfl rfl rfl rfl ?_
            refine St.gOff (dj := 60) rfl rfl rfl rfl ?_
            refine St.gOff (dj := 60) rfl rfl rfl rfl ?_
            refine St.gOff (dj := 60) rfl rfl rfl rfl ?_
            refine St.gOff (dj := 60) rfl rfl rfl rfl ?_
            refine St.p rfl rfl ?_
            refine St.doneQ ?_
            injection hj2 with hj2
            subst hj2
            refine St.thenN ?_
            exact St.hereE () ⟨rfl, rfl, rfl, rfl, trivial⟩ (fun _ w => ((.d (.d (.d (.k (.k (.k (.k (.k (.k (.k (.k (.k (.k (.k (.k (.k (.k .z))))))))))))))))) : Keep _ _).sat w)
          · replace hj2 := bif_f hb4 hj2
            refine St.gOn (dj := 54) rfl rfl ?_
            refine St.p rfl rfl ?_
            refine St.gOn (dj := 54) rfl rfl ?_
            refine St.p rfl rfl ?_
            refine St.gOn (dj := 54) rfl rfl ?_
            refine St.asrt (fun _ w => (w.front (.s .z)).meltL) ?_
            refine St.asrt (fun _ w => (w.front (.s .z)).meltL) ?_
            obtain ⟨r11, hr11, hj2⟩ := bnd_e hj2
            refine St.callV (c_ref01_Same hr11) ent18 rfl rfl rfl rfl ⟨(.tail _ (.head _)), (.head _), trivial⟩ ?_
            refine St.gOn (dj := 54) rfl rfl ?_
            iterate 3 refine St.p rfl rfl ?_
            refine St.gSplit (dj := 60) _ rfl (fun hb5 => ?_) (fun hb5 => ?_)
            · replace hj2 := bif_t hb5 hj2
              refine St.gOff (dj := 60) rfl rfl rfl rfl ?_
              refine St.gOff (dj := 60) rfl rfl rfl rfl ?_
              refine St.gOff (dj := 60) rfl rfl rfl rfl ?_
              refine St.gOff (dj := 60) rfl rfl rfl rfl ?_
              refine St.gOff (dj := 60) rfl rfl rfl rfl ?_
              refine St.p rfl rfl ?_
              refine St.doneQ ?_
              injection hj2 with hj2
              subst hj2
              refine St.thenN ?_
              exact St.hereE () ⟨rfl, rfl, rfl, rfl, trivial⟩ (fun _ w => ((.d (.d (.d (.k (.k (.k (.k (.k (.k (.k (.k (.k (.k (.k (.k (.k (.k .z))))))))))))))))) : Keep _ _).sat w)
            · replace hj2 := bif_f hb5 hj2
              refine St.gOn (dj := 60) rfl rfl ?_
              refine St.loadB 0 rfl rfl (.tail _ (.tail _ (.head _))) rfl rfl ?_
              refine St.gOn (dj := 60) rfl rfl ?_
              obtain ⟨r12, hr12, hj2⟩ := bnd_e hj2
              refine St.callV (c_unitinfo_Serial hr12) ent19 rfl rfl rfl rfl ⟨(.tail _ (.tail _ (.tail _ (.tail _ (.tail _ (.tail _ (.tail _ (.tail _ (.tail _ (.tail _ (.tail _ (.tail _ (.head _))))))))))))), (.tail _ (.tail _ (.tail _ (.tail _ (.tail _ (.tail _ (.tail _ (.tail _ (.tail _ (.tail _ (.tail _ (.tail _ (.tail _ (.head _)))))))))))))), (.tail _ (.tail _ (.tail _ (.tail _ (.tail _ (.tail _ (.tail _ (.tail _ (.tail _ (.tail _ (.tail _ (.tail _ (.tail _ (.tail _ (.head _))))))))))))))), (.tail _ (.tail _ (.tail _ (.tail _ (.tail _ (.tail _ (.tail _ (.tail _ (.tail _ (.tail _ (.tail _ (.tail _ (.tail _ (.tail _ (.tail _ (.head _)))))))))))))))), trivial⟩ ?_
              refine St.gOn (dj := 60) rfl rfl ?_
              refine St.loadB 0 rfl rfl (.tail _ (.tail _ (.head _))) rfl rfl ?_
              refine St.gOn (dj := 60) rfl rfl ?_
              obtain ⟨r13, hr13, hj2⟩ := bnd_e hj2
              refine St.callV (c_ref17_Serial hr13) ent20 rfl rfl rfl rfl ⟨(.tail _ (.tail _ (.tail _ (.tail _ (.tail _ (.tail _ (.tail _ (.tail _ (.tail _ (.tail _ (.tail _ (.tail _ (.head _))))))))))))), (.tail _ (.tail _ (.tail _ (.tail _ (.tail _ (.tail _ (.tail _ (.tail _ (.tail _ (.tail _ (.tail _ (.tail _ (.tail _ (.head _)))))))))))))), (.tail _ (.tail _ (.tail _ (.tail _ (.tail _ (.tail _ (.tail _ (.tail _ (.tail _ (.tail _ (.tail _ (.tail _ (.tail _ (.tail _ (.head _))))))))))))))), (.tail _ (.tail _ (.tail _ (.tail _ (.tail _ (.tail _ (.tail _ (.tail _ (.tail _ (.tail _ (.tail _ (.tail _ (.tail _ (.tail _ (.tail _ (.head _)))))))))))))))), trivial⟩ ?_
              refine St.gOn (dj := 60) rfl rfl ?_
              refine St.p rfl rfl ?_
              refine St.p rfl rfl ?_
              refine St.doneQ ?_
              injection hj2 with hj2
              subst hj2
              refine St.thenN ?_
              exact St.hereE () ⟨rfl, rfl, rfl, rfl, trivial⟩ (fun _ w => ((.d (.d (.d (.k (.k (.k (.k (.k (.k (.k (.k (.k (.k (.k (.k (.k (.k .z))))))))))))))))) : Keep _ _).sat w)
      · rintro e2
        refine St.cond _ rfl (fun hb6 => ?_) (fun hb6 => ?_)
        · replace h := bif_t hb6 h
          refine St.seq ?_
          refine St.region ?_
          refine St.p rfl rfl ?_
          refine St.done ?_
          refine St.thenN ?_
          refine St.prune (Γ' := [(4, _)]) ⟨rfl, trivial⟩ (.d (.d (.d (.d (.d (.d (.d (.d (.d (.d (.d (.d (.d (.k .z)))))))))))))) ?_
          refine St.ret ?_
          repeat (first | refine St.thenR ?_ | refine St.blkR ?_)
          injection h with h
          subst h
          exact St.finR Tryd.results3 (.tmp rfl .nil) rfl [] ⟨rfl, rfl⟩ (fun _ w => ((.d .z) : Keep _ _).sat w)
        · replace h := bif_f hb6 h
          refine St.skip ?_
          refine St.blkN ?_
          refine St.thenN ?_
          refine St.prune (Γ' := [(28, _), (29, _), (30, _)]) ⟨rfl, rfl, rfl, trivial⟩ (.k (.k (.k (.k (.k (.k (.k (.k (.k (.k (.k (.k (.k (.k .z)))))))))))))) ?_
          refine St.region ?_
          refine St.p rfl rfl ?_
          refine St.p rfl rfl ?_
          refine St.done ?_
          refine St.thenN ?_
          refine St.round ?_
          refine St.prune (Γ' := [(28, _), (29, _), (30, _)]) ⟨rfl, rfl, rfl, trivial⟩ (.k (.k (.k (.k (.k (.k (.k (.k (.k (.k (.k (.k (.k (.k .z)))))))))))))) ?_
          refine St.seq ?_
          refine St.region ?_
          refine St.p rfl rfl ?_
          refine St.done ?_
          refine St.thenN ?_
          refine St.seq ?_
          refine St.condT rfl ?_
          refine St.skip ?_
          refine St.thenN ?_
          refine St.prune (Γ' := [(28, _), (29, _), (30, _)]) ⟨rfl, rfl, rfl, trivial⟩ (.k (.k (.k (.k (.k (.k (.k (.k (.k (.k (.k (.k (.k (.k .z)))))))))))))) ?_
          refine St.seq ?_
          refine St.block ?_
          refine St.seq ?_
          refine St.region ?_
          refine St.ixB 13 rfl rfl rfl rfl rfl rfl rfl rfl rfl rfl ?_
          refine St.loadB 13 rfl rfl (.head _) rfl rfl ?_
          refine St.alloc rfl rfl fun g5 => ?_
          refine St.store 0 rfl rfl rfl rfl rfl rfl .z rfl ?_
          refine St.done ?_
          refine St.thenN ?_
          refine St.prune (Γ' := [(7, _), (28, _), (29, _), (30, _)]) ⟨rfl, rfl, rfl, rfl, trivial⟩ (.k (.k (.k (.k (.k (.k (.k (.k (.k (.k (.k (.k (.k (.k (.k .z))))))))))))))) ?_
          refine St.seq ?_
          refine St.region ?_
          refine St.loadB 0 rfl rfl (.head _) rfl rfl ?_
          obtain ⟨r14, hr14, h⟩ := bnd_e h
          refine St.call (c_unitinfo_Encode hr14) ent14 rfl rfl rfl (fun _ w => Sat.dup (G := [.ro (SlL e_Field A8 c8 r5.2.Chassis.Fields), .ro (SlL e_Field A9 c9 r5.2.Board.Fields), .ro (SlL e_Field A10 c10 r5.2.Product.Fields), .ro (SlL eu8 A11 c11 r5.2.Multi), .ro (SlL ei64 (some ⟨0, 0, none⟩) 3 ([2, 5, 7] : List Int))]) rfl ⟨(.tail _ (.tail _ (.tail _ (.tail _ (.tail _ (.tail _ (.head _))))))), (.tail _ (.tail _ (.tail _ (.tail _ (.tail _ (.tail _ (.tail _ (.head _)))))))), (.tail _ (.tail _ (.tail _ (.tail _ (.tail _ (.tail _ (.tail _ (.tail _ (.head _))))))))), (.tail _ (.tail _ (.tail _ (.tail _ (.tail _ (.tail _ (.tail _ (.tail _ (.tail _ (.head _)))))))))), (.tail _ (.tail _ (.tail _ (.tail _ (.tail _ (.tail _ (.tail _ (.tail _ (.tail _ (.tail _ (.tail _ (.tail _ (.tail _ (.tail _ (.head _))))))))))))))), trivial⟩ w) ?_
          rintro _ _ ⟨A19, c19, rfl, rfl⟩
          refine St.asrt (F' := .res (OwnL eu8 5 A19 c19 r14.1) :: .res (Box g5 28 (bx_T_Info r5.2 A8 c8 A9 c9 A10 c10 A11 c11)) :: .res (Box g3 28 (.bool i_p0.Chassis.Present :: .int .u8 i_p0.Chassis.Code :: .int .u32 i_p0.Chassis.Minutes :: .slice A1 i_p0.Chassis.Fields.length c1 :: .bool i_p0.Board.Present :: .int .u8 i_p0.Board.Code :: .int .u32 i_p0.Board.Minutes :: .slice A2 i_p0.Board.Fields.length c2 :: .bool i_p0.Product.Present :: .int .u8 i_p0.Product.Code :: .int .u32 i_p0.Product.Minutes :: .slice A3 i_p0.Product.Fields.length c3 :: .slice A4 i_p0.Multi.length c4 :: .bool r5.2.Chassis.Present :: .int .u8 r5.2.Chassis.Code :: .int .u32 r5.2.Chassis.Minutes :: .slice A8 r5.2.Chassis.Fields.length c8 :: .bool r5.2.Board.Present :: .int .u8 r5.2.Board.Code :: .int .u32 r5.2.Board.Minutes :: .slice A9 r5.2.Board.Fields.length c9 :: .bool r5.2.Product.Present :: .int .u8 r5.2.Product.Code :: .int .u32 r5.2.Product.Minutes :: .slice A10 r5.2.Product.Fields.length c10 :: .slice A11 r5.2.Multi.length c11 :: .bool r6.2.Chassis.Present :: .int .u8 r6.2.Chassis.Code :: .int .u32 r6.2.Chassis.Minutes :: .slice A13 r6.2.Chassis.Fields.length c13 :: .bool r6.2.Board.Present :: .int .u8 r6.2.Board.Code :: .int .u32 r6.2.Board.Minutes :: .slice A14 r6.2.Board.Fields.length c14 :: .bool r6.2.Product.Present :: .int .u8 r6.2.Product.Code :: .int .u32 r6.2.Product.Minutes :: .slice A15 r6.2.Product.Fields.length c15 :: .slice A16 r6.2.Multi.length c16 :: [])) :: .ro (SlL e_Field A13 c13 r6.2.Chassis.Fields) :: .ro (SlL e_Field A14 c14 r6.2.Board.Fields) :: .ro (SlL e_Field A15 c15 r6.2.Product.Fields) :: .ro (SlL eu8 A16 c16 r6.2.Multi) :: .ro (SlL e_Field A8 c8 r5.2.Chassis.Fields) :: .ro (SlL e_Field A9 c9 r5.2.Board.Fields) :: .ro (SlL e_Field A10 c10 r5.2.Product.Fields) :: .ro (SlL eu8 A11 c11 r5.2.Multi) :: .ro (SlL e_Field A1 c1 i_p0.Chassis.Fields) :: .ro (SlL e_Field A2 c2 i_p0.Board.Fields) :: .ro (SlL e_Field A3 c3 i_p0.Product.Fields) :: .ro (SlL eu8 A4 c4 i_p0.Multi) :: .ro (SlL ei64 (some ⟨0, 0, none⟩) 3 ([2, 5, 7] : List Int)) :: R) (fun _ w => w) ?_
          iterate 5 refine St.p rfl rfl ?_
          refine St.done ?_
          refine St.thenN ?_
          refine St.prune (Γ' := [(7, _), (8, _), (9, _), (28, _), (29, _), (30, _)]) ⟨rfl, rfl, rfl, rfl, rfl, rfl, trivial⟩ (.k (.k (.k (.k (.k (.k (.k (.k (.k (.k (.k (.k (.k (.k (.k (.k .z)))))))))))))))) ?_
          refine St.seq ?_
          refine St.region ?_
          refine St.loadB 0 rfl rfl (.tail _ (.head _)) rfl rfl ?_
          obtain ⟨r15, hr15, h⟩ := bnd_e h
          refine St.call (c_ref17_Encode hr15) ent15 rfl rfl rfl (fun _ w => Sat.dup (G := [.ro (SlL e_Field A8 c8 r5.2.Chassis.Fields), .ro (SlL e_Field A9 c9 r5.2.Board.Fields), .ro (SlL e_Field A10 c10 r5.2.Product.Fields), .ro (SlL eu8 A11 c11 r5.2.Multi)]) rfl ⟨(.tail _ (.tail _ (.tail _ (.tail _ (.tail _ (.tail _ (.tail _ (.head _)))))))), (.tail _ (.tail _ (.tail _ (.tail _ (.tail _ (.tail _ (.tail _ (.tail _ (.head _))))))))), (.tail _ (.tail _ (.tail _ (.tail _ (.tail _ (.tail _ (.tail _ (.tail _ (.tail _ (.head _)))))))))), (.tail _ (.tail _ (.tail _ (.tail _ (.tail _ (.tail _ (.tail _ (.tail _ (.tail _ (.tail _ (.head _))))))))))), trivial⟩ w) ?_
          rintro _ _ ⟨A20, c20, rfl, rfl⟩
          refine St.asrt (F' := .res (OwnL eu8 5 A20 c20 r15.1) :: .res (OwnL eu8 5 A19 c19 r14.1) :: .res (Box g5 28 (bx_T_Info r5.2 A8 c8 A9 c9 A10 c10 A11 c11)) :: .res (Box g3 28 (.bool i_p0.Chassis.Present :: .int .u8 i_p0.Chassis.Code :: .int .u32 i_p0.Chassis.Minutes :: .slice A1 i_p0.Chassis.Fields.length c1 :: .bool i_p0.Board.Present :: .int .u8 i_p0.Board.Code :: .int .u32 i_p0.Board.Minutes :: .slice A2 i_p0.Board.Fields.length c2 :: .bool i_p0.Product.Present :: .int .u8 i_p0.Product.Code :: .int .u32 i_p0.Product.Minutes :: .slice A3 i_p0.Product.Fields.length c3 :: .slice A4 i_p0.Multi.length c4 :: .bool r5.2.Chassis.Present :: .int .u8 r5.2.Chassis.Code :: .int .u32 r5.2.Chassis.Minutes :: .slice A8 r5.2.Chassis.Fields.length c8 :: .bool r5.2.Board.Present :: .int .u8 r5.2.Board.Code :: .int .u32 r5.2.Board.Minutes :: .slice A9 r5.2.Board.Fields.length c9 :: .bool r5.2.Product.Present :: .int .u8 r5.2.Product.Code :: .int .u32 r5.2.Product.Minutes :: .slice A10 r5.2.Product.Fields.length c10 :: .slice A11 r5.2.Multi.length c11 :: .bool r6.2.Chassis.Present :: .int .u8 r6.2.Chassis.Code :: .int .u32 r6.2.Chassis.Minutes :: .slice A13 r6.2.Chassis.Fields.length c13 :: .bool r6.2.Board.Present :: .int .u8 r6.2.Board.Code :: .int .u32 r6.2.Board.Minutes :: .slice A14 r6.2.Board.Fields.length c14 :: .bool r6.2.Product.Present :: .int .u8 r6.2.Product.Code :: .int .u32 r6.2.Product.Minutes :: .slice A15 r6.2.Product.Fields.length c15 :: .slice A16 r6.2.Multi.length c16 :: [])) :: .ro (SlL e_Field A13 c13 r6.2.Chassis.Fields) :: .ro (SlL e_Field A14 c14 r6.2.Board.Fields) :: .ro (SlL e_Field A15 c15 r6.2.Product.Fields) :: .ro (SlL eu8 A16 c16 r6.2.Multi) :: .ro (SlL e_Field A8 c8 r5.2.Chassis.Fields) :: .ro (SlL e_Field A9 c9 r5.2.Board.Fields) :: .ro (SlL e_Field A10 c10 r5.2.Product.Fields) :: .ro (SlL eu8 A11 c11 r5.2.Multi) :: .ro (SlL e_Field A1 c1 i_p0.Chassis.Fields) :: .ro (SlL e_Field A2 c2 i_p0.Board.Fields) :: .ro (SlL e_Field A3 c3 i_p0.Product.Fields) :: .ro (SlL eu8 A4 c4 i_p0.Multi) :: .ro (SlL ei64 (some ⟨0, 0, none⟩) 3 ([2, 5, 7] : List Int)) :: R) (fun _ w => w) ?_
          iterate 5 refine St.p rfl rfl ?_
          refine St.done ?_
          refine St.thenN ?_
          refine St.prune (Γ' := [(7, _), (8, _), (9, _), (10, _), (11, _), (28, _), (29, _), (30, _)]) ⟨rfl, rfl, rfl, rfl, rfl, rfl, rfl, rfl, trivial⟩ (.k (.k (.k (.k (.k (.k (.k (.k (.k (.k (.k (.k (.k (.k (.k (.k (.k .z))))))))))))))))) ?_
          refine St.seq ?_
          obtain ⟨o3, hj3, h⟩ := bnd_e h
          refine St.cutE (fun (e3 : Unit) => [(28, .slice (some ⟨g3, 0, none⟩) 3 3), (29, .int .i64 ((3 : Nat) : Int)), (30, .int .i64 1), (66, .bool o3)]) (fun e3 => .res (Box g3 28 (.bool i_p0.Chassis.Present :: .int .u8 i_p0.Chassis.Code :: .int .u32 i_p0.Chassis.Minutes :: .slice A1 i_p0.Chassis.Fields.length c1 :: .bool i_p0.Board.Present :: .int .u8 i_p0.Board.Code :: .int .u32 i_p0.Board.Minutes :: .slice A2 i_p0.Board.Fields.length c2 :: .bool i_p0.Product.Present :: .int .u8 i_p0.Product.Code :: .int .u32 i_p0.Product.Minutes :: .slice A3 i_p0.Product.Fields.length c3 :: .slice A4 i_p0.Multi.length c4 :: .bool r5.2.Chassis.Present :: .int .u8 r5.2.Chassis.Code :: .int .u32 r5.2.Chassis.Minutes :: .slice A8 r5.2.Chassis.Fields.length c8 :: .bool r5.2.Board.Present :: .int .u8 r5.2.Board.Code :: .int .u32 r5.2.Board.Minutes :: .slice A9 r5.2.Board.Fields.length c9 :: .bool r5.2.Product.Present :: .int .u8 r5.2.Product.Code :: .int .u32 r5.2.Product.Minutes :: .slice A10 r5.2.Product.Fields.length c10 :: .slice A11 r5.2.Multi.length c11 :: .bool r6.2.Chassis.Present :: .int .u8 r6.2.Chassis.Code :: .int .u32 r6.2.Chassis.Minutes :: .slice A13 r6.2.Chassis.Fields.length c13 :: .bool r6.2.Board.Present :: .int .u8 r6.2.Board.Code :: .int .u32 r6.2.Board.Minutes :: .slice A14 r6.2.Board.Fields.length c14 :: .bool r6.2.Product.Present :: .int .u8 r6.2.Product.Code :: .int .u32 r6.2.Product.Minutes :: .slice A15 r6.2.Product.Fields.length c15 :: .slice A16 r6.2.Multi.length c16 :: [])) :: .ro (SlL e_Field A13 c13 r6.2.Chassis.Fields) :: .ro (SlL e_Field A14 c14 r6.2.Board.Fields) :: .ro (SlL e_Field A15 c15 r6.2.Product.Fields) :: .ro (SlL eu8 A16 c16 r6.2.Multi) :: .ro (SlL e_Field A8 c8 r5.2.Chassis.Fields) :: .ro (SlL e_Field A9 c9 r5.2.Board.Fields) :: .ro (SlL e_Field A10 c10 r5.2.Product.Fields) :: .ro (SlL eu8 A11 c11 r5.2.Multi) :: .ro (SlL e_Field A1 c1 i_p0.Chassis.Fields) :: .ro (SlL e_Field A2 c2 i_p0.Board.Fields) :: .ro (SlL e_Field A3 c3 i_p0.Product.Fields) :: .ro (SlL eu8 A4 c4 i_p0.Multi) :: .ro (SlL ei64 (some ⟨0, 0, none⟩) 3 ([2, 5, 7] : List Int)) :: R) ?_ ?_
          · refine St.regionF mixed (by kernel_rfl) ?_
            refine St.loadB 0 rfl rfl (.tail _ (.tail _ (.head _))) rfl rfl ?_
            obtain ⟨r16, hr16, hj3⟩ := bnd_e hj3
            refine St.callV (c_unitinfo_Valid hr16) ent16 rfl rfl rfl rfl ⟨(.tail _ (.tail _ (.tail _ (.tail _ (.tail _ (.tail _ (.tail _ (.tail _ (.head _))))))))), (.tail _ (.tail _ (.tail _ (.tail _ (.tail _ (.tail _ (.tail _ (.tail _ (.tail _ (.head _)))))))))), (.tail _ (.tail _ (.tail _ (.tail _ (.tail _ (.tail _ (.tail _ (.tail _ (.tail _ (.tail _ (.head _))))))))))), (.tail _ (.tail _ (.tail _ (.tail _ (.tail _ (.tail _ (.tail _ (.tail _ (.tail _ (.tail _ (.tail _ (.head _)))))))))))), (.tail _ (.tail _ (.tail _ (.tail _ (.tail _ (.tail _ (.tail _ (.tail _ (.tail _ (.tail _ (.tail _ (.tail _ (.tail _ (.tail _ (.tail _ (.tail _ (.head _))))))))))))))))), trivial⟩ ?_
            refine St.loadB 0 rfl rfl (.tail _ (.tail _ (.head _))) rfl rfl ?_
            obtain ⟨r17, hr17, hj3⟩ := bnd_e hj3
            refine St.callV (c_ref17_Valid hr17) ent17 rfl rfl rfl rfl ⟨(.tail _ (.tail _ (.tail _ (.tail _ (.tail _ (.tail _ (.tail _ (.tail _ (.head _))))))))), (.tail _ (.tail _ (.tail _ (.tail _ (.tail _ (.tail _ (.tail _ (.tail _ (.tail _ (.head _)))))))))), (.tail _ (.tail _ (.tail _ (.tail _ (.tail _ (.tail _ (.tail _ (.tail _ (.tail _ (.tail _ (.head _))))))))))), (.tail _ (.tail _ (.tail _ (.tail _ (.tail _ (.tail _ (.tail _ (.tail _ (.tail _ (.tail _ (.tail _ (.head _)))))))))))), trivial⟩ ?_
            refine St.p rfl rfl ?_
            refine St.p rfl rfl ?_
            refine St.gSplit (dj := 49) _ rfl (fun hb7 => ?_) (fun hb7 => ?_)
            · replace hj3 := bif_t hb7 hj3
              refine St.gOff (dj := 49) rfl rfl rfl rfl ?_
              refine St.gOff (dj := 49) rfl rfl rfl rfl ?_
              refine St.gOff (dj := 49) rfl rfl rfl rfl ?_
              refine St.p rfl rfl ?_
              refine St.p rfl rfl ?_
              refine St.gOff (dj := 54) rfl rfl rfl rfl ?_
              refine St.gOff (dj := 54) rfl rfl rfl rfl ?_
              refine St.gOff (dj := 54) rfl rfl rfl rfl ?_
              refine St.gOff (dj := 54) rfl rfl rfl rfl ?_
              refine St.p rfl rfl ?_
              refine St.p rfl rfl ?_
              refine St.gOff (dj := 60) rfl rfl rfl rfl ?_
              refine St.gOff (dj := 60) rfl rfl rfl rfl ?_
              refine St.gOff (dj := 60) rfl rfl rfl rfl ?_
              refine St.gOff (dj := 60) rfl rfl rfl rfl ?_
              refine St.gOff (dj := 60) rfl rfl rfl rfl ?_
              refine St.p rfl rfl ?_
              refine St.doneQ ?_
              injection hj3 with hj3
              subst hj3
              refine St.thenN ?_
              exact St.hereE () ⟨rfl, rfl, rfl, rfl, trivial⟩ (fun _ w => ((.d (.d (.d (.k (.k (.k (.k (.k (.k (.k (.k (.k (.k (.k (.k (.k (.k .z))))))))))))))))) : Keep _ _).sat w)
            · replace hj3 := bif_f hb7 hj3
              refine St.gOn (dj := 49) rfl rfl ?_
              refine St.p rfl rfl ?_
              refine St.gOn (dj := 49) rfl rfl ?_
              refine St.p rfl rfl ?_
              refine St.gOn (dj := 49) rfl rfl ?_
              iterate 3 refine St.p rfl rfl ?_
              refine St.gSplit (dj := 54) _ rfl (fun hb8 => ?_) (fun hb8 => ?_)
              · replace hj3 := bif_t hb8 hj3
                refine St.gOff (dj := 54) rfl rfl rfl rfl ?_
                refine St.gOff (dj := 54) rfl rfl rfl rfl ?_
                refine St.gOff (dj := 54) rfl rfl rfl rfl ?_
                refine St.gOff (dj := 54) rfl rfl rfl rfl ?_
                refine St.p rfl rfl ?_
                refine St.p rfl rfl ?_
                refine St.gOff (dj := 60) rfl rfl rfl rfl ?_
                refine St.gOff (dj := 60) rfl rfl rfl rfl ?_
                refine St.gOff (dj := 60) rfl rfl rfl rfl ?_
                refine St.gOff (dj := 60) rfl rfl rfl rfl ?_
                refine St.gOff (dj := 60) rfl rfl rfl rfl ?_
                refine St.p rfl rfl ?_
                refine St.doneQ ?_
                injection hj3 with hj3
                subst hj3
                refine St.thenN ?_
                exact St.hereE () ⟨rfl, rfl, rfl, rfl, trivial⟩ (fun _ w => ((.d (.d (.d (.k (.k (.k (.k (.k (.k (.k (.k (.k (.k (.k (.k (.k (.k .z))))))))))))))))) : Keep _ _).sat w)
              · replace hj3 := bif_f hb8 hj3
                refine St.gOn (dj := 54) rfl rfl ?_
                refine St.p rfl rfl ?_
                refine St.gOn (dj := 54) rfl rfl ?_
                refine St.p rfl rfl ?_
                refine St.gOn (dj := 54) rfl rfl ?_
                refine St.asrt (fun _ w => (w.front (.s .z)).meltL) ?_
                refine St.asrt (fun _ w => (w.front (.s .z)).meltL) ?_
                obtain ⟨r18, hr18, hj3⟩ := bnd_e hj3
                refine St.callV (c_ref01_Same hr18) ent18 rfl rfl rfl rfl ⟨(.tail _ (.head _)), (.head _), trivial⟩ ?_
                refine St.gOn (dj := 54) rfl rfl ?_
                iterate 3 refine St.p rfl rfl ?_
                refine St.gSplit (dj := 60) _ rfl (fun hb9 => ?_) (fun hb9 => ?_)
                · replace hj3 := bif_t hb9 hj3
                  refine St.gOff (dj := 60) rfl rfl rfl rfl ?_
                  refine St.gOff (dj := 60) rfl rfl rfl rfl ?_
                  refine St.gOff (dj := 60) rfl rfl rfl rfl ?_
                  refine St.gOff (dj := 60) rfl rfl rfl rfl ?_
                  refine St.gOff (dj := 60) rfl rfl rfl rfl ?_
                  refine St.p rfl rfl ?_
                  refine St.doneQ ?_
                  injection hj3 with hj3
                  subst hj3
                  refine St.thenN ?_
                  exact St.hereE () ⟨rfl, rfl, rfl, rfl, trivial⟩ (fun _ w => ((.d (.d (.d (.k (.k (.k (.k (.k (.k (.k (.k (.k (.k (.k (.k (.k (.k .z))))))))))))))))) : Keep _ _).sat w)
                · replace hj3 := bif_f hb9 hj3
                  refine St.gOn (dj := 60) rfl rfl ?_
                  refine St.loadB 0 rfl rfl (.tail _ (.tail _ (.head _))) rfl rfl ?_
                  refine St.gOn (dj := 60) rfl rfl ?_
                  obtain ⟨r19, hr19, hj3⟩ := bnd_e hj3
                  refine St.callV (c_unitinfo_Serial hr19) ent19 rfl rfl rfl rfl ⟨(.tail _ (.tail _ (.tail _ (.tail _ (.tail _ (.tail _ (.tail _ (.tail _ (.head _))))))))), (.tail _ (.tail _ (.tail _ (.tail _ (.tail _ (.tail _ (.tail _ (.tail _ (.tail _ (.head _)))))))))), (.tail _ (.tail _ (.tail _ (.tail _ (.tail _ (.tail _ (.tail _ (.tail _ (.tail _ (.tail _ (.head _))))))))))), (.tail _ (.tail _ (.tail _ (.tail _ (.tail _ (.tail _ (.tail _ (.tail _ (.tail _ (.tail _ (.tail _ (.head _)))))))))))), trivial⟩ ?_
                  refine St.gOn (dj := 60) rfl rfl ?_
                  refine St.loadB 0 rfl rfl (.tail _ (.tail _ (.head _))) rfl rfl ?_
                  refine St.gOn (dj := 60) rfl rfl ?_
                  obtain ⟨r20, hr20, hj3⟩ := bnd_e hj3
                  refine St.callV (c_ref17_Serial hr20) ent20 rfl rfl rfl rfl ⟨(.tail _ (.tail _ (.tail _ (.tail _ (.tail _ (.tail _ (.tail _ (.tail _ (.head _))))))))), (.tail _ (.tail _ (.tail _ (.tail _ (.tail _ (.tail _ (.tail _ (.tail _ (.tail _ (.head _)))))))))), (.tail _ (.tail _ (.tail _ (.tail _ (.tail _ (.tail _ (.tail _ (.tail _ (.tail _ (.tail _ (.head _))))))))))), (.tail _ (.tail _ (.tail _ (.tail _ (.tail _ (.tail _ (.tail _ (.tail _ (.tail _ (.tail _ (.tail _ (.head _)))))))))))), trivial⟩ ?_
                  refine St.gOn (dj := 60) rfl rfl ?_
                  refine St.p rfl rfl ?_
                  refine St.p rfl rfl ?_
                  refine St.doneQ ?_
                  injection hj3 with hj3
                  subst hj3
                  refine St.thenN ?_
                  exact St.hereE () ⟨rfl, rfl, rfl, rfl, trivial⟩ (fun _ w => ((.d (.d (.d (.k (.k (.k (.k (.k (.k (.k (.k (.k (.k (.k (.k (.k (.k .z))))))))))))))))) : Keep _ _).sat w)
          · rintro e3
            refine St.cond _ rfl (fun hb10 => ?_) (fun hb10 => ?_)
            · replace h := bif_t hb10 h
              refine St.seq ?_
              refine St.region ?_
              refine St.p rfl rfl ?_
              refine St.done ?_
              refine St.thenN ?_
              refine St.prune (Γ' := [(4, _)]) ⟨rfl, trivial⟩ (.d (.d (.d (.d (.d (.d (.d (.d (.d (.d (.d (.d (.d (.k .z)))))))))))))) ?_
              refine St.ret ?_
              repeat (first | refine St.thenR ?_ | refine St.blkR ?_)
              injection h with h
              subst h
              exact St.finR Tryd.results3 (.tmp rfl .nil) rfl [] ⟨rfl, rfl⟩ (fun _ w => ((.d .z) : Keep _ _).sat w)
            · replace h := bif_f hb10 h
              refine St.skip ?_
              refine St.blkN ?_
              refine St.thenN ?_
              refine St.prune (Γ' := [(28, _), (29, _), (30, _)]) ⟨rfl, rfl, rfl, trivial⟩ (.k (.k (.k (.k (.k (.k (.k (.k (.k (.k (.k (.k (.k (.k .z)))))))))))))) ?_
              refine St.region ?_
              refine St.p rfl rfl ?_
              refine St.p rfl rfl ?_
              refine St.done ?_
              refine St.thenN ?_
              refine St.round ?_
              refine St.prune (Γ' := [(28, _), (29, _), (30, _)]) ⟨rfl, rfl, rfl, trivial⟩ (.k (.k (.k (.k (.k (.k (.k (.k (.k (.k (.k (.k (.k (.k .z)))))))))))))) ?_
              refine St.seq ?_
              refine St.region ?_
              refine St.p rfl rfl ?_
              refine St.done ?_
              refine St.thenN ?_
              refine St.seq ?_
              refine St.condT rfl ?_
              refine St.skip ?_
              refine St.thenN ?_
              refine St.prune (Γ' := [(28, _), (29, _), (30, _)]) ⟨rfl, rfl, rfl, trivial⟩ (.k (.k (.k (.k (.k (.k (.k (.k (.k (.k (.k (.k (.k (.k .z)))))))))))))) ?_
              refine St.seq ?_
              refine St.block ?_
              refine St.seq ?_
              refine St.region ?_
              refine St.ixB 26 rfl rfl rfl rfl rfl rfl rfl rfl rfl rfl ?_
              refine St.loadB 26 rfl rfl (.head _) rfl rfl ?_
              refine St.alloc rfl rfl fun g6 => ?_
              refine St.store 0 rfl rfl rfl rfl rfl rfl .z rfl ?_
              refine St.done ?_
              refine St.thenN ?_
              refine St.prune (Γ' := [(7, _), (28, _), (29, _), (30, _)]) ⟨rfl, rfl, rfl, rfl, trivial⟩ (.k (.k (.k (.k (.k (.k (.k (.k (.k (.k (.k (.k (.k (.k (.k .z))))))))))))))) ?_
              refine St.seq ?_
              refine St.region ?_
              refine St.loadB 0 rfl rfl (.head _) rfl rfl ?_
              obtain ⟨r21, hr21, h⟩ := bnd_e h
              refine St.call (c_unitinfo_Encode hr21) ent14 rfl rfl rfl (fun _ w => Sat.dup (G := [.ro (SlL e_Field A13 c13 r6.2.Chassis.Fields), .ro (SlL e_Field A14 c14 r6.2.Board.Fields), .ro (SlL e_Field A15 c15 r6.2.Product.Fields), .ro (SlL eu8 A16 c16 r6.2.Multi), .ro (SlL ei64 (some ⟨0, 0, none⟩) 3 ([2, 5, 7] : List Int))]) rfl ⟨(.tail _ (.tail _ (.head _))), (.tail _ (.tail _ (.tail _ (.head _)))), (.tail _ (.tail _ (.tail _ (.tail _ (.head _))))), (.tail _ (.tail _ (.tail _ (.tail _ (.tail _ (.head _)))))), (.tail _ (.tail _ (.tail _ (.tail _ (.tail _ (.tail _ (.tail _ (.tail _ (.tail _ (.tail _ (.tail _ (.tail _ (.tail _ (.tail _ (.head _))))))))))))))), trivial⟩ w) ?_
              rintro _ _ ⟨A21, c21, rfl, rfl⟩
              refine St.asrt (F' := .res (OwnL eu8 5 A21 c21 r21.1) :: .res (Box g6 28 (bx_T_Info r6.2 A13 c13 A14 c14 A15 c15 A16 c16)) :: .res (Box g3 28 (.bool i_p0.Chassis.Present :: .int .u8 i_p0.Chassis.Code :: .int .u32 i_p0.Chassis.Minutes :: .slice A1 i_p0.Chassis.Fields.length c1 :: .bool i_p0.Board.Present :: .int .u8 i_p0.Board.Code :: .int .u32 i_p0.Board.Minutes :: .slice A2 i_p0.Board.Fields.length c2 :: .bool i_p0.Product.Present :: .int .u8 i_p0.Product.Code :: .int .u32 i_p0.Product.Minutes :: .slice A3 i_p0.Product.Fields.length c3 :: .slice A4 i_p0.Multi.length c4 :: .bool r5.2.Chassis.Present :: .int .u8 r5.2.Chassis.Code :: .int .u32 r5.2.Chassis.Minutes :: .slice A8 r5.2.Chassis.Fields.length c8 :: .bool r5.2.Board.Present :: .int .u8 r5.2.Board.Code :: .int .u32 r5.2.Board.Minutes :: .slice A9 r5.2.Board.Fields.length c9 :: .bool r5.2.Product.Present :: .int .u8 r5.2.Product.Code :: .int .u32 r5.2.Product.Minutes :: .slice A10 r5.2.Product.Fields.length c10 :: .slice A11 r5.2.Multi.length c11 :: .bool r6.2.Chassis.Present :: .int .u8 r6.2.Chassis.Code :: .int .u32 r6.2.Chassis.Minutes :: .slice A13 r6.2.Chassis.Fields.length c13 :: .bool r6.2.Board.Present :: .int .u8 r6.2.Board.Code :: .int .u32 r6.2.Board.Minutes :: .slice A14 r6.2.Board.Fields.length c14 :: .bool r6.2.Product.Present :: .int .u8 r6.2.Product.Code :: .int .u32 r6.2.Product.Minutes :: .slice A15 r6.2.Product.Fields.length c15 :: .slice A16 r6.2.Multi.length c16 :: [])) :: .ro (SlL e_Field A13 c13 r6.2.Chassis.Fields) :: .ro (SlL e_Field A14 c14 r6.2.Board.Fields) :: .ro (SlL e_Field A15 c15 r6.2.Product.Fields) :: .ro (SlL eu8 A16 c16 r6.2.Multi) :: .ro (SlL e_Field A8 c8 r5.2.Chassis.Fields) :: .ro (SlL e_Field A9 c9 r5.2.Board.Fields) :: .ro (SlL e_Field A10 c10 r5.2.Product.Fields) :: .ro (SlL eu8 A11 c11 r5.2.Multi) :: .ro (SlL e_Field A1 c1 i_p0.Chassis.Fields) :: .ro (SlL e_Field A2 c2 i_p0.Board.Fields) :: .ro (SlL e_Field A3 c3 i_p0.Product.Fields) :: .ro (SlL eu8 A4 c4 i_p0.Multi) :: .ro (SlL ei64 (some ⟨0, 0, none⟩) 3 ([2, 5, 7] : List Int)) :: R) (fun _ w => w) ?_
              iterate 5 refine St.p rfl rfl ?_
              refine St.done ?_
              refine St.thenN ?_
              refine St.prune (Γ' := [(7, _), (8, _), (9, _), (28, _), (29, _), (30, _)]) ⟨rfl, rfl, rfl, rfl, rfl, rfl, trivial⟩ (.k (.k (.k (.k (.k (.k (.k (.k (.k (.k (.k (.k (.k (.k (.k (.k .z)))))))))))))))) ?_
              refine St.seq ?_
              refine St.region ?_
              refine St.loadB 0 rfl rfl (.tail _ (.head _)) rfl rfl ?_
              obtain ⟨r22, hr22, h⟩ := bnd_e h
              refine St.call (c_ref17_Encode hr22) ent15 rfl rfl rfl (fun _ w => Sat.dup (G := [.ro (SlL e_Field A13 c13 r6.2.Chassis.Fields), .ro (SlL e_Field A14 c14 r6.2.Board.Fields), .ro (SlL e_Field A15 c15 r6.2.Product.Fields), .ro (SlL eu8 A16 c16 r6.2.Multi)]) rfl ⟨(.tail _ (.tail _ (.tail _ (.head _)))), (.tail _ (.tail _ (.tail _ (.tail _ (.head _))))), (.tail _ (.tail _ (.tail _ (.tail _ (.tail _ (.head _)))))), (.tail _ (.tail _ (.tail _ (.tail _ (.tail _ (.tail _ (.head _))))))), trivial⟩ w) ?_
              rintro _ _ ⟨A22, c22, rfl, rfl⟩
              refine St.asrt (F' := .res (OwnL eu8 5 A22 c22 r22.1) :: .res (OwnL eu8 5 A21 c21 r21.1) :: .res (Box g6 28 (bx_T_Info r6.2 A13 c13 A14 c14 A15 c15 A16 c16)) :: .res (Box g3 28 (.bool i_p0.Chassis.Present :: .int .u8 i_p0.Chassis.Code :: .int .u32 i_p0.Chassis.Minutes :: .slice A1 i_p0.Chassis.Fields.length c1 :: .bool i_p0.Board.Present :: .int .u8 i_p0.Board.Code :: .int .u32 i_p0.Board.Minutes :: .slice A2 i_p0.Board.Fields.length c2 :: .bool i_p0.Product.Present :: .int .u8 i_p0.Product.Code :: .int .u32 i_p0.Product.Minutes :: .slice A3 i_p0.Product.Fields.length c3 :: .slice A4 i_p0.Multi.length c4 :: .bool r5.2.Chassis.Present :: .int .u8 r5.2.Chassis.Code :: .int .u32 r5.2.Chassis.Minutes :: .slice A8 r5.2.Chassis.Fields.length c8 :: .bool r5.2.Board.Present :: .int .u8 r5.2.Board.Code :: .int .u32 r5.2.Board.Minutes :: .slice A9 r5.2.Board.Fields.length c9 :: .bool r5.2.Product.Present :: .int .u8 r5.2.Product.Code :: .int .u32 r5.2.Product.Minutes :: .slice A10 r5.2.Product.Fields.length c10 :: .slice A11 r5.2.Multi.length c11 :: .bool r6.2.Chassis.Present :: .int .u8 r6.2.Chassis.Code :: .int .u32 r6.2.Chassis.Minutes :: .slice A13 r6.2.Chassis.Fields.length c13 :: .bool r6.2.Board.Present :: .int .u8 r6.2.Board.Code :: .int .u32 r6.2.Board.Minutes :: .slice A14 r6.2.Board.Fields.length c14 :: .bool r6.2.Product.Present :: .int .u8 r6.2.Product.Code :: .int .u32 r6.2.Product.Minutes :: .slice A15 r6.2.Product.Fields.length c15 :: .slice A16 r6.2.Multi.length c16 :: [])) :: .ro (SlL e_Field A13 c13 r6.2.Chassis.Fields) :: .ro (SlL e_Field A14 c14 r6.2.Board.Fields) :: .ro (SlL e_Field A15 c15 r6.2.Product.Fields) :: .ro (SlL eu8 A16 c16 r6.2.Multi) :: .ro (SlL e_Field A8 c8 r5.2.Chassis.Fields) :: .ro (SlL e_Field A9 c9 r5.2.Board.Fields) :: .ro (SlL e_Field A10 c10 r5.2.Product.Fields) :: .ro (SlL eu8 A11 c11 r5.2.Multi) :: .ro (SlL e_Field A1 c1 i_p0.Chassis.Fields) :: .ro (SlL e_Field A2 c2 i_p0.Board.Fields) :: .ro (SlL e_Field A3 c3 i_p0.Product.Fields) :: .ro (SlL eu8 A4 c4 i_p0.Multi) :: .ro (SlL ei64 (some ⟨0, 0, none⟩) 3 ([2, 5, 7] : List Int)) :: R) (fun _ w => w) ?_
              iterate 5 refine St.p rfl rfl ?_
              refine St.done ?_
              refine St.thenN ?_
              refine St.prune (Γ' := [(7, _), (8, _), (9, _), (10, _), (11, _), (28, _), (29, _), (30, _)]) ⟨rfl, rfl, rfl, rfl, rfl, rfl, rfl, rfl, trivial⟩ (.k (.k (.k (.k (.k (.k (.k (.k (.k (.k (.k (.k (.k (.k (.k (.k (.k .z))))))))))))))))) ?_
              refine St.seq ?_
              obtain ⟨o4, hj4, h⟩ := bnd_e h
              refine St.cutE (fun (e4 : Unit) => [(28, .slice (some ⟨g3, 0, none⟩) 3 3), (29, .int .i64 ((3 : Nat) : Int)), (30, .int .i64 2), (66, .bool o4)]) (fun e4 => .res (Box g3 28 (.bool i_p0.Chassis.Present :: .int .u8 i_p0.Chassis.Code :: .int .u32 i_p0.Chassis.Minutes :: .slice A1 i_p0.Chassis.Fields.length c1 :: .bool i_p0.Board.Present :: .int .u8 i_p0.Board.Code :: .int .u32 i_p0.Board.Minutes :: .slice A2 i_p0.Board.Fields.length c2 :: .bool i_p0.Product.Present :: .int .u8 i_p0.Product.Code :: .int .u32 i_p0.Product.Minutes :: .slice A3 i_p0.Product.Fields.length c3 :: .slice A4 i_p0.Multi.length c4 :: .bool r5.2.Chassis.Present :: .int .u8 r5.2.Chassis.Code :: .int .u32 r5.2.Chassis.Minutes :: .slice A8 r5.2.Chassis.Fields.length c8 :: .bool r5.2.Board.Present :: .int .u8 r5.2.Board.Code :: .int .u32 r5.2.Board.Minutes :: .slice A9 r5.2.Board.Fields.length c9 :: .bool r5.2.Product.Present :: .int .u8 r5.2.Product.Code :: .int .u32 r5.2.Product.Minutes :: .slice A10 r5.2.Product.Fields.length c10 :: .slice A11 r5.2.Multi.length c11 :: .bool r6.2.Chassis.Present :: .int .u8 r6.2.Chassis.Code :: .int .u32 r6.2.Chassis.Minutes :: .slice A13 r6.2.Chassis.Fields.length c13 :: .bool r6.2.Board.Present :: .int .u8 r6.2.Board.Code :: .int .u32 r6.2.Board.Minutes :: .slice A14 r6.2.Board.Fields.length c14 :: .bool r6.2.Product.Present :: .int .u8 r6.2.Product.Code :: .int .u32 r6.2.Product.Minutes :: .slice A15 r6.2.Product.Fields.length c15 :: .slice A16 r6.2.Multi.length c16 :: [])) :: .ro (SlL e_Field A13 c13 r6.2.Chassis.Fields) :: .ro (SlL e_Field A14 c14 r6.2.Board.Fields) :: .ro (SlL e_Field A15 c15 r6.2.Product.Fields) :: .ro (SlL eu8 A16 c16 r6.2.Multi) :: .ro (SlL e_Field A8 c8 r5.2.Chassis.Fields) :: .ro (SlL e_Field A9 c9 r5.2.Board.Fields) :: .ro (SlL e_Field A10 c10 r5.2.Product.Fields) :: .ro (SlL eu8 A11 c11 r5.2.Multi) :: .ro (SlL e_Field A1 c1 i_p0.Chassis.Fields) :: .ro (SlL e_Field A2 c2 i_p0.Board.Fields) :: .ro (SlL e_Field A3 c3 i_p0.Product.Fields) :: .ro (SlL eu8 A4 c4 i_p0.Multi) :: .ro (SlL ei64 (some ⟨0, 0, none⟩) 3 ([2, 5, 7] : List Int)) :: R) ?_ ?_
              · refine St.regionF mixed (by kernel_rfl) ?_
                refine St.loadB 0 rfl rfl (.tail _ (.tail _ (.head _))) rfl rfl ?_
                obtain ⟨r23, hr23, hj4⟩ := bnd_e hj4
                refine St.callV (c_unitinfo_Valid hr23) ent16 rfl rfl rfl rfl ⟨(.tail _ (.tail _ (.tail _ (.tail _ (.head _))))), (.tail _ (.tail _ (.tail _ (.tail _ (.tail _ (.head _)))))), (.tail _ (.tail _ (.tail _ (.tail _ (.tail _ (.tail _ (.head _))))))), (.tail _ (.tail _ (.tail _ (.tail _ (.tail _ (.tail _ (.tail _ (.head _)))))))), (.tail _ (.tail _ (.tail _ (.tail _ (.tail _ (.tail _ (.tail _ (.tail _ (.tail _ (.tail _ (.tail _ (.tail _ (.tail _ (.tail _ (.tail _ (.tail _ (.head _))))))))))))))))), trivial⟩ ?_
                refine St.loadB 0 rfl rfl (.tail _ (.tail _ (.head _))) rfl rfl ?_
                obtain ⟨r24, hr24, hj4⟩ := bnd_e hj4
                refine St.callV (c_ref17_Valid hr24) ent17 rfl rfl rfl rfl ⟨(.tail _ (.tail _ (.tail _ (.tail _ (.head _))))), (.tail _ (.tail _ (.tail _ (.tail _ (.tail _ (.head _)))))), (.tail _ (.tail _ (.tail _ (.tail _ (.tail _ (.tail _ (.head _))))))), (.tail _ (.tail _ (.tail _ (.tail _ (.tail _ (.tail _ (.tail _ (.head _)))))))), trivial⟩ ?_
                refine St.p rfl rfl ?_
                refine St.p rfl rfl ?_
                refine St.gSplit (dj := 49) _ rfl (fun hb11 => ?_) (fun hb11 => ?_)
                · replace hj4 := bif_t hb11 hj4
                  refine St.gOff (dj := 49) rfl rfl rfl rfl ?_
                  refine St.gOff (dj := 49) rfl rfl rfl rfl ?_
                  refine St.gOff (dj := 49) rfl rfl rfl rfl ?_
                  refine St.p rfl rfl ?_
                  refine St.p rfl rfl ?_
                  refine St.gOff (dj := 54) rfl rfl rfl rfl ?_
                  refine St.gOff (dj := 54) rfl rfl rfl rfl ?_
                  refine St.gOff (dj := 54) rfl rfl rfl rfl ?_
                  refine St.gOff (dj := 54) rfl rfl rfl rfl ?_
                  refine St.p rfl rfl ?_
                  refine St.p rfl rfl ?_
                  refine St.gOff (dj := 60) rfl rfl rfl rfl ?_
                  refine St.gOff (dj := 60) rfl rfl rfl rfl ?_
                  refine St.gOff (dj := 60) rfl rfl rfl rfl ?_
                  refine St.gOff (dj := 60) rfl rfl rfl rfl ?_
                  refine St.gOff (dj := 60) rfl rfl rfl rfl ?_
                  refine St.p rfl rfl ?_
                  refine St.doneQ ?_
                  injection hj4 with hj4
                  subst hj4
                  refine St.thenN ?_
                  exact St.hereE () ⟨rfl, rfl, rfl, rfl, trivial⟩ (fun _ w => ((.d (.d (.d (.k (.k (.k (.k (.k (.k (.k (.k (.k (.k (.k (.k (.k (.k .z))))))))))))))))) : Keep _ _).sat w)
                · replace hj4 := bif_f hb11 hj4
                  refine St.gOn (dj := 49) rfl rfl ?_
                  refine St.p rfl rfl ?_
                  refine St.gOn (dj := 49) rfl rfl ?_
                  refine St.p rfl rfl ?_
                  refine St.gOn (dj := 49) rfl rfl ?_
                  iterate 3 refine St.p rfl rfl ?_
                  refine St.gSplit (dj := 54) _ rfl (fun hb12 => ?_) (fun hb12 => ?_)
                  · replace hj4 := bif_t hb12 hj4
                    refine St.gOff (dj := 54) rfl rfl rfl rfl ?_
                    refine St.gOff (dj := 54) rfl rfl rfl rfl ?_
                    refine St.gOff (dj := 54) rfl rfl rfl rfl ?_
                    refine St.gOff (dj := 54) rfl rfl rfl rfl ?_
                    refine St.p rfl rfl ?_
                    refine St.p rfl rfl ?_
                    refine St.gOff (dj := 60) rfl rfl rfl rfl ?_
                    refine St.gOff (dj := 60) rfl rfl rfl rfl ?_
                    refine St.gOff (dj := 60) rfl rfl rfl rfl ?_
                    refine St.gOff (dj := 60) rfl rfl rfl rfl ?_
                    refine St.gOff (dj := 60) rfl rfl rfl rfl ?_
                    refine St.p rfl rfl ?_
                    refine St.doneQ ?_
                    injection hj4 with hj4
                    subst hj4
                    refine St.thenN ?_
                    exact St.hereE () ⟨rfl, rfl, rfl, rfl, trivial⟩ (fun _ w => ((.d (.d (.d (.k (.k (.k (.k (.k (.k (.k (.k (.k (.k (.k (.k (.k (.k .z))))))))))))))))) : Keep _ _).sat w)
                  · replace hj4 := bif_f hb12 hj4
                    refine St.gOn (dj := 54) rfl rfl ?_
                    refine St.p rfl rfl ?_
                    refine St.gOn (dj := 54) rfl rfl ?_
                    refine St.p rfl rfl ?_
                    refine St.gOn (dj := 54) rfl rfl ?_
                    refine St.asrt (fun _ w => (w.front (.s .z)).meltL) ?_
                    refine St.asrt (fun _ w => (w.front (.s .z)).meltL) ?_
                    obtain ⟨r25, hr25, hj4⟩ := bnd_e hj4
                    refine St.callV (c_ref01_Same hr25) ent18 rfl rfl rfl rfl ⟨(.tail _ (.head _)), (.head _), trivial⟩ ?_
                    refine St.gOn (dj := 54) rfl rfl ?_
                    iterate 3 refine St.p rfl rfl ?_
                    refine St.gSplit (dj := 60) _ rfl (fun hb13 => ?_) (fun hb13 => ?_)
                    · replace hj4 := bif_t hb13 hj4
                      refine St.gOff (dj := 60) rfl rfl rfl rfl ?_
                      refine St.gOff (dj := 60) rfl rfl rfl rfl ?_
                      refine St.gOff (dj := 60) rfl rfl rfl rfl ?_
                      refine St.gOff (dj := 60) rfl rfl rfl rfl ?_
                      refine St.gOff (dj := 60) rfl rfl rfl rfl ?_
                      refine St.p rfl rfl ?_
                      refine St.doneQ ?_
                      injection hj4 with hj4
                      subst hj4
                      refine St.thenN ?_
                      exact St.hereE () ⟨rfl, rfl, rfl, rfl, trivial⟩ (fun _ w => ((.d (.d (.d (.k (.k (.k (.k (.k (.k (.k (.k (.k (.k (.k (.k (.k (.k .z))))))))))))))))) : Keep _ _).sat w)
                    · replace hj4 := bif_f hb13 hj4
                      refine St.gOn (dj := 60) rfl rfl ?_
                      refine St.loadB 0 rfl rfl (.tail _ (.tail _ (.head _))) rfl rfl ?_
                      refine St.gOn (dj := 60) rfl rfl ?_
                      obtain ⟨r26, hr26, hj4⟩ := bnd_e hj4
                      refine St.callV (c_unitinfo_Serial hr26) ent19 rfl rfl rfl rfl ⟨(.tail _ (.tail _ (.tail _ (.tail _ (.head _))))), (.tail _ (.tail _ (.tail _ (.tail _ (.tail _ (.head _)))))), (.tail _ (.tail _ (.tail _ (.tail _ (.tail _ (.tail _ (.head _))))))), (.tail _ (.tail _ (.tail _ (.tail _ (.tail _ (.tail _ (.tail _ (.head _)))))))), trivial⟩ ?_
                      refine St.gOn (dj := 60) rfl rfl ?_
                      refine St.loadB 0 rfl rfl (.tail _ (.tail _ (.head _))) rfl rfl ?_
                      refine St.gOn (dj := 60) rfl rfl ?_
                      obtain ⟨r27, hr27, hj4⟩ := bnd_e hj4
                      refine St.callV (c_ref17_Serial hr27) ent20 rfl rfl rfl rfl ⟨(.tail _ (.tail _ (.tail _ (.tail _ (.head _))))), (.tail _ (.tail _ (.tail _ (.tail _ (.tail _ (.head _)))))), (.tail _ (.tail _ (.tail _ (.tail _ (.tail _ (.tail _ (.head _))))))), (.tail _ (.tail _ (.tail _ (.tail _ (.tail _ (.tail _ (.tail _ (.head _)))))))), trivial⟩ ?_
                      refine St.gOn (dj := 60) rfl rfl ?_
                      refine St.p rfl rfl ?_
                      refine St.p rfl rfl ?_
                      refine St.doneQ ?_
                      injection hj4 with hj4
                      subst hj4
                      refine St.thenN ?_
                      exact St.hereE () ⟨rfl, rfl, rfl, rfl, trivial⟩ (fun _ w => ((.d (.d (.d (.k (.k (.k (.k (.k (.k (.k (.k (.k (.k (.k (.k (.k (.k .z))))))))))))))))) : Keep _ _).sat w)
              · rintro e4
                refine St.cond _ rfl (fun hb14 => ?_) (fun hb14 => ?_)
                · replace h := bif_t hb14 h
                  refine St.seq ?_
                  refine St.region ?_
                  refine St.p rfl rfl ?_
                  refine St.done ?_
                  refine St.thenN ?_
                  refine St.prune (Γ' := [(4, _)]) ⟨rfl, trivial⟩ (.d (.d (.d (.d (.d (.d (.d (.d (.d (.d (.d (.d (.d (.k .z)))))))))))))) ?_
                  refine St.ret ?_
                  repeat (first | refine St.thenR ?_ | refine St.blkR ?_)
                  injection h with h
                  subst h
                  exact St.finR Tryd.results3 (.tmp rfl .nil) rfl [] ⟨rfl, rfl⟩ (fun _ w => ((.d .z) : Keep _ _).sat w)
                · replace h := bif_f hb14 h
                  refine St.skip ?_
                  refine St.blkN ?_
                  refine St.thenN ?_
                  refine St.prune (Γ' := [(28, _), (29, _), (30, _)]) ⟨rfl, rfl, rfl, trivial⟩ (.k (.k (.k (.k (.k (.k (.k (.k (.k (.k (.k (.k (.k (.k .z)))))))))))))) ?_
                  refine St.region ?_
                  refine St.p rfl rfl ?_
                  refine St.p rfl rfl ?_
                  refine St.done ?_
                  refine St.thenN ?_
                  refine St.round ?_
                  refine St.prune (Γ' := [(28, _), (29, _), (30, _)]) ⟨rfl, rfl, rfl, trivial⟩ (.k (.k (.k (.k (.k (.k (.k (.k (.k (.k (.k (.k (.k (.k .z)))))))))))))) ?_
                  refine St.seq ?_
                  refine St.region ?_
                  refine St.p rfl rfl ?_
                  refine St.done ?_
                  refine St.thenN ?_
                  refine St.seq ?_
                  refine St.condF rfl ?_
                  refine St.exit ?_
                  repeat (first | refine St.thenX ?_ | refine St.blkMiss rfl ?_)
                  refine St.blkHit ?_
                  refine St.thenN ?_
                  refine St.prune (Γ' := []) trivial (.d (.d (.d (.d (.d (.d (.d (.d (.d (.d (.d (.d (.d (.k .z)))))))))))))) ?_
                  refine St.seq ?_
                  refine St.region ?_
                  obtain ⟨r28, hr28, h⟩ := bnd_e h
                  refine St.callV (c_law17_awake hr28) ent10 rfl rfl rfl rfl ⟨(.head _), trivial⟩ ?_
                  refine St.p rfl rfl ?_
                  refine St.done ?_
                  refine St.thenN ?_
                  refine St.prune (Γ' := [(4, _)]) ⟨rfl, trivial⟩ (.k .z) ?_
                  refine St.ret ?_
                  repeat (first | refine St.thenR ?_ | refine St.blkR ?_)
                  injection h with h
                  subst h
                  exact St.finR Tryd.results3 (.tmp rfl .nil) rfl [] ⟨rfl, rfl⟩ (fun _ w => ((.d .z) : Keep _ _).sat w)

end Go.Proofs.YtcekbbbjagfacaaDoor
