/-
  Models of functions of the program, and that the functions compute them.
  Conditions: none.
-/
import Derived.Test.YtcekbbbjagfacaaDoorGen1
namespace Go.Proofs.YtcekbbbjagfacaaDoor
open Go
set_option linter.unusedVariables false
set_option maxRecDepth 4000

theorem c_law17_awake  {r : Bool} (h : m_law17_awake = some r) :
    Fun Tryd.prog 10 [] [.ro (SlL ei64 (some ⟨0, 0, none⟩) 3 ([2, 5, 7] : List Int))] (Val (.bool r)) := by
  unfold m_law17_awake at h
  refine Fun.intro Tryd.func10 rfl rfl rfl fun w R => ?_
  refine St.seq ?_
  refine St.region ?_
  refine St.p rfl rfl ?_
  refine St.done ?_
  refine St.thenN ?_
  refine St.prune (Γ' := []) trivial (.k .z) ?_
  refine St.seq ?_
  refine St.region ?_
  refine St.p rfl rfl ?_
  refine St.alloc rfl rfl fun g1 => ?_
  refine St.store 0 rfl rfl rfl rfl rfl rfl .z rfl ?_
  refine St.done ?_
  refine St.thenN ?_
  refine St.prune (Γ' := [(1, _)]) ⟨rfl, trivial⟩ (.k (.k .z)) ?_
  refine St.seq ?_
  refine St.region ?_
  refine St.loadB 0 rfl rfl (.head _) rfl rfl ?_
  refine St.loadB 0 rfl rfl (.head _) rfl rfl ?_
  refine St.buildSlice rfl rfl rfl rfl rfl rfl rfl rfl fun g2 => ?_
  refine St.p rfl rfl ?_
  refine St.p rfl rfl ?_
  refine St.asrt (fun _ w => (w.front .z).litL (E := e_Field) (e := 60) [(⟨3, ⟨#[]⟩⟩ : T_Field), (⟨3, ⟨#[]⟩⟩ : T_Field)] rfl rfl) ?_
  refine St.asrt (fun _ w => (w.front .z).meltL) ?_
  refine St.asrt (fun _ w => w.nilSl (cod e_Field)) ?_
  refine St.asrt (fun _ w => w.nilSl (cod e_Field)) ?_
  refine St.asrt (fun _ w => w.nilSl (cod eu8)) ?_
  obtain ⟨r1, hr1, h⟩ := bnd_e h
  refine St.call (c_unitinfo_Encode hr1) ent14 rfl rfl rfl (fun _ w => Sat.dup (G := [.ro (SlL e_Field (some ⟨g2, 0, none⟩) ([(⟨3, ⟨#[]⟩⟩ : T_Field), (⟨3, ⟨#[]⟩⟩ : T_Field)] : List T_Field).length ([(⟨3, ⟨#[]⟩⟩ : T_Field), (⟨3, ⟨#[]⟩⟩ : T_Field)])), .ro (SlL e_Field none 0 ([] : List T_Field)), .ro (SlL e_Field none 0 ([] : List T_Field)), .ro (SlL eu8 none 0 ([] : List Int)), .ro (SlL ei64 (some ⟨0, 0, none⟩) 3 ([2, 5, 7] : List Int))]) rfl ⟨(.tail _ (.tail _ (.tail _ (.head _)))), (.tail _ (.head _)), (.tail _ (.head _)), (.head _), (.tail _ (.tail _ (.tail _ (.tail _ (.tail _ (.head _)))))), trivial⟩ w) ?_
  rintro _ _ ⟨A1, c1, rfl, rfl⟩
  refine St.asrt (F' := .res (OwnL eu8 5 A1 c1 r1.1) :: .ro (SlL eu8 none 0 ([] : List Int)) :: .ro (SlL e_Field none 0 ([] : List T_Field)) :: .ro (SlL e_Field none 0 ([] : List T_Field)) :: .ro (SlL e_Field (some ⟨g2, 0, none⟩) ([(⟨3, ⟨#[]⟩⟩ : T_Field), (⟨3, ⟨#[]⟩⟩ : T_Field)] : List T_Field).length ([(⟨3, ⟨#[]⟩⟩ : T_Field), (⟨3, ⟨#[]⟩⟩ : T_Field)])) :: .res (Box g1 60 [.int .i64 3, .string (⟨#[]⟩)]) :: .ro (SlL ei64 (some ⟨0, 0, none⟩) 3 ([2, 5, 7] : List Int)) :: R) (fun _ w => w) ?_
  iterate 5 refine St.p rfl rfl ?_
  refine St.done ?_
  refine St.thenN ?_
  refine St.prune (Γ' := [(2, _), (3, _)]) ⟨rfl, rfl, trivial⟩ (.k (.d (.d (.d (.d (.d (.k .z))))))) ?_
  refine St.seq ?_
  obtain ⟨o1, hj1, h⟩ := bnd_e h
  refine St.cutE (fun (e1 : Unit) => [(0, .bool o1)]) (fun e1 => .ro (SlL ei64 (some ⟨0, 0, none⟩) 3 ([2, 5, 7] : List Int)) :: R) ?_ ?_
  · refine St.region ?_
    iterate 3 refine St.p rfl rfl ?_
    refine St.gSplit (dj := 16) _ rfl (fun hb1 => ?_) (fun hb1 => ?_)
    · replace hj1 := bif_t hb1 hj1
      refine St.gOn (dj := 16) rfl rfl ?_
      refine St.p rfl rfl ?_
      refine St.gOn (dj := 16) rfl rfl ?_
      refine St.p rfl rfl ?_
      refine St.gOn (dj := 16) rfl rfl ?_
      iterate 3 refine St.p rfl rfl ?_
      refine St.gSplit (dj := 21) _ rfl (fun hb2 => ?_) (fun hb2 => ?_)
      · replace hj1 := bif_t hb2 hj1
        refine St.gOn (dj := 21) rfl rfl ?_
        refine St.p rfl rfl ?_
        refine St.gOn (dj := 21) rfl rfl ?_
        refine St.asrt (fun _ w => (w.front .z).meltL) ?_
        obtain ⟨l1, hl1, hj1⟩ := bnd_e hj1
        refine St.sub (E := (cod eu8)) rfl rfl (.head _) rfl rfl rfl rfl rfl rfl rfl hl1 fun A2 c2 => ?_
        refine St.gOn (dj := 21) rfl rfl ?_
        refine St.buildSlice rfl rfl rfl rfl rfl rfl rfl rfl fun g3 => ?_
        refine St.gOn (dj := 21) rfl rfl ?_
        refine St.asrt (fun _ w => (w.front .z).litL (E := eu8) (e := 5) [1, 1, 23, 192, 192, 193, 0, 166] rfl rfl) ?_
        refine St.asrt (fun _ w => (w.front .z).meltL) ?_
        obtain ⟨r2, hr2, hj1⟩ := bnd_e hj1
        refine St.callV (c_ref01_Same hr2) ent18 rfl rfl rfl rfl ⟨(.tail _ (.head _)), (.head _), trivial⟩ ?_
        refine St.p rfl rfl ?_
        refine St.p rfl rfl ?_
        refine St.done ?_
        injection hj1 with hj1
        subst hj1
        refine St.thenN ?_
        exact St.hereE () ⟨rfl, trivial⟩ (fun _ w => ((.d (.d (.d (.k .z)))) : Keep _ _).sat w)
      · replace hj1 := bif_f hb2 hj1
        refine St.gOff (dj := 21) rfl rfl rfl rfl ?_
        refine St.gOff (dj := 21) rfl rfl rfl rfl ?_
        refine St.gOff (dj := 21) rfl rfl rfl rfl ?_
        refine St.gOff (dj := 21) rfl rfl rfl rfl ?_
        refine St.p rfl rfl ?_
        refine St.p rfl rfl ?_
        refine St.done ?_
        injection hj1 with hj1
        subst hj1
        refine St.thenN ?_
        exact St.hereE () ⟨rfl, trivial⟩ (fun _ w => ((.d (.k .z)) : Keep _ _).sat w)
    · replace hj1 := bif_f hb1 hj1
      refine St.gOff (dj := 16) rfl rfl rfl rfl ?_
      refine St.gOff (dj := 16) rfl rfl rfl rfl ?_
      refine St.gOff (dj := 16) rfl rfl rfl rfl ?_
      refine St.p rfl rfl ?_
      refine St.p rfl rfl ?_
      refine St.gOff (dj := 21) rfl rfl rfl rfl ?_
      refine St.gOff (dj := 21) rfl rfl rfl rfl ?_
      refine St.gOff (dj := 21) rfl rfl rfl rfl ?_
      refine St.gOff (dj := 21) rfl rfl rfl rfl ?_
      refine St.p rfl rfl ?_
      refine St.p rfl rfl ?_
      refine St.done ?_
      injection hj1 with hj1
      subst hj1
      refine St.thenN ?_
      exact St.hereE () ⟨rfl, trivial⟩ (fun _ w => ((.d (.k .z)) : Keep _ _).sat w)
  · rintro e1
    refine St.ret ?_
    repeat (first | refine St.thenR ?_ | refine St.blkR ?_)
    injection h with h
    subst h
    exact St.finR Tryd.results10 (.tmp rfl .nil) rfl [] ⟨rfl, rfl⟩ (fun _ w => ((.d .z) : Keep _ _).sat w)

theorem ent11 : Ent Tryd.prog 11 := ⟨_, Tryd.func11, by kernel_rfl, by kernel_rfl⟩

noncomputable def m_made_Roll (l_p0 : (List Int)) : Option T_Dice :=
  some (⟨l_p0, 0⟩ : T_Dice)

theorem c_made_Roll {l_p0 : (List Int)} {A1 : Option Addr} {c1 : Nat} {r : T_Dice} (h : m_made_Roll l_p0 = some r) :
    Fun Tryd.prog 11 [.slice A1 l_p0.length c1] [.ro (SlL ei64 A1 c1 l_p0)] (fun v_ F_ => ∃ (g1 : Nat) (A1 : Option Addr) (c1 : Nat), v_ = .pointer (some ⟨g1, 0, none⟩) ∧ F_ = [.ro (SlL ei64 A1 c1 r.L), .res (Box g1 62 [.slice A1 r.L.length c1, .int .i64 r.At])]) := by
  unfold m_made_Roll at h
  refine Fun.intro Tryd.func11 rfl rfl rfl fun w R => ?_
  refine St.seq ?_
  refine St.region ?_
  refine St.p rfl rfl ?_
  refine St.done ?_
  refine St.thenN ?_
  refine St.prune (Γ' := [(0, _)]) ⟨rfl, trivial⟩ (.k .z) ?_
  refine St.seq ?_
  refine St.region ?_
  refine St.p rfl rfl ?_
  refine St.p rfl rfl ?_
  refine St.box rfl rfl fun g1 => ?_
  refine St.p rfl rfl ?_
  refine St.done ?_
  refine St.thenN ?_
  refine St.prune (Γ' := [(2, _)]) ⟨rfl, trivial⟩ (.k (.k .z)) ?_
  refine St.ret ?_
  repeat (first | refine St.thenR ?_ | refine St.blkR ?_)
  injection h with h
  subst h
  exact St.finR Tryd.results11 (.tmp rfl .nil) rfl [.ro (SlL ei64 A1 c1 l_p0), .res (Box g1 62 [.slice A1 l_p0.length c1, .int .i64 0])] ⟨g1, A1, c1, rfl, rfl⟩ (fun _ w => ((.k (.k (.d .z))) : Keep _ _).sat (Sat.dup (G := [.ro (SlL ei64 A1 c1 l_p0)]) rfl ⟨(.tail _ (.head _)), trivial⟩ w))

theorem ent21 : Ent Tryd.prog 21 := ⟨_, Tryd.func21, by kernel_rfl, by kernel_rfl⟩

noncomputable def m_made_Mod (n_p0 : Int) (m_p1 : Int) : Option Int :=
  bnd (remM n_p0 m_p1) fun q1 => bif decide (q1 < 0) then (some (IntKind.wrap .i64 (q1 + m_p1))) else (some q1)

theorem c_made_Mod {n_p0 : Int} {m_p1 : Int} {r : Int} (h : m_made_Mod n_p0 m_p1 = some r) :
    Fun Tryd.prog 21 [.int .i64 n_p0, .int .i64 m_p1] [] (Val (.int .i64 r)) := by
  unfold m_made_Mod at h
  refine Fun.intro Tryd.func21 rfl rfl rfl fun w R => ?_
  refine St.seq ?_
  refine St.region ?_
  refine St.p rfl rfl ?_
  refine St.done ?_
  refine St.thenN ?_
  refine St.prune (Γ' := [(0, _), (1, _)]) ⟨rfl, rfl, trivial⟩ .z ?_
  refine St.seq ?_
  refine St.region ?_
  refine St.p rfl rfl ?_
  refine St.p rfl rfl ?_
  obtain ⟨q1, hq1, h⟩ := bnd_e h
  refine St.rem rfl rfl rfl hq1 ?_
  refine St.p rfl rfl ?_
  refine St.done ?_
  refine St.thenN ?_
  refine St.prune (Γ' := [(0, _), (1, _)]) ⟨rfl, rfl, trivial⟩ .z ?_
  refine St.seq ?_
  refine St.seq ?_
  refine St.region ?_
  refine St.p rfl rfl ?_
  refine St.p rfl rfl ?_
  refine St.done ?_
  refine St.thenN ?_
  refine St.prune (Γ' := [(0, _), (1, _), (9, _)]) ⟨rfl, rfl, rfl, trivial⟩ .z ?_
  refine St.cond _ rfl (fun hb1 => ?_) (fun hb1 => ?_)
  · replace h := bif_t hb1 h
    refine St.region ?_
    iterate 4 refine St.p rfl rfl ?_
    refine St.done ?_
    refine St.thenN ?_
    refine St.prune (Γ' := [(0, _)]) ⟨rfl, trivial⟩ .z ?_
    refine St.seq ?_
    refine St.region ?_
    refine St.p rfl rfl ?_
    refine St.p rfl rfl ?_
    refine St.done ?_
    refine St.thenN ?_
    refine St.prune (Γ' := [(4, _)]) ⟨rfl, trivial⟩ .z ?_
    refine St.ret ?_
    repeat (first | refine St.thenR ?_ | refine St.blkR ?_)
    injection h with h
    subst h
    exact St.finR Tryd.results21 (.tmp rfl .nil) rfl [] ⟨rfl, rfl⟩ (fun _ w => (.z : Keep _ _).sat w)
  · replace h := bif_f hb1 h
    refine St.skip ?_
    refine St.thenN ?_
    refine St.prune (Γ' := [(0, _)]) ⟨rfl, trivial⟩ .z ?_
    refine St.seq ?_
    refine St.region ?_
    refine St.p rfl rfl ?_
    refine St.p rfl rfl ?_
    refine St.done ?_
    refine St.thenN ?_
    refine St.prune (Γ' := [(4, _)]) ⟨rfl, trivial⟩ .z ?_
    refine St.ret ?_
    repeat (first | refine St.thenR ?_ | refine St.blkR ?_)
    injection h with h
    subst h
    exact St.finR Tryd.results21 (.tmp rfl .nil) rfl [] ⟨rfl, rfl⟩ (fun _ w => (.z : Keep _ _).sat w)

theorem ent23 : Ent Tryd.prog 23 := ⟨_, Tryd.func23, by kernel_rfl, by kernel_rfl⟩

noncomputable def m_made_Dice_Next (d_p0 : T_Dice) (n_p1 : Int) : Option (T_Dice × Int) :=
  bif decide (d_p0.At ≥ (d_p0.L.length : Int)) then (some (d_p0, 0)) else (bnd (elt d_p0.L (IntKind.wrap .i64 ((IntKind.wrap .i64 (d_p0.At + 1)) - 1))) fun x1 => bnd (m_made_Mod x1 n_p1) fun r1 => some ((⟨d_p0.L, IntKind.wrap .i64 (d_p0.At + 1)⟩ : T_Dice), r1))

theorem c_made_Dice_Next {d_p0 : T_Dice} {n_p1 : Int} {A1 : Option Addr} {c1 : Nat} {gb1 : Nat} {r : (T_Dice × Int)} (h : m_made_Dice_Next d_p0 n_p1 = some r) :
    Fun Tryd.prog 23 [.pointer (some ⟨gb1, 0, none⟩), .int .i64 n_p1] [.ro (SlL ei64 A1 c1 d_p0.L), .res (Box gb1 62 [.slice A1 d_p0.L.length c1, .int .i64 d_p0.At])] (fun v_ F_ => ∃ (A1 : Option Addr) (c1 : Nat), v_ = .int .i64 r.2 ∧ F_ = [.ro (SlL ei64 A1 c1 r.1.L), .res (Box gb1 62 [.slice A1 r.1.L.length c1, .int .i64 r.1.At])]) := by
  unfold m_made_Dice_Next at h
  refine Fun.intro Tryd.func23 rfl rfl rfl fun w R => ?_
  refine St.seq ?_
  refine St.region ?_
  refine St.p rfl rfl ?_
  refine St.done ?_
  refine St.thenN ?_
  refine St.prune (Γ' := [(0, _), (1, _)]) ⟨rfl, rfl, trivial⟩ (.k (.k .z)) ?_
  refine St.seq ?_
  refine St.seq ?_
  refine St.regionF mixed (by kernel_rfl) ?_
  iterate 3 refine St.p rfl rfl ?_
  refine St.loadB 1 rfl rfl (.tail _ (.head _)) rfl rfl ?_
  iterate 3 refine St.p rfl rfl ?_
  refine St.loadB 0 rfl rfl (.tail _ (.head _)) rfl rfl ?_
  refine St.p rfl rfl ?_
  refine St.p rfl rfl ?_
  refine St.doneQ ?_
  refine St.thenN ?_
  refine St.prune (Γ' := [(0, _), (1, _), (14, _)]) ⟨rfl, rfl, rfl, trivial⟩ (.k (.k .z)) ?_
  refine St.cond _ rfl (fun hb1 => ?_) (fun hb1 => ?_)
  · replace h := bif_t hb1 h
    refine St.seq ?_
    refine St.region ?_
    refine St.p rfl rfl ?_
    refine St.done ?_
    refine St.thenN ?_
    refine St.prune (Γ' := [(4, _)]) ⟨rfl, trivial⟩ (.k (.k .z)) ?_
    refine St.ret ?_
    repeat (first | refine St.thenR ?_ | refine St.blkR ?_)
    injection h with h
    subst h
    exact St.finR Tryd.results23 (.tmp rfl .nil) rfl [.ro (SlL ei64 A1 c1 d_p0.L), .res (Box gb1 62 [.slice A1 d_p0.L.length c1, .int .i64 d_p0.At])] ⟨A1, c1, rfl, rfl⟩ (fun _ w => ((.k (.k (.d .z))) : Keep _ _).sat (Sat.dup (G := [.ro (SlL ei64 A1 c1 d_p0.L)]) rfl ⟨(.tail _ (.head _)), trivial⟩ (w.front (.s .z))))
  · replace h := bif_f hb1 h
    refine St.skip ?_
    refine St.thenN ?_
    refine St.prune (Γ' := [(0, _), (1, _)]) ⟨rfl, rfl, trivial⟩ (.k (.k .z)) ?_
    refine St.seq ?_
    refine St.region ?_
    iterate 3 refine St.p rfl rfl ?_
    refine St.loadB 1 rfl rfl (.tail _ (.head _)) rfl rfl ?_
    iterate 3 refine St.p rfl rfl ?_
    refine St.store 1 rfl rfl rfl rfl rfl rfl (.s .z) rfl ?_
    refine St.done ?_
    refine St.thenN ?_
    refine St.prune (Γ' := [(0, _), (1, _)]) ⟨rfl, rfl, trivial⟩ (.k (.k .z)) ?_
    refine St.seq ?_
    refine St.regionF mixed (by kernel_rfl) ?_
    iterate 3 refine St.p rfl rfl ?_
    refine St.loadB 0 rfl rfl (.head _) rfl rfl ?_
    iterate 3 refine St.p rfl rfl ?_
    refine St.loadB 1 rfl rfl (.head _) rfl rfl ?_
    refine St.p rfl rfl ?_
    obtain ⟨x1, hx1, h⟩ := bnd_e h
    refine St.ixL hx1 rfl rfl rfl (.tail _ (.head _)) rfl rfl rfl rfl rfl fun b1 ob1 => ?_
    refine St.load ob1 0 rfl rfl (.head _) rfl rfl ?_
    refine St.p rfl rfl ?_
    obtain ⟨r1, hr1, h⟩ := bnd_e h
    refine St.callV (c_made_Mod hr1) ent21 rfl rfl rfl rfl trivial ?_
    refine St.p rfl rfl ?_
    refine St.doneQ ?_
    refine St.thenN ?_
    refine St.prune (Γ' := [(4, _)]) ⟨rfl, trivial⟩ (.d (.k (.k .z))) ?_
    refine St.ret ?_
    repeat (first | refine St.thenR ?_ | refine St.blkR ?_)
    injection h with h
    subst h
    exact St.finR Tryd.results23 (.tmp rfl .nil) rfl [.ro (SlL ei64 A1 c1 d_p0.L), .res (Box gb1 62 [.slice A1 d_p0.L.length c1, .int .i64 (IntKind.wrap .i64 (d_p0.At + 1))])] ⟨A1, c1, rfl, rfl⟩ (fun _ w => ((.k (.k (.d .z))) : Keep _ _).sat (Sat.dup (G := [.ro (SlL ei64 A1 c1 d_p0.L)]) rfl ⟨(.tail _ (.head _)), trivial⟩ w))

theorem ent24 : Ent Tryd.prog 24 := ⟨_, Tryd.func24, by kernel_rfl, by kernel_rfl⟩

noncomputable def m_made_Dice_Bool (d_p0 : T_Dice) (n_p1 : Int) : Option (T_Dice × Bool) :=
  bnd (m_made_Dice_Next d_p0 n_p1) fun r1 => some (r1.1, (r1.2 == (IntKind.wrap .i64 (n_p1 - 1))))

theorem c_made_Dice_Bool {d_p0 : T_Dice} {n_p1 : Int} {A1 : Option Addr} {c1 : Nat} {gb1 : Nat} {r : (T_Dice × Bool)} (h : m_made_Dice_Bool d_p0 n_p1 = some r) :
    Fun Tryd.prog 24 [.pointer (some ⟨gb1, 0, none⟩), .int .i64 n_p1] [.ro (SlL ei64 A1 c1 d_p0.L), .res (Box gb1 62 [.slice A1 d_p0.L.length c1, .int .i64 d_p0.At])] (fun v_ F_ => ∃ (A1 : Option Addr) (c1 : Nat), v_ = .bool r.2 ∧ F_ = [.ro (SlL ei64 A1 c1 r.1.L), .res (Box gb1 62 [.slice A1 r.1.L.length c1, .int .i64 r.1.At])]) := by
  unfold m_made_Dice_Bool at h
  refine Fun.intro Tryd.func24 rfl rfl rfl fun w R => ?_
  refine St.seq ?_
  refine St.region ?_
  refine St.p rfl rfl ?_
  refine St.done ?_
  refine St.thenN ?_
  refine St.prune (Γ' := [(0, _), (1, _)]) ⟨rfl, rfl, trivial⟩ (.k (.k .z)) ?_
  refine St.seq ?_
  refine St.region ?_
  refine St.p rfl rfl ?_
  refine St.p rfl rfl ?_
  obtain ⟨r1, hr1, h⟩ := bnd_e h
  refine St.call (c_made_Dice_Next hr1) ent23 rfl rfl rfl (fun _ w => Sat.dup (G := [.ro (SlL ei64 A1 c1 d_p0.L)]) rfl ⟨(.tail _ (.head _)), trivial⟩ (w.front (.s .z))) ?_
  rintro _ _ ⟨A2, c2, rfl, rfl⟩
  refine St.asrt (F' := .ro (SlL ei64 A2 c2 r1.1.L) :: .res (Box gb1 62 [.slice A2 r1.1.L.length c2, .int .i64 r1.1.At]) :: .ro (SlL ei64 A1 c1 d_p0.L) :: R) (fun _ w => w) ?_
  iterate 4 refine St.p rfl rfl ?_
  refine St.done ?_
  refine St.thenN ?_
  refine St.prune (Γ' := [(4, _)]) ⟨rfl, trivial⟩ (.k (.k (.d .z))) ?_
  refine St.ret ?_
  repeat (first | refine St.thenR ?_ | refine St.blkR ?_)
  injection h with h
  subst h
  exact St.finR Tryd.results24 (.tmp rfl .nil) rfl [.ro (SlL ei64 A2 c2 r1.1.L), .res (Box gb1 62 [.slice A2 r1.1.L.length c2, .int .i64 r1.1.At])] ⟨A2, c2, rfl, rfl⟩ (fun _ w => ((.k (.k (.d .z))) : Keep _ _).sat (Sat.dup (G := [.ro (SlL ei64 A2 c2 r1.1.L)]) rfl ⟨(.tail _ (.head _)), trivial⟩ (w.front (.s .z))))

theorem ent25 : Ent Tryd.prog 25 := ⟨_, Tryd.func25, by kernel_rfl, by kernel_rfl⟩

noncomputable def m_made_Dice_Byte (d_p0 : T_Dice) : Option (T_Dice × Int) :=
  bnd (m_made_Dice_Bool d_p0 3) fun r1 => bif r1.2 then (bnd (m_made_Dice_Next r1.1 8) fun r2 => bnd (elt ([0, 1, 127, 128, 254, 255, 15, 240]) r2.2) fun x1 => some (r2.1, x1)) else (bnd (m_made_Dice_Next r1.1 256) fun r3 => some (r3.1, IntKind.wrap .u8 r3.2))

theorem c_made_Dice_Byte {d_p0 : T_Dice} {A1 : Option Addr} {c1 : Nat} {gb1 : Nat} {r : (T_Dice × Int)} (h : m_made_Dice_Byte d_p0 = some r) :
    Fun Tryd.prog 25 [.pointer (some ⟨gb1, 0, none⟩)] [.ro (SlL ei64 A1 c1 d_p0.L), .res (Box gb1 62 [.slice A1 d_p0.L.length c1, .int .i64 d_p0.At])] (fun v_ F_ => ∃ (A1 : Option Addr) (c1 : Nat), v_ = .int .u8 r.2 ∧ F_ = [.ro (SlL ei64 A1 c1 r.1.L), .res (Box gb1 62 [.slice A1 r.1.L.length c1, .int .i64 r.1.At])]) := by
  unfold m_made_Dice_Byte at h
  refine Fun.intro Tryd.func25 rfl rfl rfl fun w R => ?_
  refine St.seq ?_
  refine St.region ?_
  refine St.p rfl rfl ?_
  refine St.done ?_
  refine St.thenN ?_
  refine St.prune (Γ' := [(0, _)]) ⟨rfl, trivial⟩ (.k (.k .z)) ?_
  refine St.seq ?_
  refine St.region ?_
  refine St.p rfl rfl ?_
  refine St.alloc rfl rfl fun g1 => ?_
  refine St.store 0 rfl rfl rfl rfl rfl rfl .z rfl ?_
  refine St.asrt (fun _ w => (w.front .z).litL (E := eu8) (e := 75) [0, 1, 127, 128, 254, 255, 15, 240] rfl rfl) ?_
  refine St.done ?_
  refine St.thenN ?_
  refine St.prune (Γ' := [(0, _), (3, _)]) ⟨rfl, rfl, trivial⟩ (.k (.k (.k .z))) ?_
  refine St.seq ?_
  refine St.seq ?_
  refine St.region ?_
  refine St.p rfl rfl ?_
  obtain ⟨r1, hr1, h⟩ := bnd_e h
  refine St.call (c_made_Dice_Bool hr1) ent24 rfl rfl rfl (fun _ w => Sat.dup (G := [.ro (SlL ei64 A1 c1 d_p0.L)]) rfl ⟨(.tail _ (.tail _ (.head _))), trivial⟩ (w.front (.s (.s .z)))) ?_
  rintro _ _ ⟨A2, c2, rfl, rfl⟩
  refine St.asrt (F' := .ro (SlL ei64 A2 c2 r1.1.L) :: .res (Box gb1 62 [.slice A2 r1.1.L.length c2, .int .i64 r1.1.At]) :: .res (OwnL eu8 75 (some ⟨g1, 0, none⟩) ([0, 1, 127, 128, 254, 255, 15, 240] : List Int).length ([0, 1, 127, 128, 254, 255, 15, 240])) :: .ro (SlL ei64 A1 c1 d_p0.L) :: R) (fun _ w => w) ?_
  refine St.done ?_
  refine St.thenN ?_
  refine St.prune (Γ' := [(0, _), (3, _), (6, _)]) ⟨rfl, rfl, rfl, trivial⟩ (.k (.k (.k (.d .z)))) ?_
  refine St.cond _ rfl (fun hb1 => ?_) (fun hb1 => ?_)
  · replace h := bif_t hb1 h
    refine St.seq ?_
    refine St.region ?_
    refine St.p rfl rfl ?_
    obtain ⟨r2, hr2, h⟩ := bnd_e h
    refine St.call (c_made_Dice_Next hr2) ent23 rfl rfl rfl (fun _ w => Sat.dup (G := [.ro (SlL ei64 A2 c2 r1.1.L)]) rfl ⟨(.tail _ (.head _)), trivial⟩ (w.front (.s .z))) ?_
    rintro _ _ ⟨A3, c3, rfl, rfl⟩
    refine St.asrt (F' := .ro (SlL ei64 A3 c3 r2.1.L) :: .res (Box gb1 62 [.slice A3 r2.1.L.length c3, .int .i64 r2.1.At]) :: .ro (SlL ei64 A2 c2 r1.1.L) :: .res (OwnL eu8 75 (some ⟨g1, 0, none⟩) ([0, 1, 127, 128, 254, 255, 15, 240] : List Int).length ([0, 1, 127, 128, 254, 255, 15, 240])) :: R) (fun _ w => w) ?_
    obtain ⟨x1, hx1, h⟩ := bnd_e h
    refine St.ixA (sz := 1) hx1 rfl rfl rfl rfl rfl rfl rfl rfl ?_
    refine St.ldO 0 hx1 rfl rfl (.tail _ (.tail _ (.tail _ (.head _)))) rfl rfl ?_
    refine St.p rfl rfl ?_
    refine St.done ?_
    refine St.thenN ?_
    refine St.prune (Γ' := [(2, _)]) ⟨rfl, trivial⟩ (.k (.k (.d (.d .z)))) ?_
    refine St.ret ?_
    repeat (first | refine St.thenR ?_ | refine St.blkR ?_)
    injection h with h
    subst h
    exact St.finR Tryd.results25 (.tmp rfl .nil) rfl [.ro (SlL ei64 A3 c3 r2.1.L), .res (Box gb1 62 [.slice A3 r2.1.L.length c3, .int .i64 r2.1.At])] ⟨A3, c3, rfl, rfl⟩ (fun _ w => ((.k (.k (.d .z))) : Keep _ _).sat (Sat.dup (G := [.ro (SlL ei64 A3 c3 r2.1.L)]) rfl ⟨(.tail _ (.head _)), trivial⟩ (w.front (.s .z))))
  · replace h := bif_f hb1 h
    refine St.skip ?_
    refine St.thenN ?_
    refine St.prune (Γ' := [(0, _)]) ⟨rfl, trivial⟩ (.k (.k (.d .z))) ?_
    refine St.seq ?_
    refine St.region ?_
    refine St.p rfl rfl ?_
    obtain ⟨r3, hr3, h⟩ := bnd_e h
    refine St.call (c_made_Dice_Next hr3) ent23 rfl rfl rfl (fun _ w => Sat.dup (G := [.ro (SlL ei64 A2 c2 r1.1.L)]) rfl ⟨(.tail _ (.head _)), trivial⟩ (w.front (.s .z))) ?_
    rintro _ _ ⟨A4, c4, rfl, rfl⟩
    refine St.asrt (F' := .ro (SlL ei64 A4 c4 r3.1.L) :: .res (Box gb1 62 [.slice A4 r3.1.L.length c4, .int .i64 r3.1.At]) :: .ro (SlL ei64 A2 c2 r1.1.L) :: R) (fun _ w => w) ?_
    refine St.p rfl rfl ?_
    refine St.p rfl rfl ?_
    refine St.done ?_
    refine St.thenN ?_
    refine St.prune (Γ' := [(2, _)]) ⟨rfl, trivial⟩ (.k (.k (.d .z))) ?_
    refine St.ret ?_
    repeat (first | refine St.thenR ?_ | refine St.blkR ?_)
    injection h with h
    subst h
    exact St.finR Tryd.results25 (.tmp rfl .nil) rfl [.ro (SlL ei64 A4 c4 r3.1.L), .res (Box gb1 62 [.slice A4 r3.1.L.length c4, .int .i64 r3.1.At])] ⟨A4, c4, rfl, rfl⟩ (fun _ w => ((.k (.k (.d .z))) : Keep _ _).sat (Sat.dup (G := [.ro (SlL ei64 A4 c4 r3.1.L)]) rfl ⟨(.tail _ (.head _)), trivial⟩ (w.front (.s .z))))

theorem ent47 : Ent Tryd.prog 47 := ⟨_, Tryd.func47, by kernel_rfl, by kernel_rfl⟩

noncomputable def m_made_Dice_Text (d_p0 : T_Dice) (alphabet : ByteArray) (n_p2 : Int) : Option (T_Dice × ByteArray) :=
  bnd (loopM (τ := ByteArray × List Int × Int) (fun (s1 : ByteArray × Int × List Int × Int) => bif decide (s1.2.1 < n_p2) then (bnd (m_made_Dice_Next (⟨s1.2.2.1, s1.2.2.2⟩ : T_Dice) (alphabet.size : Int)) fun r1 => bnd (subS alphabet r1.2 (IntKind.wrap .i64 (r1.2 + 1))) fun t1 => bnd (catS s1.1 t1) fun t2 => some (.next (t2, IntKind.wrap .i64 (s1.2.1 + 1), r1.1.L, r1.1.At))) else (some (.done (s1.1, s1.2.2.1, s1.2.2.2)))) (⟨#[]⟩, 0, d_p0.L, d_p0.At)) fun o1 => some ((⟨o1.2.1, o1.2.2⟩ : T_Dice), o1.1)

theorem c_made_Dice_Text {d_p0 : T_Dice} {alphabet : ByteArray} {n_p2 : Int} {A1 : Option Addr} {c1 : Nat} {gb1 : Nat} {r : (T_Dice × ByteArray)} (h : m_made_Dice_Text d_p0 alphabet n_p2 = some r) :
    Fun Tryd.prog 47 [.pointer (some ⟨gb1, 0, none⟩), .string alphabet, .int .i64 n_p2] [.ro (SlL ei64 A1 c1 d_p0.L), .res (Box gb1 62 [.slice A1 d_p0.L.length c1, .int .i64 d_p0.At])] (fun v_ F_ => ∃ (A1 : Option Addr) (c1 : Nat), v_ = .string r.2 ∧ F_ = [.ro (SlL ei64 A1 c1 r.1.L), .res (Box gb1 62 [.slice A1 r.1.L.length c1, .int .i64 r.1.At])]) := by
  unfold m_made_Dice_Text at h
  refine Fun.intro Tryd.func47 rfl rfl rfl fun w R => ?_
  refine St.seq ?_
  refine St.region ?_
  refine St.p rfl rfl ?_
  refine St.done ?_
  refine St.thenN ?_
  refine St.prune (Γ' := [(0, _), (1, _), (2, _)]) ⟨rfl, rfl, rfl, trivial⟩ (.k (.k .z)) ?_
  refine St.seq ?_
  refine St.region ?_
  refine St.p rfl rfl ?_
  refine St.done ?_
  refine St.thenN ?_
  refine St.seq ?_
  refine St.seq ?_
  refine St.region ?_
  refine St.p rfl rfl ?_
  refine St.done ?_
  refine St.thenN ?_
  obtain ⟨o1, hl1, h⟩ := bnd_e h
  refine St.cutE (fun (e2 : Option Addr × Nat) => [(7, .string o1.1)]) (fun e2 => .ro (SlL ei64 e2.1 e2.2 o1.2.1) :: .res (Box gb1 62 [.slice e2.1 o1.2.1.length e2.2, .int .i64 o1.2.2]) :: R) ?_ ?_
  · refine St.block ?_
    refine St.loop hl1 (fun (s1 : ByteArray × Int × List Int × Int) (e1 : Option Addr × Nat) => [(0, .pointer (some ⟨gb1, 0, none⟩)), (1, .string alphabet), (2, .int .i64 n_p2), (7, .string s1.1), (8, .int .i64 s1.2.1)]) (fun s1 e1 => .ro (SlL ei64 e1.1 e1.2 s1.2.2.1) :: .res (Box gb1 62 [.slice e1.1 s1.2.2.1.length e1.2, .int .i64 s1.2.2.2]) :: R) (fun _ _ => True) (A1, c1) trivial ⟨rfl, rfl, rfl, rfl, rfl, trivial⟩ (fun _ w => ((.k (.k .z)) : Keep _ _).sat w) ?_
    rintro s1 ⟨A2, c2⟩ - hit1
    obtain ⟨st1, hm1, hd1⟩ := iter_e hit1
    have h1 := hm1
    refine St.seq ?_
    refine St.seq ?_
    refine St.region ?_
    iterate 3 refine St.p rfl rfl ?_
    refine St.done ?_
    refine St.thenN ?_
    refine St.prune (Γ' := [(0, _), (1, _), (2, _), (7, _), (8, _), (12, _)]) ⟨rfl, rfl, rfl, rfl, rfl, rfl, trivial⟩ (.k (.k .z)) ?_
    refine St.cond _ rfl (fun hb1 => ?_) (fun hb1 => ?_)
    · replace h1 := bif_t hb1 h1
      refine St.skip ?_
      refine St.thenN ?_
      refine St.prune (Γ' := [(0, _), (1, _), (2, _), (7, _), (8, _)]) ⟨rfl, rfl, rfl, rfl, rfl, trivial⟩ (.k (.k .z)) ?_
      refine St.seq ?_
      refine St.block ?_
      refine St.seq ?_
      refine St.region ?_
      iterate 3 refine St.p rfl rfl ?_
      obtain ⟨r1, hr1, h1⟩ := bnd_e h1
      refine St.call (c_made_Dice_Next hr1) ent23 rfl rfl rfl (fun _ w => Sat.dup (G := [.ro (SlL ei64 A2 c2 s1.2.2.1)]) rfl ⟨(.tail _ (.head _)), trivial⟩ (w.front (.s .z))) ?_
      rintro _ _ ⟨A4, c4, rfl, rfl⟩
      refine St.asrt (F' := .ro (SlL ei64 A4 c4 r1.1.L) :: .res (Box gb1 62 [.slice A4 r1.1.L.length c4, .int .i64 r1.1.At]) :: .ro (SlL ei64 A2 c2 s1.2.2.1) :: R) (fun _ w => w) ?_
      refine St.p rfl rfl ?_
      refine St.done ?_
      refine St.thenN ?_
      refine St.prune (Γ' := [(0, _), (1, _), (2, _), (7, _), (8, _), (9, _)]) ⟨rfl, rfl, rfl, rfl, rfl, rfl, trivial⟩ (.k (.k (.d .z))) ?_
      refine St.region ?_
      iterate 5 refine St.p rfl rfl ?_
      obtain ⟨t1, ht1, h1⟩ := bnd_e h1
      refine St.subS rfl rfl rfl rfl rfl rfl ht1 ?_
      obtain ⟨t2, ht2, h1⟩ := bnd_e h1
      refine St.catS rfl rfl rfl ht2 ?_
      refine St.p rfl rfl ?_
      refine St.done ?_
      refine St.blkN ?_
      refine St.thenN ?_
      refine St.prune (Γ' := [(0, _), (1, _), (2, _), (7, _), (8, _)]) ⟨rfl, rfl, rfl, rfl, rfl, trivial⟩ (.k (.k .z)) ?_
      refine St.region ?_
      iterate 3 refine St.p rfl rfl ?_
      refine St.done ?_
      injection h1 with h1
      subst h1
      refine St.thenN ?_
      exact St.again _ (A4, c4) hm1 trivial ⟨rfl, rfl, rfl, rfl, rfl, trivial⟩ (fun _ w => ((.k (.k .z)) : Keep _ _).sat w)
    · replace h1 := bif_f hb1 h1
      refine St.exit ?_
      repeat (first | refine St.thenX ?_ | refine St.blkMiss rfl ?_)
      refine St.blkHit ?_
      injection h1 with h1
      subst h1
      have ho := hd1 _ rfl
      subst ho
      refine St.thenN ?_
      exact St.hereE (A2, c2) ⟨rfl, trivial⟩ (fun _ w => ((.k (.k .z)) : Keep _ _).sat w)
  · rintro ⟨A3, c3⟩
    refine St.seq ?_
    refine St.region ?_
    refine St.p rfl rfl ?_
    refine St.p rfl rfl ?_
    refine St.done ?_
    refine St.thenN ?_
    refine St.prune (Γ' := [(6, _)]) ⟨rfl, trivial⟩ (.k (.k .z)) ?_
    refine St.ret ?_
    repeat (first | refine St.thenR ?_ | refine St.blkR ?_)
    injection h with h
    subst h
    exact St.finR Tryd.results47 (.tmp rfl .nil) rfl [.ro (SlL ei64 A3 c3 o1.2.1), .res (Box gb1 62 [.slice A3 o1.2.1.length c3, .int .i64 o1.2.2])] ⟨A3, c3, rfl, rfl⟩ (fun _ w => ((.k (.k (.d .z))) : Keep _ _).sat (Sat.dup (G := [.ro (SlL ei64 A3 c3 o1.2.1)]) rfl ⟨(.tail _ (.head _)), trivial⟩ (w.front (.s .z))))

theorem ent33 : Ent Tryd.prog 33 := ⟨_, Tryd.func33, by kernel_rfl, by kernel_rfl⟩

noncomputable def m_made_Dice_Bytes (d_p0 : T_Dice) (n_p1 : Int) : Option (T_Dice × (List Int)) :=
  bnd (m_made_Dice_Next d_p0 (IntKind.wrap .i64 (n_p1 + 1))) fun r1 => bnd (loopM (τ := List Int × List Int × Int) (fun (s1 : List Int × Int × List Int × Int) => bif decide (s1.2.1 > 0) then (bnd (m_made_Dice_Byte (⟨s1.2.2.1, s1.2.2.2⟩ : T_Dice)) fun r2 => bnd (app 1 s1.1 [r2.2]) fun l1 => some (.next (l1, IntKind.wrap .i64 (s1.2.1 - 1), r2.1.L, r2.1.At))) else (some (.done (s1.1, s1.2.2.1, s1.2.2.2)))) ([], r1.2, r1.1.L, r1.1.At)) fun o1 => some ((⟨o1.2.1, o1.2.2⟩ : T_Dice), o1.1)

theorem c_made_Dice_Bytes {d_p0 : T_Dice} {n_p1 : Int} {A1 : Option Addr} {c1 : Nat} {gb1 : Nat} {r : (T_Dice × (List Int))} (h : m_made_Dice_Bytes d_p0 n_p1 = some r) :
    Fun Tryd.prog 33 [.pointer (some ⟨gb1, 0, none⟩), .int .i64 n_p1] [.ro (SlL ei64 A1 c1 d_p0.L), .res (Box gb1 62 [.slice A1 d_p0.L.length c1, .int .i64 d_p0.At])] (fun v_ F_ => ∃ (A1 : Option Addr) (c1 : Nat) (A2 : Option Addr) (c2 : Nat), v_ = .slice A2 r.2.length c2 ∧ F_ = [.ro (SlL ei64 A1 c1 r.1.L), .res (Box gb1 62 [.slice A1 r.1.L.length c1, .int .i64 r.1.At]), .res (OwnL eu8 5 A2 c2 r.2)]) := by
  unfold m_made_Dice_Bytes at h
  refine Fun.intro Tryd.func33 rfl rfl rfl fun w R => ?_
  refine St.seq ?_
  refine St.region ?_
  refine St.p rfl rfl ?_
  refine St.done ?_
  refine St.thenN ?_
  refine St.prune (Γ' := [(0, _), (1, _)]) ⟨rfl, rfl, trivial⟩ (.k (.k .z)) ?_
  refine St.seq ?_
  refine St.region ?_
  refine St.p rfl rfl ?_
  refine St.done ?_
  refine St.thenN ?_
  refine St.seq ?_
  refine St.seq ?_
  refine St.region ?_
  iterate 3 refine St.p rfl rfl ?_
  obtain ⟨r1, hr1, h⟩ := bnd_e h
  refine St.call (c_made_Dice_Next hr1) ent23 rfl rfl rfl (fun _ w => Sat.dup (G := [.ro (SlL ei64 A1 c1 d_p0.L)]) rfl ⟨(.tail _ (.head _)), trivial⟩ (w.front (.s .z))) ?_
  rintro _ _ ⟨A2, c2, rfl, rfl⟩
  refine St.asrt (F' := .ro (SlL ei64 A2 c2 r1.1.L) :: .res (Box gb1 62 [.slice A2 r1.1.L.length c2, .int .i64 r1.1.At]) :: .ro (SlL ei64 A1 c1 d_p0.L) :: R) (fun _ w => w) ?_
  refine St.p rfl rfl ?_
  refine St.done ?_
  refine St.thenN ?_
  refine St.prune (Γ' := [(0, _), (5, _), (6, _)]) ⟨rfl, rfl, rfl, trivial⟩ (.k (.k (.d .z))) ?_
  refine St.asrt (fun _ w => w.nilL eu8 5) ?_
  obtain ⟨o1, hl1, h⟩ := bnd_e h
  refine St.cutE (fun (e2 : Option Addr × Nat × Option Addr × Nat) => [(5, .slice e2.1 o1.1.length e2.2.1)]) (fun e2 => .ro (SlL ei64 e2.2.2.1 e2.2.2.2 o1.2.1) :: .res (OwnL eu8 5 e2.1 e2.2.1 o1.1) :: .res (Box gb1 62 [.slice e2.2.2.1 o1.2.1.length e2.2.2.2, .int .i64 o1.2.2]) :: R) ?_ ?_
  · refine St.block ?_
    refine St.loop hl1 (fun (s1 : List Int × Int × List Int × Int) (e1 : Option Addr × Nat × Option Addr × Nat) => [(0, .pointer (some ⟨gb1, 0, none⟩)), (5, .slice e1.1 s1.1.length e1.2.1), (6, .int .i64 s1.2.1)]) (fun s1 e1 => .ro (SlL ei64 e1.2.2.1 e1.2.2.2 s1.2.2.1) :: .res (OwnL eu8 5 e1.1 e1.2.1 s1.1) :: .res (Box gb1 62 [.slice e1.2.2.1 s1.2.2.1.length e1.2.2.2, .int .i64 s1.2.2.2]) :: R) (fun _ _ => True) (none, 0, A2, c2) trivial ⟨rfl, rfl, rfl, trivial⟩ (fun _ w => ((.k (.k (.k .z))) : Keep _ _).sat (((w.front (.s (.s .z))).front (.s .z)).front (.s (.s .z)))) ?_
    rintro s1 ⟨A3, c3, A4, c4⟩ - hit1
    obtain ⟨st1, hm1, hd1⟩ := iter_e hit1
    have h1 := hm1
    refine St.seq ?_
    refine St.seq ?_
    refine St.region ?_
    refine St.p rfl rfl ?_
    refine St.p rfl rfl ?_
    refine St.done ?_
    refine St.thenN ?_
    refine St.prune (Γ' := [(0, _), (5, _), (6, _), (12, _)]) ⟨rfl, rfl, rfl, rfl, trivial⟩ (.k (.k (.k .z))) ?_
    refine St.cond _ rfl (fun hb1 => ?_) (fun hb1 => ?_)
    · replace h1 := bif_t hb1 h1
      refine St.skip ?_
      refine St.thenN ?_
      refine St.prune (Γ' := [(0, _), (5, _), (6, _)]) ⟨rfl, rfl, rfl, trivial⟩ (.k (.k (.k .z))) ?_
      refine St.seq ?_
      refine St.block ?_
      refine St.region ?_
      refine St.p rfl rfl ?_
      refine St.p rfl rfl ?_
      obtain ⟨r2, hr2, h1⟩ := bnd_e h1
      refine St.call (c_made_Dice_Byte hr2) ent25 rfl rfl rfl (fun _ w => Sat.dup (G := [.ro (SlL ei64 A4 c4 s1.2.2.1)]) rfl ⟨(.tail _ (.head _)), trivial⟩ (w.front (.s (.s .z)))) ?_
      rintro _ _ ⟨A7, c7, rfl, rfl⟩
      refine St.asrt (F' := .ro (SlL ei64 A7 c7 r2.1.L) :: .res (Box gb1 62 [.slice A7 r2.1.L.length c7, .int .i64 r2.1.At]) :: .ro (SlL ei64 A4 c4 s1.2.2.1) :: .res (OwnL eu8 5 A3 c3 s1.1) :: R) (fun _ w => w) ?_
      refine St.buildSlice rfl rfl rfl rfl rfl rfl rfl rfl fun g1 => ?_
      obtain ⟨l1, hl1, h1⟩ := bnd_e h1
      refine St.app (E := eu8) hl1 rfl rfl rfl (.s (.s (.s (.s .z)))) rfl rfl rfl rfl rfl rfl rfl rfl (srcB (.head _) rfl rfl) rfl rfl fun A8 c8 => ?_
      refine St.p rfl rfl ?_
      refine St.done ?_
      refine St.blkN ?_
      refine St.thenN ?_
      refine St.prune (Γ' := [(0, _), (5, _), (6, _)]) ⟨rfl, rfl, rfl, trivial⟩ (.k (.d (.k (.k (.d .z))))) ?_
      refine St.region ?_
      iterate 3 refine St.p rfl rfl ?_
      refine St.done ?_
      injection h1 with h1
      subst h1
      refine St.thenN ?_
      exact St.again _ (A8, c8, A7, c7) hm1 trivial ⟨rfl, rfl, rfl, trivial⟩ (fun _ w => ((.k (.k (.k .z))) : Keep _ _).sat (((w.front (.s (.s .z))).front (.s .z)).front (.s (.s .z))))
    · replace h1 := bif_f hb1 h1
      refine St.exit ?_
      repeat (first | refine St.thenX ?_ | refine St.blkMiss rfl ?_)
      refine St.blkHit ?_
      injection h1 with h1
      subst h1
      have ho := hd1 _ rfl
      subst ho
      refine St.thenN ?_
      exact St.hereE (A3, c3, A4, c4) ⟨rfl, trivial⟩ (fun _ w => ((.k (.k (.k .z))) : Keep _ _).sat w)
  · rintro ⟨A5, c5, A6, c6⟩
    refine St.seq ?_
    refine St.region ?_
    refine St.p rfl rfl ?_
    refine St.p rfl rfl ?_
    refine St.done ?_
    refine St.thenN ?_
    refine St.prune (Γ' := [(4, _)]) ⟨rfl, trivial⟩ (.k (.k (.k .z))) ?_
    refine St.ret ?_
    repeat (first | refine St.thenR ?_ | refine St.blkR ?_)
    injection h with h
    subst h
    exact St.finR Tryd.results33 (.tmp rfl .nil) rfl [.ro (SlL ei64 A6 c6 o1.2.1), .res (Box gb1 62 [.slice A6 o1.2.1.length c6, .int .i64 o1.2.2]), .res (OwnL eu8 5 A5 c5 o1.1)] ⟨A6, c6, A5, c5, rfl, rfl⟩ (fun _ w => ((.k (.k (.k (.d .z)))) : Keep _ _).sat (Sat.dup (G := [.ro (SlL ei64 A6 c6 o1.2.1)]) rfl ⟨(.tail _ (.tail _ (.head _))), trivial⟩ ((w.front (.s .z)).front (.s (.s .z)))))

theorem ent46 : Ent Tryd.prog 46 := ⟨_, Tryd.func46, by kernel_rfl, by kernel_rfl⟩

noncomputable def m_made_Dice_Field (d_p0 : T_Dice) : Option (T_Dice × T_Field) :=
  bnd (m_made_Dice_Next d_p0 4) fun r1 => bnd (m_made_Dice_Next r1.1 9) fun r2 => bif (r1.2 == 1) then (bnd (m_made_Dice_Text r2.1 (⟨#[48, 49, 50, 51, 52, 53, 54, 55, 56, 57, 32, 45, 46]⟩) (IntKind.wrap .i64 (2 * r2.2))) fun r3 => bnd (m_made_Dice_Bool r3.1 40) fun r4 => bif r4.2 then (bnd (mkS 1 0 63 63) fun l1 => some (r4.1, (⟨0, strOf l1⟩ : T_Field))) else (some (r4.1, (⟨r1.2, r3.2⟩ : T_Field)))) else (bif (r1.2 == 2) then (bnd ((bif ((r2.2.tmod 4) == 3) then (some (IntKind.wrap .i64 (r2.2 + 1))) else (some r2.2) : Option Int)) fun o1 => bnd (m_made_Dice_Text r2.1 (⟨#[32, 33, 48, 65, 57, 90, 95, 45, 46, 47]⟩) o1) fun r5 => bnd (m_made_Dice_Bool r5.1 40) fun r6 => bif r6.2 then (bnd (mkS 1 0 63 63) fun l2 => some (r6.1, (⟨0, strOf l2⟩ : T_Field))) else (some (r6.1, (⟨r1.2, r5.2⟩ : T_Field)))) else (bif (r1.2 == 3) then (bnd ((bif (r2.2 == 1) then (some 2) else (some r2.2) : Option Int)) fun o2 => bnd (m_made_Dice_Text r2.1 (⟨#[97, 98, 99, 88, 89, 90, 32, 48, 49, 57, 195, 169]⟩) o2) fun r7 => bnd (m_made_Dice_Bool r7.1 40) fun r8 => bif r8.2 then (bnd (mkS 1 0 63 63) fun l3 => some (r8.1, (⟨0, strOf l3⟩ : T_Field))) else (some (r8.1, (⟨r1.2, r7.2⟩ : T_Field)))) else (bnd (m_made_Dice_Bytes r2.1 r2.2) fun r9 => bnd (m_made_Dice_Bool r9.1 40) fun r10 => bif r10.2 then (bnd (mkS 1 0 63 63) fun l4 => some (r10.1, (⟨0, strOf l4⟩ : T_Field))) else (some (r10.1, (⟨r1.2, strOf r9.2⟩ : T_Field))))))

set_option maxHeartbeats 4000000 in
theorem c_made_Dice_Field {d_p0 : T_Dice} {A1 : Option Addr} {c1 : Nat} {gb1 : Nat} {r : (T_Dice × T_Field)} (h : m_made_Dice_Field d_p0 = some r) :
    Fun Tryd.prog 46 [.pointer (some ⟨gb1, 0, none⟩)] [.ro (SlL ei64 A1 c1 d_p0.L), .res (Box gb1 62 [.slice A1 d_p0.L.length c1, .int .i64 d_p0.At])] (fun v_ F_ => ∃ (A1 : Option Addr) (c1 : Nat), v_ = .agg #[.int .i64 r.2.Kind, .string r.2.Value] ∧ F_ = [.ro (SlL ei64 A1 c1 r.1.L), .res (Box gb1 62 [.slice A1 r.1.L.length c1, .int .i64 r.1.At])]) := by
  unfold m_made_Dice_Field at h
  refine Fun.intro Tryd.func46 rfl rfl rfl fun w R => ?_
  refine St.seq ?_
  refine St.region ?_
  refine St.alloc rfl rfl fun g1 => ?_
  refine St.done ?_
  refine St.thenN ?_
  refine St.seq ?_
  refine St.region ?_
  refine St.p rfl rfl ?_
  obtain ⟨r1, hr1, h⟩ := bnd_e h
  refine St.call (c_made_Dice_Next hr1) ent23 rfl rfl rfl (fun _ w => Sat.dup (G := [.ro (SlL ei64 A1 c1 d_p0.L)]) rfl ⟨(.tail _ (.tail _ (.head _))), trivial⟩ (w.front (.s (.s .z)))) ?_
  rintro _ _ ⟨A2, c2, rfl, rfl⟩
  refine St.asrt (F' := .ro (SlL ei64 A2 c2 r1.1.L) :: .res (Box gb1 62 [.slice A2 r1.1.L.length c2, .int .i64 r1.1.At]) :: .res (Box g1 60 [.int .i64 0, .string (⟨#[]⟩)]) :: .ro (SlL ei64 A1 c1 d_p0.L) :: R) (fun _ w => w) ?_
  refine St.p rfl rfl ?_
  refine St.alloc rfl rfl fun g2 => ?_
  refine St.store 0 rfl rfl rfl rfl rfl rfl .z rfl ?_
  refine St.done ?_
  refine St.thenN ?_
  refine St.prune (Γ' := [(0, _), (2, _), (3, _)]) ⟨rfl, rfl, rfl, trivial⟩ (.k (.k (.k (.k (.d .z))))) ?_
  refine St.seq ?_
  refine St.region ?_
  refine St.p rfl rfl ?_
  obtain ⟨r2, hr2, h⟩ := bnd_e h
  refine St.call (c_made_Dice_Next hr2) ent23 rfl rfl rfl (fun _ w => Sat.dup (G := [.ro (SlL ei64 A2 c2 r1.1.L)]) rfl ⟨(.tail _ (.tail _ (.head _))), trivial⟩ (w.front (.s (.s .z)))) ?_
  rintro _ _ ⟨A3, c3, rfl, rfl⟩
  refine St.asrt (F' := .ro (SlL ei64 A3 c3 r2.1.L) :: .res (Box gb1 62 [.slice A3 r2.1.L.length c3, .int .i64 r2.1.At]) :: .res (Box g2 60 [.int .i64 r1.2, .string (⟨#[]⟩)]) :: .ro (SlL ei64 A2 c2 r1.1.L) :: .res (Box g1 60 [.int .i64 0, .string (⟨#[]⟩)]) :: R) (fun _ w => w) ?_
  refine St.p rfl rfl ?_
  refine St.done ?_
  refine St.thenN ?_
  refine St.prune (Γ' := [(0, _), (2, _), (3, _), (4, _)]) ⟨rfl, rfl, rfl, rfl, trivial⟩ (.k (.k (.k (.d (.k .z))))) ?_
  refine St.seq ?_
  refine St.seq ?_
  refine St.region ?_
  refine St.p rfl rfl ?_
  refine St.loadB 0 rfl rfl (.tail _ (.tail _ (.head _))) rfl rfl ?_
  refine St.done ?_
  refine St.thenN ?_
  refine St.prune (Γ' := [(0, _), (2, _), (3, _), (4, _), (11, _)]) ⟨rfl, rfl, rfl, rfl, rfl, trivial⟩ (.k (.k (.k (.k .z)))) ?_
  refine St.block ?_
  refine St.seq ?_
  refine St.region ?_
  refine St.p rfl rfl ?_
  refine St.p rfl rfl ?_
  refine St.done ?_
  refine St.thenN ?_
  refine St.prune (Γ' := [(0, _), (2, _), (3, _), (4, _), (11, _), (17, _)]) ⟨rfl, rfl, rfl, rfl, rfl, rfl, trivial⟩ (.k (.k (.k (.k .z)))) ?_
  refine St.cond _ rfl (fun hb1 => ?_) (fun hb1 => ?_)
  · replace h := bif_t hb1 h
    refine St.region ?_
    iterate 3 refine St.p rfl rfl ?_
    obtain ⟨r3, hr3, h⟩ := bnd_e h
    refine St.call (c_made_Dice_Text hr3) ent47 rfl rfl rfl (fun _ w => Sat.dup (G := [.ro (SlL ei64 A3 c3 r2.1.L)]) rfl ⟨(.tail _ (.head _)), trivial⟩ (w.front (.s .z))) ?_
    rintro _ _ ⟨A4, c4, rfl, rfl⟩
    refine St.asrt (F' := .ro (SlL ei64 A4 c4 r3.1.L) :: .res (Box gb1 62 [.slice A4 r3.1.L.length c4, .int .i64 r3.1.At]) :: .ro (SlL ei64 A3 c3 r2.1.L) :: .res (Box g2 60 [.int .i64 r1.2, .string (⟨#[]⟩)]) :: .res (Box g1 60 [.int .i64 0, .string (⟨#[]⟩)]) :: R) (fun _ w => w) ?_
    refine St.p rfl rfl ?_
    refine St.store 1 rfl rfl rfl rfl rfl rfl (.s (.s (.s .z))) rfl ?_
    refine St.done ?_
    refine St.blkN ?_
    refine St.thenN ?_
    refine St.prune (Γ' := [(0, _), (2, _), (3, _)]) ⟨rfl, rfl, rfl, trivial⟩ (.k (.k (.k (.d (.k .z))))) ?_
    refine St.seq ?_
    refine St.seq ?_
    refine St.region ?_
    refine St.p rfl rfl ?_
    obtain ⟨r4, hr4, h⟩ := bnd_e h
    refine St.call (c_made_Dice_Bool hr4) ent24 rfl rfl rfl (fun _ w => Sat.dup (G := [.ro (SlL ei64 A4 c4 r3.1.L)]) rfl ⟨(.tail _ (.tail _ (.head _))), trivial⟩ (w.front (.s (.s .z)))) ?_
    rintro _ _ ⟨A5, c5, rfl, rfl⟩
    refine St.asrt (F' := .ro (SlL ei64 A5 c5 r4.1.L) :: .res (Box gb1 62 [.slice A5 r4.1.L.length c5, .int .i64 r4.1.At]) :: .res (Box g2 60 [.int .i64 r1.2, .string r3.2]) :: .ro (SlL ei64 A4 c4 r3.1.L) :: .res (Box g1 60 [.int .i64 0, .string (⟨#[]⟩)]) :: R) (fun _ w => w) ?_
    refine St.done ?_
    refine St.thenN ?_
    refine St.prune (Γ' := [(2, _), (3, _), (44, _)]) ⟨rfl, rfl, rfl, trivial⟩ (.k (.k (.k (.d (.k .z))))) ?_
    refine St.cond _ rfl (fun hb2 => ?_) (fun hb2 => ?_)
    · replace h := bif_t hb2 h
      refine St.region ?_
      obtain ⟨l1, hl1, h⟩ := bnd_e h
      refine St.mkL (E := eu8) 0 hl1 rfl rfl rfl rfl rfl rfl rfl rfl rfl rfl fun g3 => ?_
      refine St.asrt (fun _ w => (w.front .z).meltL) ?_
      refine St.b2s rfl rfl rfl rfl rfl rfl rfl rfl rfl (srcL (E := eu8) (.head _)) ?_
      refine St.p rfl rfl ?_
      refine St.store 0 rfl rfl rfl rfl rfl rfl (.s (.s (.s .z))) rfl ?_
      refine St.done ?_
      refine St.thenN ?_
      refine St.prune (Γ' := [(2, _), (3, _)]) ⟨rfl, rfl, trivial⟩ (.k (.d (.k (.k (.k .z))))) ?_
      refine St.seq ?_
      refine St.region ?_
      refine St.loadB 0 rfl rfl (.head _) rfl rfl ?_
      refine St.store 0 rfl rfl rfl rfl rfl rfl (.s (.s (.s .z))) rfl ?_
      refine St.done ?_
      refine St.thenN ?_
      refine St.prune (Γ' := [(2, _)]) ⟨rfl, trivial⟩ (.k (.d (.k (.k .z)))) ?_
      refine St.ret ?_
      repeat (first | refine St.thenR ?_ | refine St.blkR ?_)
      injection h with h
      subst h
      exact St.finR Tryd.results46 (.cell rfl (.head _) rfl .nil) rfl [.ro (SlL ei64 A5 c5 r4.1.L), .res (Box gb1 62 [.slice A5 r4.1.L.length c5, .int .i64 r4.1.At])] ⟨A5, c5, rfl, rfl⟩ (fun _ w => ((.k (.k (.d (.d .z)))) : Keep _ _).sat (Sat.dup (G := [.ro (SlL ei64 A5 c5 r4.1.L)]) rfl ⟨(.tail _ (.tail _ (.head _))), trivial⟩ (w.front (.s (.s .z)))))
    · replace h := bif_f hb2 h
      refine St.skip ?_
      refine St.thenN ?_
      refine St.prune (Γ' := [(2, _), (3, _)]) ⟨rfl, rfl, trivial⟩ (.k (.k (.k (.k .z)))) ?_
      refine St.seq ?_
      refine St.region ?_
      refine St.loadB 0 rfl rfl (.tail _ (.tail _ (.head _))) rfl rfl ?_
      refine St.store 0 rfl rfl rfl rfl rfl rfl (.s (.s (.s .z))) rfl ?_
      refine St.done ?_
      refine St.thenN ?_
      refine St.prune (Γ' := [(2, _)]) ⟨rfl, trivial⟩ (.k (.k (.k (.d .z)))) ?_
      refine St.ret ?_
      repeat (first | refine St.thenR ?_ | refine St.blkR ?_)
      injection h with h
      subst h
      exact St.finR Tryd.results46 (.cell rfl (.head _) rfl .nil) rfl [.ro (SlL ei64 A5 c5 r4.1.L), .res (Box gb1 62 [.slice A5 r4.1.L.length c5, .int .i64 r4.1.At])] ⟨A5, c5, rfl, rfl⟩ (fun _ w => ((.k (.k (.d (.d .z)))) : Keep _ _).sat (Sat.dup (G := [.ro (SlL ei64 A5 c5 r4.1.L)]) rfl ⟨(.tail _ (.tail _ (.head _))), trivial⟩ (w.front (.s (.s .z)))))
  · replace h := bif_f hb1 h
    refine St.seq ?_
    refine St.region ?_
    refine St.p rfl rfl ?_
    refine St.p rfl rfl ?_
    refine St.done ?_
    refine St.thenN ?_
    refine St.prune (Γ' := [(0, _), (2, _), (3, _), (4, _), (11, _), (24, _)]) ⟨rfl, rfl, rfl, rfl, rfl, rfl, trivial⟩ (.k (.k (.k (.k .z)))) ?_
    refine St.cond _ rfl (fun hb3 => ?_) (fun hb3 => ?_)
    · replace h := bif_t hb3 h
      refine St.seq ?_
      obtain ⟨o1, hj1, h⟩ := bnd_e h
      refine St.cutE (fun (e1 : Unit) => [(0, .pointer (some ⟨gb1, 0, none⟩)), (2, .pointer (some ⟨g1, 0, none⟩)), (3, .pointer (some ⟨g2, 0, none⟩)), (4, .int .i64 o1)]) (fun e1 => .ro (SlL ei64 A3 c3 r2.1.L) :: .res (Box gb1 62 [.slice A3 r2.1.L.length c3, .int .i64 r2.1.At]) :: .res (Box g2 60 [.int .i64 r1.2, .string (⟨#[]⟩)]) :: .res (Box g1 60 [.int .i64 0, .string (⟨#[]⟩)]) :: R) ?_ ?_
      · refine St.seq ?_
        refine St.region ?_
        iterate 3 refine St.p rfl rfl ?_
        refine St.done ?_
        refine St.thenN ?_
        refine St.prune (Γ' := [(0, _), (2, _), (3, _), (4, _), (28, _)]) ⟨rfl, rfl, rfl, rfl, rfl, trivial⟩ (.k (.k (.k (.k .z)))) ?_
        refine St.cond _ rfl (fun hb4 => ?_) (fun hb4 => ?_)
        · replace hj1 := bif_t hb4 hj1
          refine St.region ?_
          iterate 3 refine St.p rfl rfl ?_
          refine St.done ?_
          injection hj1 with hj1
          subst hj1
          refine St.thenN ?_
          exact St.hereE () ⟨rfl, rfl, rfl, rfl, trivial⟩ (fun _ w => ((.k (.k (.k (.k .z)))) : Keep _ _).sat w)
        · replace hj1 := bif_f hb4 hj1
          refine St.skip ?_
          injection hj1 with hj1
          subst hj1
          refine St.thenN ?_
          exact St.hereE () ⟨rfl, rfl, rfl, rfl, trivial⟩ (fun _ w => ((.k (.k (.k (.k .z)))) : Keep _ _).sat w)
      · rintro e1
        refine St.region ?_
        refine St.p rfl rfl ?_
        refine St.p rfl rfl ?_
        obtain ⟨r5, hr5, h⟩ := bnd_e h
        refine St.call (c_made_Dice_Text hr5) ent47 rfl rfl rfl (fun _ w => Sat.dup (G := [.ro (SlL ei64 A3 c3 r2.1.L)]) rfl ⟨(.tail _ (.head _)), trivial⟩ (w.front (.s .z))) ?_
        rintro _ _ ⟨A6, c6, rfl, rfl⟩
        refine St.asrt (F' := .ro (SlL ei64 A6 c6 r5.1.L) :: .res (Box gb1 62 [.slice A6 r5.1.L.length c6, .int .i64 r5.1.At]) :: .ro (SlL ei64 A3 c3 r2.1.L) :: .res (Box g2 60 [.int .i64 r1.2, .string (⟨#[]⟩)]) :: .res (Box g1 60 [.int .i64 0, .string (⟨#[]⟩)]) :: R) (fun _ w => w) ?_
        refine St.p rfl rfl ?_
        refine St.store 1 rfl rfl rfl rfl rfl rfl (.s (.s (.s .z))) rfl ?_
        refine St.done ?_
        refine St.blkN ?_
        refine St.thenN ?_
        refine St.prune (Γ' := [(0, _), (2, _), (3, _)]) ⟨rfl, rfl, rfl, trivial⟩ (.k (.k (.k (.d (.k .z))))) ?_
        refine St.seq ?_
        refine St.seq ?_
        refine St.region ?_
        refine St.p rfl rfl ?_
        obtain ⟨r6, hr6, h⟩ := bnd_e h
        refine St.call (c_made_Dice_Bool hr6) ent24 rfl rfl rfl (fun _ w => Sat.dup (G := [.ro (SlL ei64 A6 c6 r5.1.L)]) rfl ⟨(.tail _ (.tail _ (.head _))), trivial⟩ (w.front (.s (.s .z)))) ?_
        rintro _ _ ⟨A7, c7, rfl, rfl⟩
        refine St.asrt (F' := .ro (SlL ei64 A7 c7 r6.1.L) :: .res (Box gb1 62 [.slice A7 r6.1.L.length c7, .int .i64 r6.1.At]) :: .res (Box g2 60 [.int .i64 r1.2, .string r5.2]) :: .ro (SlL ei64 A6 c6 r5.1.L) :: .res (Box g1 60 [.int .i64 0, .string (⟨#[]⟩)]) :: R) (fun _ w => w) ?_
        refine St.done ?_
        refine St.thenN ?_
        refine St.prune (Γ' := [(2, _), (3, _), (44, _)]) ⟨rfl, rfl, rfl, trivial⟩ (.k (.k (.k (.d (.k .z))))) ?_
        refine St.cond _ rfl (fun hb5 => ?_) (fun hb5 => ?_)
        · replace h := bif_t hb5 h
          refine St.region ?_
          obtain ⟨l2, hl2, h⟩ := bnd_e h
          refine St.mkL (E := eu8) 0 hl2 rfl rfl rfl rfl rfl rfl rfl rfl rfl rfl fun g4 => ?_
          refine St.asrt (fun _ w => (w.front .z).meltL) ?_
          refine St.b2s rfl rfl rfl rfl rfl rfl rfl rfl rfl (srcL (E := eu8) (.head _)) ?_
          refine St.p rfl rfl ?_
          refine St.store 0 rfl rfl rfl rfl rfl rfl (.s (.s (.s .z))) rfl ?_
          refine St.done ?_
          refine St.thenN ?_
          refine St.prune (Γ' := [(2, _), (3, _)]) ⟨rfl, rfl, trivial⟩ (.k (.d (.k (.k (.k .z))))) ?_
          refine St.seq ?_
          refine St.region ?_
          refine St.loadB 0 rfl rfl (.head _) rfl rfl ?_
          refine St.store 0 rfl rfl rfl rfl rfl rfl (.s (.s (.s .z))) rfl ?_
          refine St.done ?_
          refine St.thenN ?_
          refine St.prune (Γ' := [(2, _)]) ⟨rfl, trivial⟩ (.k (.d (.k (.k .z)))) ?_
          refine St.ret ?_
          repeat (first | refine St.thenR ?_ | refine St.blkR ?_)
          injection h with h
          subst h
          exact St.finR Tryd.results46 (.cell rfl (.head _) rfl .nil) rfl [.ro (SlL ei64 A7 c7 r6.1.L), .res (Box gb1 62 [.slice A7 r6.1.L.length c7, .int .i64 r6.1.At])] ⟨A7, c7, rfl, rfl⟩ (fun _ w => ((.k (.k (.d (.d .z)))) : Keep _ _).sat (Sat.dup (G := [.ro (SlL ei64 A7 c7 r6.1.L)]) rfl ⟨(.tail _ (.tail _ (.head _))), trivial⟩ (w.front (.s (.s .z)))))
        · replace h := bif_f hb5 h
          refine St.skip ?_
          refine St.thenN ?_
          refine St.prune (Γ' := [(2, _), (3, _)]) ⟨rfl, rfl, trivial⟩ (.k (.k (.k (.k .z)))) ?_
          refine St.seq ?_
          refine St.region ?_
          refine St.loadB 0 rfl rfl (.tail _ (.tail _ (.head _))) rfl rfl ?_
          refine St.store 0 rfl rfl rfl rfl rfl rfl (.s (.s (.s .z))) rfl ?_
          refine St.done ?_
          refine St.thenN ?_
          refine St.prune (Γ' := [(2, _)]) ⟨rfl, trivial⟩ (.k (.k (.k (.d .z)))) ?_
          refine St.ret ?_
          repeat (first | refine St.thenR ?_ | refine St.blkR ?_)
          injection h with h
          subst h
          exact St.finR Tryd.results46 (.cell rfl (.head _) rfl .nil) rfl [.ro (SlL ei64 A7 c7 r6.1.L), .res (Box gb1 62 [.slice A7 r6.1.L.length c7, .int .i64 r6.1.At])] ⟨A7, c7, rfl, rfl⟩ (fun _ w => ((.k (.k (.d (.d .z)))) : Keep _ _).sat (Sat.dup (G := [.ro (SlL ei64 A7 c7 r6.1.L)]) rfl ⟨(.tail _ (.tail _ (.head _))), trivial⟩ (w.front (.s (.s .z)))))
    · replace h := bif_f hb3 h
      refine St.seq ?_
      refine St.region ?_
      refine St.p rfl rfl ?_
      refine St.p rfl rfl ?_
      refine St.done ?_
      refine St.thenN ?_
      refine St.prune (Γ' := [(0, _), (2, _), (3, _), (4, _), (35, _)]) ⟨rfl, rfl, rfl, rfl, rfl, trivial⟩ (.k (.k (.k (.k .z)))) ?_
      refine St.cond _ rfl (fun hb6 => ?_) (fun hb6 => ?_)
      · replace h := bif_t hb6 h
        refine St.seq ?_
        obtain ⟨o2, hj2, h⟩ := bnd_e h
        refine St.cutE (fun (e2 : Unit) => [(0, .pointer (some ⟨gb1, 0, none⟩)), (2, .pointer (some ⟨g1, 0, none⟩)), (3, .pointer (some ⟨g2, 0, none⟩)), (4, .int .i64 o2)]) (fun e2 => .ro (SlL ei64 A3 c3 r2.1.L) :: .res (Box gb1 62 [.slice A3 r2.1.L.length c3, .int .i64 r2.1.At]) :: .res (Box g2 60 [.int .i64 r1.2, .string (⟨#[]⟩)]) :: .res (Box g1 60 [.int .i64 0, .string (⟨#[]⟩)]) :: R) ?_ ?_
        · refine St.seq ?_
          refine St.region ?_
          refine St.p rfl rfl ?_
          refine St.p rfl rfl ?_
          refine St.done ?_
          refine St.thenN ?_
          refine St.prune (Γ' := [(0, _), (2, _), (3, _), (4, _), (38, _)]) ⟨rfl, rfl, rfl, rfl, rfl, trivial⟩ (.k (.k (.k (.k .z)))) ?_
          refine St.cond _ rfl (fun hb7 => ?_) (fun hb7 => ?_)
          · replace hj2 := bif_t hb7 hj2
            refine St.region ?_
            refine St.p rfl rfl ?_
            refine St.done ?_
            injection hj2 with hj2
            subst hj2
            refine St.thenN ?_
            exact St.hereE () ⟨rfl, rfl, rfl, rfl, trivial⟩ (fun _ w => ((.k (.k (.k (.k .z)))) : Keep _ _).sat w)
          · replace hj2 := bif_f hb7 hj2
            refine St.skip ?_
            injection hj2 with hj2
            subst hj2
            refine St.thenN ?_
            exact St.hereE () ⟨rfl, rfl, rfl, rfl, trivial⟩ (fun _ w => ((.k (.k (.k (.k .z)))) : Keep _ _).sat w)
        · rintro e2
          refine St.region ?_
          refine St.p rfl rfl ?_
          refine St.p rfl rfl ?_
          obtain ⟨r7, hr7, h⟩ := bnd_e h
          refine St.call (c_made_Dice_Text hr7) ent47 rfl rfl rfl (fun _ w => Sat.dup (G := [.ro (SlL ei64 A3 c3 r2.1.L)]) rfl ⟨(.tail _ (.head _)), trivial⟩ (w.front (.s .z))) ?_
          rintro _ _ ⟨A8, c8, rfl, rfl⟩
          refine St.asrt (F' := .ro (SlL ei64 A8 c8 r7.1.L) :: .res (Box gb1 62 [.slice A8 r7.1.L.length c8, .int .i64 r7.1.At]) :: .ro (SlL ei64 A3 c3 r2.1.L) :: .res (Box g2 60 [.int .i64 r1.2, .string (⟨#[]⟩)]) :: .res (Box g1 60 [.int .i64 0, .string (⟨#[]⟩)]) :: R) (fun _ w => w) ?_
          refine St.p rfl rfl ?_
          refine St.store 1 rfl rfl rfl rfl rfl rfl (.s (.s (.s .z))) rfl ?_
          refine St.done ?_
          refine St.blkN ?_
          refine St.thenN ?_
          refine St.prune (Γ' := [(0, _), (2, _), (3, _)]) ⟨rfl, rfl, rfl, trivial⟩ (.k (.k (.k (.d (.k .z))))) ?_
          refine St.seq ?_
          refine St.seq ?_
          refine St.region ?_
          refine St.p rfl rfl ?_
          obtain ⟨r8, hr8, h⟩ := bnd_e h
          refine St.call (c_made_Dice_Bool hr8) ent24 rfl rfl rfl (fun _ w => Sat.dup (G := [.ro (SlL ei64 A8 c8 r7.1.L)]) rfl ⟨(.tail _ (.tail _ (.head _))), trivial⟩ (w.front (.s (.s .z)))) ?_
          rintro _ _ ⟨A9, c9, rfl, rfl⟩
          refine St.asrt (F' := .ro (SlL ei64 A9 c9 r8.1.L) :: .res (Box gb1 62 [.slice A9 r8.1.L.length c9, .int .i64 r8.1.At]) :: .res (Box g2 60 [.int .i64 r1.2, .string r7.2]) :: .ro (SlL ei64 A8 c8 r7.1.L) :: .res (Box g1 60 [.int .i64 0, .string (⟨#[]⟩)]) :: R) (fun _ w => w) ?_
          refine St.done ?_
          refine St.thenN ?_
          refine St.prune (Γ' := [(2, _), (3, _), (44, _)]) ⟨rfl, rfl, rfl, trivial⟩ (.k (.k (.k (.d (.k .z))))) ?_
          refine St.cond _ rfl (fun hb8 => ?_) (fun hb8 => ?_)
          · replace h := bif_t hb8 h
            refine St.region ?_
            obtain ⟨l3, hl3, h⟩ := bnd_e h
            refine St.mkL (E := eu8) 0 hl3 rfl rfl rfl rfl rfl rfl rfl rfl rfl rfl fun g5 => ?_
            refine St.asrt (fun _ w => (w.front .z).meltL) ?_
            refine St.b2s rfl rfl rfl rfl rfl rfl rfl rfl rfl (srcL (E := eu8) (.head _)) ?_
            refine St.p rfl rfl ?_
            refine St.store 0 rfl rfl rfl rfl rfl rfl (.s (.s (.s .z))) rfl ?_
            refine St.done ?_
            refine St.thenN ?_
            refine St.prune (Γ' := [(2, _), (3, _)]) ⟨rfl, rfl, trivial⟩ (.k (.d (.k (.k (.k .z))))) ?_
            refine St.seq ?_
            refine St.region ?_
            refine St.loadB 0 rfl rfl (.head _) rfl rfl ?_
            refine St.store 0 rfl rfl rfl rfl rfl rfl (.s (.s (.s .z))) rfl ?_
            refine St.done ?_
            refine St.thenN ?_
            refine St.prune (Γ' := [(2, _)]) ⟨rfl, trivial⟩ (.k (.d (.k (.k .z)))) ?_
            refine St.ret ?_
            repeat (first | refine St.thenR ?_ | refine St.blkR ?_)
            injection h with h
            subst h
            exact St.finR Tryd.results46 (.cell rfl (.head _) rfl .nil) rfl [.ro (SlL ei64 A9 c9 r8.1.L), .res (Box gb1 62 [.slice A9 r8.1.L.length c9, .int .i64 r8.1.At])] ⟨A9, c9, rfl, rfl⟩ (fun _ w => ((.k (.k (.d (.d .z)))) : Keep _ _).sat (Sat.dup (G := [.ro (SlL ei64 A9 c9 r8.1.L)]) rfl ⟨(.tail _ (.tail _ (.head _))), trivial⟩ (w.front (.s (.s .z)))))
          · replace h := bif_f hb8 h
            refine St.skip ?_
            refine St.thenN ?_
            refine St.prune (Γ' := [(2, _), (3, _)]) ⟨rfl, rfl, trivial⟩ (.k (.k (.k (.k .z)))) ?_
            refine St.seq ?_
            refine St.region ?_
            refine St.loadB 0 rfl rfl (.tail _ (.tail _ (.head _))) rfl rfl ?_
            refine St.store 0 rfl rfl rfl rfl rfl rfl (.s (.s (.s .z))) rfl ?_
            refine St.done ?_
            refine St.thenN ?_
            refine St.prune (Γ' := [(2, _)]) ⟨rfl, trivial⟩ (.k (.k (.k (.d .z)))) ?_
            refine St.ret ?_
            repeat (first | refine St.thenR ?_ | refine St.blkR ?_)
            injection h with h
            subst h
            exact St.finR Tryd.results46 (.cell rfl (.head _) rfl .nil) rfl [.ro (SlL ei64 A9 c9 r8.1.L), .res (Box gb1 62 [.slice A9 r8.1.L.length c9, .int .i64 r8.1.At])] ⟨A9, c9, rfl, rfl⟩ (fun _ w => ((.k (.k (.d (.d .z)))) : Keep _ _).sat (Sat.dup (G := [.ro (SlL ei64 A9 c9 r8.1.L)]) rfl ⟨(.tail _ (.tail _ (.head _))), trivial⟩ (w.front (.s (.s .z)))))
      · replace h := bif_f hb6 h
        refine St.region ?_
        refine St.p rfl rfl ?_
        refine St.p rfl rfl ?_
        obtain ⟨r9, hr9, h⟩ := bnd_e h
        refine St.call (c_made_Dice_Bytes hr9) ent33 rfl rfl rfl (fun _ w => Sat.dup (G := [.ro (SlL ei64 A3 c3 r2.1.L)]) rfl ⟨(.tail _ (.head _)), trivial⟩ (w.front (.s .z))) ?_
        rintro _ _ ⟨A10, c10, A11, c11, rfl, rfl⟩
        refine St.asrt (F' := .ro (SlL ei64 A10 c10 r9.1.L) :: .res (Box gb1 62 [.slice A10 r9.1.L.length c10, .int .i64 r9.1.At]) :: .res (OwnL eu8 5 A11 c11 r9.2) :: .ro (SlL ei64 A3 c3 r2.1.L) :: .res (Box g2 60 [.int .i64 r1.2, .string (⟨#[]⟩)]) :: .res (Box g1 60 [.int .i64 0, .string (⟨#[]⟩)]) :: R) (fun _ w => w) ?_
        refine St.asrt (fun _ w => (w.front (.s (.s .z))).meltL) ?_
        refine St.b2s rfl rfl rfl rfl rfl rfl rfl rfl rfl (srcL (E := eu8) (.head _)) ?_
        refine St.p rfl rfl ?_
        refine St.store 1 rfl rfl rfl rfl rfl rfl (.s (.s (.s (.s .z)))) rfl ?_
        refine St.done ?_
        refine St.blkN ?_
        refine St.thenN ?_
        refine St.prune (Γ' := [(0, _), (2, _), (3, _)]) ⟨rfl, rfl, rfl, trivial⟩ (.k (.d (.k (.k (.d (.k .z)))))) ?_
        refine St.seq ?_
        refine St.seq ?_
        refine St.region ?_
        refine St.p rfl rfl ?_
        obtain ⟨r10, hr10, h⟩ := bnd_e h
        refine St.call (c_made_Dice_Bool hr10) ent24 rfl rfl rfl (fun _ w => Sat.dup (G := [.ro (SlL ei64 A10 c10 r9.1.L)]) rfl ⟨(.tail _ (.tail _ (.head _))), trivial⟩ (w.front (.s (.s .z)))) ?_
        rintro _ _ ⟨A12, c12, rfl, rfl⟩
        refine St.asrt (F' := .ro (SlL ei64 A12 c12 r10.1.L) :: .res (Box gb1 62 [.slice A12 r10.1.L.length c12, .int .i64 r10.1.At]) :: .res (Box g2 60 [.int .i64 r1.2, .string (strOf r9.2)]) :: .ro (SlL ei64 A10 c10 r9.1.L) :: .res (Box g1 60 [.int .i64 0, .string (⟨#[]⟩)]) :: R) (fun _ w => w) ?_
        refine St.done ?_
        refine St.thenN ?_
        refine St.prune (Γ' := [(2, _), (3, _), (44, _)]) ⟨rfl, rfl, rfl, trivial⟩ (.k (.k (.k (.d (.k .z))))) ?_
        refine St.cond _ rfl (fun hb9 => ?_) (fun hb9 => ?_)
        · replace h := bif_t hb9 h
          refine St.region ?_
          obtain ⟨l4, hl4, h⟩ := bnd_e h
          refine St.mkL (E := eu8) 0 hl4 rfl rfl rfl rfl rfl rfl rfl rfl rfl rfl fun g6 => ?_
          refine St.asrt (fun _ w => (w.front .z).meltL) ?_
          refine St.b2s rfl rfl rfl rfl rfl rfl rfl rfl rfl (srcL (E := eu8) (.head _)) ?_
          refine St.p rfl rfl ?_
          refine St.store 0 rfl rfl rfl rfl rfl rfl (.s (.s (.s .z))) rfl ?_
          refine St.done ?_
          refine St.thenN ?_
          refine St.prune (Γ' := [(2, _), (3, _)]) ⟨rfl, rfl, trivial⟩ (.k (.d (.k (.k (.k .z))))) ?_
          refine St.seq ?_
          refine St.region ?_
          refine St.loadB 0 rfl rfl (.head _) rfl rfl ?_
          refine St.store 0 rfl rfl rfl rfl rfl rfl (.s (.s (.s .z))) rfl ?_
          refine St.done ?_
          refine St.thenN ?_
          refine St.prune (Γ' := [(2, _)]) ⟨rfl, trivial⟩ (.k (.d (.k (.k .z)))) ?_
          refine St.ret ?_
          repeat (first | refine St.thenR ?_ | refine St.blkR ?_)
          injection h with h
          subst h
          exact St.finR Tryd.results46 (.cell rfl (.head _) rfl .nil) rfl [.ro (SlL ei64 A12 c12 r10.1.L), .res (Box gb1 62 [.slice A12 r10.1.L.length c12, .int .i64 r10.1.At])] ⟨A12, c12, rfl, rfl⟩ (fun _ w => ((.k (.k (.d (.d .z)))) : Keep _ _).sat (Sat.dup (G := [.ro (SlL ei64 A12 c12 r10.1.L)]) rfl ⟨(.tail _ (.tail _ (.head _))), trivial⟩ (w.front (.s (.s .z)))))
        · replace h := bif_f hb9 h
          refine St.skip ?_
          refine St.thenN ?_
          refine St.prune (Γ' := [(2, _), (3, _)]) ⟨rfl, rfl, trivial⟩ (.k (.k (.k (.k .z)))) ?_
          refine St.seq ?_
          refine St.region ?_
          refine St.loadB 0 rfl rfl (.tail _ (.tail _ (.head _))) rfl rfl ?_
          refine St.store 0 rfl rfl rfl rfl rfl rfl (.s (.s (.s .z))) rfl ?_
          refine St.done ?_
          refine St.thenN ?_
          refine St.prune (Γ' := [(2, _)]) ⟨rfl, trivial⟩ (.k (.k (.k (.d .z)))) ?_
          refine St.ret ?_
          repeat (first | refine St.thenR ?_ | refine St.blkR ?_)
          injection h with h
          subst h
          exact St.finR Tryd.results46 (.cell rfl (.head _) rfl .nil) rfl [.ro (SlL ei64 A12 c12 r10.1.L), .res (Box gb1 62 [.slice A12 r10.1.L.length c12, .int .i64 r10.1.At])] ⟨A12, c12, rfl, rfl⟩ (fun _ w => ((.k (.k (.d (.d .z)))) : Keep _ _).sat (Sat.dup (G := [.ro (SlL ei64 A12 c12 r10.1.L)]) rfl ⟨(.tail _ (.tail _ (.head _))), trivial⟩ (w.front (.s (.s .z)))))

theorem ent45 : Ent Tryd.prog 45 := ⟨_, Tryd.func45, by kernel_rfl, by kernel_rfl⟩

noncomputable def m_made_Dice_Fields (d_p0 : T_Dice) (least : Int) : Option (T_Dice × (List T_Field)) :=
  bnd (m_made_Dice_Next d_p0 3) fun r1 => bnd ((bnd (m_made_Dice_Bool r1.1 10) fun r2 => bif r2.2 then (some (16, r2.1.L, r2.1.At)) else (some (IntKind.wrap .i64 (least + r1.2), r2.1.L, r2.1.At)) : Option (Int × List Int × Int))) fun o1 => bnd (loopM (τ := List T_Field × List Int × Int) (fun (s1 : List T_Field × Int × List Int × Int) => bif decide (s1.2.1 < (min o1.1 16)) then (bnd (m_made_Dice_Field (⟨s1.2.2.1, s1.2.2.2⟩ : T_Dice)) fun r3 => bnd (app 24 s1.1 [r3.2]) fun l1 => some (.next (l1, IntKind.wrap .i64 (s1.2.1 + 1), r3.1.L, r3.1.At))) else (some (.done (s1.1, s1.2.2.1, s1.2.2.2)))) ([], 0, o1.2.1, o1.2.2)) fun o2 => some ((⟨o2.2.1, o2.2.2⟩ : T_Dice), o2.1)

theorem c_made_Dice_Fields {d_p0 : T_Dice} {least : Int} {A1 : Option Addr} {c1 : Nat} {gb1 : Nat} {r : (T_Dice × (List T_Field))} (h : m_made_Dice_Fields d_p0 least = some r) :
    Fun Tryd.prog 45 [.pointer (some ⟨gb1, 0, none⟩), .int .i64 least] [.ro (SlL ei64 A1 c1 d_p0.L), .res (Box gb1 62 [.slice A1 d_p0.L.length c1, .int .i64 d_p0.At])] (fun v_ F_ => ∃ (A1 : Option Addr) (c1 : Nat) (A2 : Option Addr) (c2 : Nat), v_ = .slice A2 r.2.length c2 ∧ F_ = [.ro (SlL ei64 A1 c1 r.1.L), .res (Box gb1 62 [.slice A1 r.1.L.length c1, .int .i64 r.1.At]), .res (OwnL e_Field 60 A2 c2 r.2)]) := by
  unfold m_made_Dice_Fields at h
  refine Fun.intro Tryd.func45 rfl rfl rfl fun w R => ?_
  refine St.seq ?_
  refine St.region ?_
  refine St.p rfl rfl ?_
  refine St.done ?_
  refine St.thenN ?_
  refine St.prune (Γ' := [(0, _), (1, _)]) ⟨rfl, rfl, trivial⟩ (.k (.k .z)) ?_
  refine St.seq ?_
  refine St.region ?_
  refine St.p rfl rfl ?_
  refine St.p rfl rfl ?_
  obtain ⟨r1, hr1, h⟩ := bnd_e h
  refine St.call (c_made_Dice_Next hr1) ent23 rfl rfl rfl (fun _ w => Sat.dup (G := [.ro (SlL ei64 A1 c1 d_p0.L)]) rfl ⟨(.tail _ (.head _)), trivial⟩ (w.front (.s .z))) ?_
  rintro _ _ ⟨A2, c2, rfl, rfl⟩
  refine St.asrt (F' := .ro (SlL ei64 A2 c2 r1.1.L) :: .res (Box gb1 62 [.slice A2 r1.1.L.length c2, .int .i64 r1.1.At]) :: .ro (SlL ei64 A1 c1 d_p0.L) :: R) (fun _ w => w) ?_
  refine St.p rfl rfl ?_
  refine St.p rfl rfl ?_
  refine St.done ?_
  refine St.thenN ?_
  refine St.prune (Γ' := [(0, _), (5, _)]) ⟨rfl, rfl, trivial⟩ (.k (.k (.d .z))) ?_
  refine St.seq ?_
  obtain ⟨o1, hj1, h⟩ := bnd_e h
  refine St.cutE (fun (e1 : Option Addr × Nat) => [(0, .pointer (some ⟨gb1, 0, none⟩)), (5, .int .i64 o1.1)]) (fun e1 => .ro (SlL ei64 e1.1 e1.2 o1.2.1) :: .res (Box gb1 62 [.slice e1.1 o1.2.1.length e1.2, .int .i64 o1.2.2]) :: R) ?_ ?_
  · refine St.seq ?_
    refine St.region ?_
    refine St.p rfl rfl ?_
    obtain ⟨r2, hr2, hj1⟩ := bnd_e hj1
    refine St.call (c_made_Dice_Bool hr2) ent24 rfl rfl rfl (fun _ w => Sat.dup (G := [.ro (SlL ei64 A2 c2 r1.1.L)]) rfl ⟨(.tail _ (.head _)), trivial⟩ (w.front (.s .z))) ?_
    rintro _ _ ⟨A4, c4, rfl, rfl⟩
    refine St.asrt (F' := .ro (SlL ei64 A4 c4 r2.1.L) :: .res (Box gb1 62 [.slice A4 r2.1.L.length c4, .int .i64 r2.1.At]) :: .ro (SlL ei64 A2 c2 r1.1.L) :: R) (fun _ w => w) ?_
    refine St.done ?_
    refine St.thenN ?_
    refine St.prune (Γ' := [(0, _), (5, _), (13, _)]) ⟨rfl, rfl, rfl, trivial⟩ (.k (.k (.d .z))) ?_
    refine St.cond _ rfl (fun hb1 => ?_) (fun hb1 => ?_)
    · replace hj1 := bif_t hb1 hj1
      refine St.region ?_
      refine St.p rfl rfl ?_
      refine St.done ?_
      injection hj1 with hj1
      subst hj1
      refine St.thenN ?_
      exact St.hereE (A4, c4) ⟨rfl, rfl, trivial⟩ (fun _ w => ((.k (.k .z)) : Keep _ _).sat w)
    · replace hj1 := bif_f hb1 hj1
      refine St.skip ?_
      injection hj1 with hj1
      subst hj1
      refine St.thenN ?_
      exact St.hereE (A4, c4) ⟨rfl, rfl, trivial⟩ (fun _ w => ((.k (.k .z)) : Keep _ _).sat w)
  · rintro ⟨A3, c3⟩
    refine St.seq ?_
    refine St.region ?_
    refine St.p rfl rfl ?_
    refine St.done ?_
    refine St.thenN ?_
    refine St.seq ?_
    refine St.seq ?_
    refine St.region ?_
    refine St.p rfl rfl ?_
    refine St.done ?_
    refine St.thenN ?_
    refine St.asrt (fun _ w => w.nilL e_Field 60) ?_
    obtain ⟨o2, hl1, h⟩ := bnd_e h
    refine St.cutE (fun (e3 : Option Addr × Nat × Option Addr × Nat) => [(6, .slice e3.1 o2.1.length e3.2.1)]) (fun e3 => .ro (SlL ei64 e3.2.2.1 e3.2.2.2 o2.2.1) :: .res (OwnL e_Field 60 e3.1 e3.2.1 o2.1) :: .res (Box gb1 62 [.slice e3.2.2.1 o2.2.1.length e3.2.2.2, .int .i64 o2.2.2]) :: R) ?_ ?_
    · refine St.block ?_
      refine St.loop hl1 (fun (s1 : List T_Field × Int × List Int × Int) (e2 : Option Addr × Nat × Option Addr × Nat) => [(0, .pointer (some ⟨gb1, 0, none⟩)), (5, .int .i64 o1.1), (6, .slice e2.1 s1.1.length e2.2.1), (7, .int .i64 s1.2.1)]) (fun s1 e2 => .ro (SlL ei64 e2.2.2.1 e2.2.2.2 s1.2.2.1) :: .res (OwnL e_Field 60 e2.1 e2.2.1 s1.1) :: .res (Box gb1 62 [.slice e2.2.2.1 s1.2.2.1.length e2.2.2.2, .int .i64 s1.2.2.2]) :: R) (fun _ _ => True) (none, 0, A3, c3) trivial ⟨rfl, rfl, rfl, rfl, trivial⟩ (fun _ w => ((.k (.k (.k .z))) : Keep _ _).sat (((w.front (.s (.s .z))).front (.s .z)).front (.s (.s .z)))) ?_
      rintro s1 ⟨A5, c5, A6, c6⟩ - hit1
      obtain ⟨st1, hm1, hd1⟩ := iter_e hit1
      have h1 := hm1
      refine St.seq ?_
      refine St.seq ?_
      refine St.region ?_
      iterate 4 refine St.p rfl rfl ?_
      refine St.done ?_
      refine St.thenN ?_
      refine St.prune (Γ' := [(0, _), (5, _), (6, _), (7, _), (17, _)]) ⟨rfl, rfl, rfl, rfl, rfl, trivial⟩ (.k (.k (.k .z))) ?_
      refine St.cond _ rfl (fun hb2 => ?_) (fun hb2 => ?_)
      · replace h1 := bif_t hb2 h1
        refine St.skip ?_
        refine St.thenN ?_
        refine St.prune (Γ' := [(0, _), (5, _), (6, _), (7, _)]) ⟨rfl, rfl, rfl, rfl, trivial⟩ (.k (.k (.k .z))) ?_
        refine St.seq ?_
        refine St.block ?_
        refine St.region ?_
        refine St.p rfl rfl ?_
        refine St.p rfl rfl ?_
        obtain ⟨r3, hr3, h1⟩ := bnd_e h1
        refine St.call (c_made_Dice_Field hr3) ent46 rfl rfl rfl (fun _ w => Sat.dup (G := [.ro (SlL ei64 A6 c6 s1.2.2.1)]) rfl ⟨(.tail _ (.head _)), trivial⟩ (w.front (.s (.s .z)))) ?_
        rintro _ _ ⟨A9, c9, rfl, rfl⟩
        refine St.asrt (F' := .ro (SlL ei64 A9 c9 r3.1.L) :: .res (Box gb1 62 [.slice A9 r3.1.L.length c9, .int .i64 r3.1.At]) :: .ro (SlL ei64 A6 c6 s1.2.2.1) :: .res (OwnL e_Field 60 A5 c5 s1.1) :: R) (fun _ w => w) ?_
        refine St.buildSlice rfl rfl rfl rfl rfl rfl rfl rfl fun g1 => ?_
        obtain ⟨l1, hl1, h1⟩ := bnd_e h1
        refine St.app (E := e_Field) hl1 rfl rfl rfl (.s (.s (.s (.s .z)))) rfl rfl rfl rfl rfl rfl rfl rfl (srcB (.head _) rfl rfl) rfl rfl fun A10 c10 => ?_
        refine St.p rfl rfl ?_
        refine St.done ?_
        refine St.blkN ?_
        refine St.thenN ?_
        refine St.prune (Γ' := [(0, _), (5, _), (6, _), (7, _)]) ⟨rfl, rfl, rfl, rfl, trivial⟩ (.k (.d (.k (.k (.d .z))))) ?_
        refine St.region ?_
        iterate 3 refine St.p rfl rfl ?_
        refine St.done ?_
        injection h1 with h1
        subst h1
        refine St.thenN ?_
        exact St.again _ (A10, c10, A9, c9) hm1 trivial ⟨rfl, rfl, rfl, rfl, trivial⟩ (fun _ w => ((.k (.k (.k .z))) : Keep _ _).sat (((w.front (.s (.s .z))).front (.s .z)).front (.s (.s .z))))
      · replace h1 := bif_f hb2 h1
        refine St.exit ?_
        repeat (first | refine St.thenX ?_ | refine St.blkMiss rfl ?_)
        refine St.blkHit ?_
        injection h1 with h1
        subst h1
        have ho := hd1 _ rfl
        subst ho
        refine St.thenN ?_
        exact St.hereE (A5, c5, A6, c6) ⟨rfl, trivial⟩ (fun _ w => ((.k (.k (.k .z))) : Keep _ _).sat w)
    · rintro ⟨A7, c7, A8, c8⟩
      refine St.seq ?_
      refine St.region ?_
      refine St.p rfl rfl ?_
      refine St.p rfl rfl ?_
      refine St.done ?_
      refine St.thenN ?_
      refine St.prune (Γ' := [(4, _)]) ⟨rfl, trivial⟩ (.k (.k (.k .z))) ?_
      refine St.ret ?_
      repeat (first | refine St.thenR ?_ | refine St.blkR ?_)
      injection h with h
      subst h
      exact St.finR Tryd.results45 (.tmp rfl .nil) rfl [.ro (SlL ei64 A8 c8 o2.2.1), .res (Box gb1 62 [.slice A8 o2.2.1.length c8, .int .i64 o2.2.2]), .res (OwnL e_Field 60 A7 c7 o2.1)] ⟨A8, c8, A7, c7, rfl, rfl⟩ (fun _ w => ((.k (.k (.k (.d .z)))) : Keep _ _).sat (Sat.dup (G := [.ro (SlL ei64 A8 c8 o2.2.1)]) rfl ⟨(.tail _ (.tail _ (.head _))), trivial⟩ ((w.front (.s .z)).front (.s (.s .z)))))

theorem ent32 : Ent Tryd.prog 32 := ⟨_, Tryd.func32, by kernel_rfl, by kernel_rfl⟩

noncomputable def m_made_Dice_Area (d_p0 : T_Dice) (least : Int) (board : Bool) : Option (T_Dice × T_Area) :=
  bnd (m_made_Dice_Bool d_p0 3) fun r1 => bif r1.2 then (some (r1.1, (⟨false, 0, 0, []⟩ : T_Area))) else (bnd (m_made_Dice_Byte r1.1) fun r2 => bnd (m_made_Dice_Fields r2.1 least) fun r3 => bif board then (bnd (m_made_Dice_Next r3.1 16777216) fun r4 => some (r4.1, (⟨true, r2.2, IntKind.wrap .u32 r4.2, r3.2⟩ : T_Area))) else (some (r3.1, (⟨true, r2.2, 0, r3.2⟩ : T_Area))))

theorem c_made_Dice_Area {d_p0 : T_Dice} {least : Int} {board : Bool} {A1 : Option Addr} {c1 : Nat} {gb1 : Nat} {r : (T_Dice × T_Area)} (h : m_made_Dice_Area d_p0 least board = some r) :
    Fun Tryd.prog 32 [.pointer (some ⟨gb1, 0, none⟩), .int .i64 least, .bool board] [.ro (SlL ei64 A1 c1 d_p0.L), .res (Box gb1 62 [.slice A1 d_p0.L.length c1, .int .i64 d_p0.At])] (fun v_ F_ => ∃ (A1 : Option Addr) (c1 : Nat) (A2 : Option Addr) (c2 : Nat), v_ = .agg (bx_T_Area r.2 A2 c2).toArray ∧ F_ = [.ro (SlL ei64 A1 c1 r.1.L), .ro (SlL e_Field A2 c2 r.2.Fields), .res (Box gb1 62 [.slice A1 r.1.L.length c1, .int .i64 r.1.At])]) := by
  unfold m_made_Dice_Area at h
  refine Fun.intro Tryd.func32 rfl rfl rfl fun w R => ?_
  refine St.seq ?_
  refine St.region ?_
  refine St.alloc rfl rfl fun g1 => ?_
  refine St.done ?_
  refine St.thenN ?_
  refine St.seq ?_
  refine St.seq ?_
  refine St.region ?_
  refine St.p rfl rfl ?_
  obtain ⟨r1, hr1, h⟩ := bnd_e h
  refine St.call (c_made_Dice_Bool hr1) ent24 rfl rfl rfl (fun _ w => Sat.dup (G := [.ro (SlL ei64 A1 c1 d_p0.L)]) rfl ⟨(.tail _ (.tail _ (.head _))), trivial⟩ (w.front (.s (.s .z)))) ?_
  rintro _ _ ⟨A2, c2, rfl, rfl⟩
  refine St.asrt (F' := .ro (SlL ei64 A2 c2 r1.1.L) :: .res (Box gb1 62 [.slice A2 r1.1.L.length c2, .int .i64 r1.1.At]) :: .res (Box g1 25 [.bool false, .int .u8 0, .int .u32 0, .slice none 0 0]) :: .ro (SlL ei64 A1 c1 d_p0.L) :: R) (fun _ w => w) ?_
  refine St.done ?_
  refine St.thenN ?_
  refine St.prune (Γ' := [(0, _), (1, _), (2, _), (6, _), (9, _)]) ⟨rfl, rfl, rfl, rfl, rfl, trivial⟩ (.k (.k (.k (.d .z)))) ?_
  refine St.cond _ rfl (fun hb1 => ?_) (fun hb1 => ?_)
  · replace h := bif_t hb1 h
    refine St.seq ?_
    refine St.region ?_
    refine St.p rfl rfl ?_
    refine St.store 0 rfl rfl rfl rfl rfl rfl (.s (.s .z)) rfl ?_
    refine St.done ?_
    refine St.thenN ?_
    refine St.prune (Γ' := [(6, _)]) ⟨rfl, trivial⟩ (.k (.k (.k .z))) ?_
    refine St.ret ?_
    repeat (first | refine St.thenR ?_ | refine St.blkR ?_)
    refine St.asrt (fun _ w => w.nilSl (cod e_Field)) ?_
    injection h with h
    subst h
    exact St.finR Tryd.results32 (.cell rfl (.tail _ (.head _)) rfl .nil) rfl [.ro (SlL ei64 A2 c2 r1.1.L), .ro (SlL e_Field none 0 ([] : List T_Field)), .res (Box gb1 62 [.slice A2 r1.1.L.length c2, .int .i64 r1.1.At])] ⟨A2, c2, none, 0, rfl, rfl⟩ (fun _ w => ((.k (.k (.k (.d (.d (.d .z)))))) : Keep _ _).sat (Sat.dup (G := [.ro (SlL ei64 A2 c2 r1.1.L), .ro (SlL e_Field none 0 ([] : List T_Field))]) rfl ⟨(.tail _ (.tail _ (.tail _ (.head _)))), (.tail _ (.head _)), trivial⟩ (w.front (.s (.s (.s .z))))))
  · replace h := bif_f hb1 h
    refine St.skip ?_
    refine St.thenN ?_
    refine St.prune (Γ' := [(0, _), (1, _), (2, _), (6, _)]) ⟨rfl, rfl, rfl, rfl, trivial⟩ (.k (.k (.k .z))) ?_
    refine St.seq ?_
    refine St.region ?_
    refine St.p rfl rfl ?_
    obtain ⟨r2, hr2, h⟩ := bnd_e h
    refine St.call (c_made_Dice_Byte hr2) ent25 rfl rfl rfl (fun _ w => Sat.dup (G := [.ro (SlL ei64 A2 c2 r1.1.L)]) rfl ⟨(.tail _ (.head _)), trivial⟩ (w.front (.s .z))) ?_
    rintro _ _ ⟨A3, c3, rfl, rfl⟩
    refine St.asrt (F' := .ro (SlL ei64 A3 c3 r2.1.L) :: .res (Box gb1 62 [.slice A3 r2.1.L.length c3, .int .i64 r2.1.At]) :: .ro (SlL ei64 A2 c2 r1.1.L) :: .res (Box g1 25 [.bool false, .int .u8 0, .int .u32 0, .slice none 0 0]) :: R) (fun _ w => w) ?_
    refine St.p rfl rfl ?_
    refine St.p rfl rfl ?_
    obtain ⟨r3, hr3, h⟩ := bnd_e h
    refine St.call (c_made_Dice_Fields hr3) ent45 rfl rfl rfl (fun _ w => Sat.dup (G := [.ro (SlL ei64 A3 c3 r2.1.L)]) rfl ⟨(.tail _ (.head _)), trivial⟩ (w.front (.s .z))) ?_
    rintro _ _ ⟨A4, c4, A5, c5, rfl, rfl⟩
    refine St.asrt (F' := .ro (SlL ei64 A4 c4 r3.1.L) :: .res (Box gb1 62 [.slice A4 r3.1.L.length c4, .int .i64 r3.1.At]) :: .res (OwnL e_Field 60 A5 c5 r3.2) :: .ro (SlL ei64 A3 c3 r2.1.L) :: .ro (SlL ei64 A2 c2 r1.1.L) :: .res (Box g1 25 [.bool false, .int .u8 0, .int .u32 0, .slice none 0 0]) :: R) (fun _ w => w) ?_
    refine St.p rfl rfl ?_
    refine St.alloc rfl rfl fun g2 => ?_
    refine St.store 0 rfl rfl rfl rfl rfl rfl .z rfl ?_
    refine St.done ?_
    refine St.thenN ?_
    refine St.prune (Γ' := [(0, _), (2, _), (6, _), (7, _)]) ⟨rfl, rfl, rfl, rfl, trivial⟩ (.k (.k (.k (.k (.d (.d (.k .z))))))) ?_
    refine St.seq ?_
    refine St.seq ?_
    refine St.region ?_
    refine St.p rfl rfl ?_
    refine St.done ?_
    refine St.thenN ?_
    refine St.prune (Γ' := [(0, _), (6, _), (7, _), (17, _)]) ⟨rfl, rfl, rfl, rfl, trivial⟩ (.k (.k (.k (.k (.k .z))))) ?_
    refine St.cond _ rfl (fun hb2 => ?_) (fun hb2 => ?_)
    · replace h := bif_t hb2 h
      refine St.region ?_
      refine St.p rfl rfl ?_
      obtain ⟨r4, hr4, h⟩ := bnd_e h
      refine St.call (c_made_Dice_Next hr4) ent23 rfl rfl rfl (fun _ w => Sat.dup (G := [.ro (SlL ei64 A4 c4 r3.1.L)]) rfl ⟨(.tail _ (.tail _ (.head _))), trivial⟩ (w.front (.s (.s .z)))) ?_
      rintro _ _ ⟨A6, c6, rfl, rfl⟩
      refine St.asrt (F' := .ro (SlL ei64 A6 c6 r4.1.L) :: .res (Box gb1 62 [.slice A6 r4.1.L.length c6, .int .i64 r4.1.At]) :: .res (Box g2 25 [.bool true, .int .u8 r2.2, .int .u32 0, .slice A5 r3.2.length c5]) :: .ro (SlL ei64 A4 c4 r3.1.L) :: .res (OwnL e_Field 60 A5 c5 r3.2) :: .res (Box g1 25 [.bool false, .int .u8 0, .int .u32 0, .slice none 0 0]) :: R) (fun _ w => w) ?_
      refine St.p rfl rfl ?_
      refine St.p rfl rfl ?_
      refine St.store 2 rfl rfl rfl rfl rfl rfl (.s (.s .z)) rfl ?_
      refine St.done ?_
      refine St.thenN ?_
      refine St.prune (Γ' := [(6, _), (7, _)]) ⟨rfl, rfl, trivial⟩ (.k (.k (.k (.d (.k (.k .z)))))) ?_
      refine St.seq ?_
      refine St.region ?_
      refine St.loadB 0 rfl rfl (.head _) rfl rfl ?_
      refine St.store 0 rfl rfl rfl rfl rfl rfl (.s (.s (.s (.s .z)))) rfl ?_
      refine St.done ?_
      refine St.thenN ?_
      refine St.prune (Γ' := [(6, _)]) ⟨rfl, trivial⟩ (.k (.d (.k (.k (.k .z))))) ?_
      refine St.ret ?_
      repeat (first | refine St.thenR ?_ | refine St.blkR ?_)
      refine St.asrt (fun _ w => (w.front (.s (.s (.s .z)))).meltL) ?_
      injection h with h
      subst h
      exact St.finR Tryd.results32 (.cell rfl (.tail _ (.head _)) rfl .nil) rfl [.ro (SlL ei64 A6 c6 r4.1.L), .ro (SlL e_Field A5 c5 r3.2), .res (Box gb1 62 [.slice A6 r4.1.L.length c6, .int .i64 r4.1.At])] ⟨A6, c6, A5, c5, rfl, rfl⟩ (fun _ w => ((.k (.k (.k (.d (.d (.d .z)))))) : Keep _ _).sat (Sat.dup (G := [.ro (SlL ei64 A6 c6 r4.1.L), .ro (SlL e_Field A5 c5 r3.2)]) rfl ⟨(.tail _ (.tail _ (.tail _ (.head _)))), (.tail _ (.head _)), trivial⟩ (w.front (.s (.s (.s .z))))))
    · replace h := bif_f hb2 h
      refine St.skip ?_
      refine St.thenN ?_
      refine St.prune (Γ' := [(6, _), (7, _)]) ⟨rfl, rfl, trivial⟩ (.k (.k (.k (.k (.k .z))))) ?_
      refine St.seq ?_
      refine St.region ?_
      refine St.loadB 0 rfl rfl (.head _) rfl rfl ?_
      refine St.store 0 rfl rfl rfl rfl rfl rfl (.s (.s (.s (.s .z)))) rfl ?_
      refine St.done ?_
      refine St.thenN ?_
      refine St.prune (Γ' := [(6, _)]) ⟨rfl, trivial⟩ (.k (.d (.k (.k (.k .z))))) ?_
      refine St.ret ?_
      repeat (first | refine St.thenR ?_ | refine St.blkR ?_)
      refine St.asrt (fun _ w => (w.front (.s (.s (.s .z)))).meltL) ?_
      injection h with h
      subst h
      exact St.finR Tryd.results32 (.cell rfl (.tail _ (.head _)) rfl .nil) rfl [.ro (SlL ei64 A4 c4 r3.1.L), .ro (SlL e_Field A5 c5 r3.2), .res (Box gb1 62 [.slice A4 r3.1.L.length c4, .int .i64 r3.1.At])] ⟨A4, c4, A5, c5, rfl, rfl⟩ (fun _ w => ((.k (.k (.k (.d (.d (.d .z)))))) : Keep _ _).sat (Sat.dup (G := [.ro (SlL ei64 A4 c4 r3.1.L), .ro (SlL e_Field A5 c5 r3.2)]) rfl ⟨(.tail _ (.tail _ (.tail _ (.head _)))), (.tail _ (.head _)), trivial⟩ (w.front (.s (.s (.s .z))))))

theorem ent68 : Ent Tryd.prog 68 := ⟨_, Tryd.func68, by kernel_rfl, by kernel_rfl⟩

noncomputable def m_ref17_least (kind : Int) : Option Int :=
  bif (kind == 0) then (some 2) else (bif (kind == 1) then (some 5) else (some 7))

theorem c_ref17_least {kind : Int} {r : Int} (h : m_ref17_least kind = some r) :
    Fun Tryd.prog 68 [.int .i64 kind] [] (Val (.int .i64 r)) := by
  unfold m_ref17_least at h
  refine Fun.intro Tryd.func68 rfl rfl rfl fun w R => ?_
  refine St.seq ?_
  refine St.region ?_
  refine St.p rfl rfl ?_
  refine St.done ?_
  refine St.thenN ?_
  refine St.prune (Γ' := [(0, _)]) ⟨rfl, trivial⟩ .z ?_
  refine St.seq ?_
  refine St.seq ?_
  refine St.region ?_
  refine St.p rfl rfl ?_
  refine St.done ?_
  refine St.thenN ?_
  refine St.prune (Γ' := [(3, _)]) ⟨rfl, trivial⟩ .z ?_
  refine St.block ?_
  refine St.seq ?_
  refine St.region ?_
  refine St.p rfl rfl ?_
  refine St.p rfl rfl ?_
  refine St.done ?_
  refine St.thenN ?_
  refine St.prune (Γ' := [(3, _), (4, _)]) ⟨rfl, rfl, trivial⟩ .z ?_
  refine St.cond _ rfl (fun hb1 => ?_) (fun hb1 => ?_)
  · replace h := bif_t hb1 h
    refine St.seq ?_
    refine St.region ?_
    refine St.p rfl rfl ?_
    refine St.done ?_
    refine St.thenN ?_
    refine St.prune (Γ' := [(2, _)]) ⟨rfl, trivial⟩ .z ?_
    refine St.ret ?_
    repeat (first | refine St.thenR ?_ | refine St.blkR ?_)
    injection h with h
    subst h
    exact St.finR Tryd.results68 (.tmp rfl .nil) rfl [] ⟨rfl, rfl⟩ (fun _ w => (.z : Keep _ _).sat w)
  · replace h := bif_f hb1 h
    refine St.seq ?_
    refine St.region ?_
    refine St.p rfl rfl ?_
    refine St.p rfl rfl ?_
    refine St.done ?_
    refine St.thenN ?_
    refine St.prune (Γ' := [(6, _)]) ⟨rfl, trivial⟩ .z ?_
    refine St.cond _ rfl (fun hb2 => ?_) (fun hb2 => ?_)
    · replace h := bif_t hb2 h
      refine St.seq ?_
      refine St.region ?_
      refine St.p rfl rfl ?_
      refine St.done ?_
      refine St.thenN ?_
      refine St.prune (Γ' := [(2, _)]) ⟨rfl, trivial⟩ .z ?_
      refine St.ret ?_
      repeat (first | refine St.thenR ?_ | refine St.blkR ?_)
      injection h with h
      subst h
      exact St.finR Tryd.results68 (.tmp rfl .nil) rfl [] ⟨rfl, rfl⟩ (fun _ w => (.z : Keep _ _).sat w)
    · replace h := bif_f hb2 h
      refine St.skip ?_
      refine St.blkN ?_
      refine St.thenN ?_
      refine St.prune (Γ' := []) trivial .z ?_
      refine St.seq ?_
      refine St.region ?_
      refine St.p rfl rfl ?_
      refine St.done ?_
      refine St.thenN ?_
      refine St.ret ?_
      repeat (first | refine St.thenR ?_ | refine St.blkR ?_)
      injection h with h
      subst h
      exact St.finR Tryd.results68 (.tmp rfl .nil) rfl [] ⟨rfl, rfl⟩ (fun _ w => (.z : Keep _ _).sat w)

theorem ent100 : Ent Tryd.prog 100 := ⟨_, Tryd.func100, by kernel_rfl, by kernel_rfl⟩

noncomputable def m_ref02_digit (c_p0 : Int) : Option Int :=
  bnd ((bif decide (c_p0 ≥ 48) then (some (decide (c_p0 ≤ 57))) else (some false) : Option Bool)) fun o1 => bif o1 then (some (IntKind.wrap .i64 (IntKind.wrap .u8 (c_p0 - 48)))) else (bif (c_p0 == 32) then (some 10) else (bif (c_p0 == 45) then (some 11) else (bif (c_p0 == 46) then (some 12) else (some (-1)))))

theorem c_ref02_digit {c_p0 : Int} {r : Int} (h : m_ref02_digit c_p0 = some r) :
    Fun Tryd.prog 100 [.int .u8 c_p0] [] (Val (.int .i64 r)) := by
  unfold m_ref02_digit at h
  refine Fun.intro Tryd.func100 rfl rfl rfl fun w R => ?_
  refine St.seq ?_
  refine St.region ?_
  refine St.p rfl rfl ?_
  refine St.done ?_
  refine St.thenN ?_
  refine St.prune (Γ' := [(0, _)]) ⟨rfl, trivial⟩ .z ?_
  refine St.seq ?_
  refine St.block ?_
  refine St.seq ?_
  obtain ⟨o1, hj1, h⟩ := bnd_e h
  refine St.cutE (fun (e1 : Unit) => [(0, .int .u8 c_p0), (3, .bool o1)]) (fun e1 => R) ?_ ?_
  · refine St.region ?_
    iterate 3 refine St.p rfl rfl ?_
    refine St.gSplit (dj := 6) _ rfl (fun hb1 => ?_) (fun hb1 => ?_)
    · replace hj1 := bif_t hb1 hj1
      refine St.gOn (dj := 6) rfl rfl ?_
      refine St.p rfl rfl ?_
      refine St.gOn (dj := 6) rfl rfl ?_
      iterate 3 refine St.p rfl rfl ?_
      refine St.done ?_
      injection hj1 with hj1
      subst hj1
      refine St.thenN ?_
      exact St.hereE () ⟨rfl, rfl, trivial⟩ (fun _ w => (.z : Keep _ _).sat w)
    · replace hj1 := bif_f hb1 hj1
      refine St.gOff (dj := 6) rfl rfl rfl rfl ?_
      refine St.gOff (dj := 6) rfl rfl rfl rfl ?_
      refine St.p rfl rfl ?_
      refine St.p rfl rfl ?_
      refine St.done ?_
      injection hj1 with hj1
      subst hj1
      refine St.thenN ?_
      exact St.hereE () ⟨rfl, rfl, trivial⟩ (fun _ w => (.z : Keep _ _).sat w)
  · rintro e1
    refine St.cond _ rfl (fun hb2 => ?_) (fun hb2 => ?_)
    · replace h := bif_t hb2 h
      refine St.seq ?_
      refine St.region ?_
      iterate 4 refine St.p rfl rfl ?_
      refine St.done ?_
      refine St.thenN ?_
      refine St.prune (Γ' := [(2, _)]) ⟨rfl, trivial⟩ .z ?_
      refine St.ret ?_
      repeat (first | refine St.thenR ?_ | refine St.blkR ?_)
      injection h with h
      subst h
      exact St.finR Tryd.results100 (.tmp rfl .nil) rfl [] ⟨rfl, rfl⟩ (fun _ w => (.z : Keep _ _).sat w)
    · replace h := bif_f hb2 h
      refine St.seq ?_
      refine St.region ?_
      iterate 3 refine St.p rfl rfl ?_
      refine St.done ?_
      refine St.thenN ?_
      refine St.prune (Γ' := [(0, _), (13, _)]) ⟨rfl, rfl, trivial⟩ .z ?_
      refine St.cond _ rfl (fun hb3 => ?_) (fun hb3 => ?_)
      · replace h := bif_t hb3 h
        refine St.seq ?_
        refine St.region ?_
        refine St.p rfl rfl ?_
        refine St.done ?_
        refine St.thenN ?_
        refine St.prune (Γ' := [(2, _)]) ⟨rfl, trivial⟩ .z ?_
        refine St.ret ?_
        repeat (first | refine St.thenR ?_ | refine St.blkR ?_)
        injection h with h
        subst h
        exact St.finR Tryd.results100 (.tmp rfl .nil) rfl [] ⟨rfl, rfl⟩ (fun _ w => (.z : Keep _ _).sat w)
      · replace h := bif_f hb3 h
        refine St.seq ?_
        refine St.region ?_
        iterate 3 refine St.p rfl rfl ?_
        refine St.done ?_
        refine St.thenN ?_
        refine St.prune (Γ' := [(0, _), (16, _)]) ⟨rfl, rfl, trivial⟩ .z ?_
        refine St.cond _ rfl (fun hb4 => ?_) (fun hb4 => ?_)
        · replace h := bif_t hb4 h
          refine St.seq ?_
          refine St.region ?_
          refine St.p rfl rfl ?_
          refine St.done ?_
          refine St.thenN ?_
          refine St.prune (Γ' := [(2, _)]) ⟨rfl, trivial⟩ .z ?_
          refine St.ret ?_
          repeat (first | refine St.thenR ?_ | refine St.blkR ?_)
          injection h with h
          subst h
          exact St.finR Tryd.results100 (.tmp rfl .nil) rfl [] ⟨rfl, rfl⟩ (fun _ w => (.z : Keep _ _).sat w)
        · replace h := bif_f hb4 h
          refine St.seq ?_
          refine St.region ?_
          iterate 3 refine St.p rfl rfl ?_
          refine St.done ?_
          refine St.thenN ?_
          refine St.prune (Γ' := [(19, _)]) ⟨rfl, trivial⟩ .z ?_
          refine St.cond _ rfl (fun hb5 => ?_) (fun hb5 => ?_)
          · replace h := bif_t hb5 h
            refine St.seq ?_
            refine St.region ?_
            refine St.p rfl rfl ?_
            refine St.done ?_
            refine St.thenN ?_
            refine St.prune (Γ' := [(2, _)]) ⟨rfl, trivial⟩ .z ?_
            refine St.ret ?_
            repeat (first | refine St.thenR ?_ | refine St.blkR ?_)
            injection h with h
            subst h
            exact St.finR Tryd.results100 (.tmp rfl .nil) rfl [] ⟨rfl, rfl⟩ (fun _ w => (.z : Keep _ _).sat w)
          · replace h := bif_f hb5 h
            refine St.skip ?_
            refine St.blkN ?_
            refine St.thenN ?_
            refine St.prune (Γ' := []) trivial .z ?_
            refine St.seq ?_
            refine St.region ?_
            refine St.p rfl rfl ?_
            refine St.done ?_
            refine St.thenN ?_
            refine St.ret ?_
            repeat (first | refine St.thenR ?_ | refine St.blkR ?_)
            injection h with h
            subst h
            exact St.finR Tryd.results100 (.tmp rfl .nil) rfl [] ⟨rfl, rfl⟩ (fun _ w => (.z : Keep _ _).sat w)

theorem ent101 : Ent Tryd.prog 101 := ⟨_, Tryd.func101, by kernel_rfl, by kernel_rfl⟩

noncomputable def m_ref02_sixBytes (n_p0 : Int) : Option Int :=
  some (IntKind.wrap .i64 ((IntKind.wrap .i64 ((IntKind.wrap .i64 (6 * n_p0)) + 7)).tdiv 8))

theorem c_ref02_sixBytes {n_p0 : Int} {r : Int} (h : m_ref02_sixBytes n_p0 = some r) :
    Fun Tryd.prog 101 [.int .i64 n_p0] [] (Val (.int .i64 r)) := by
  unfold m_ref02_sixBytes at h
  refine Fun.intro Tryd.func101 rfl rfl rfl fun w R => ?_
  refine St.seq ?_
  refine St.region ?_
  refine St.p rfl rfl ?_
  refine St.done ?_
  refine St.thenN ?_
  refine St.prune (Γ' := [(0, _)]) ⟨rfl, trivial⟩ .z ?_
  refine St.seq ?_
  refine St.region ?_
  iterate 5 refine St.p rfl rfl ?_
  refine St.done ?_
  refine St.thenN ?_
  refine St.prune (Γ' := [(2, _)]) ⟨rfl, trivial⟩ .z ?_
  refine St.ret ?_
  repeat (first | refine St.thenR ?_ | refine St.blkR ?_)
  injection h with h
  subst h
  exact St.finR Tryd.results101 (.tmp rfl .nil) rfl [] ⟨rfl, rfl⟩ (fun _ w => (.z : Keep _ _).sat w)

theorem ent92 : Ent Tryd.prog 92 := ⟨_, Tryd.func92, by kernel_rfl, by kernel_rfl⟩

noncomputable def m_ref02_Valid (f_p0 : T_Field) : Option Bool :=
  bif (f_p0.Kind == 0) then (some (decide ((f_p0.Value.size : Int) ≤ 63))) else (bif (f_p0.Kind == 1) then (bnd ((bif (((f_p0.Value.size : Int).tmod 2) != 0) then (some true) else (some (decide ((f_p0.Value.size : Int) > 126))) : Option Bool)) fun o1 => bif o1 then (some false) else (bnd (loopM (τ := Bool ⊕ Unit) (fun (s1 : Int) => bif decide (s1 < (f_p0.Value.size : Int)) then (bnd (eltS f_p0.Value s1) fun y1 => bnd (m_ref02_digit y1) fun r1 => bif decide (r1 < 0) then (some (.done (.inl false))) else (some (.next (IntKind.wrap .i64 (s1 + 1))))) else (some (.done (.inr ())))) 0) fun o2 => retOr o2 fun o3 => some true)) else (bif (f_p0.Kind == 2) then (bnd ((bif (((f_p0.Value.size : Int).tmod 4) == 3) then (some true) else (bif decide ((f_p0.Value.size : Int) > 126) then (some true) else (bnd (m_ref02_sixBytes (f_p0.Value.size : Int)) fun r2 => some (decide (r2 > 63)))) : Option Bool)) fun o4 => bif o4 then (some false) else (bnd (loopM (τ := Bool ⊕ Unit) (fun (s2 : Int) => bif decide (s2 < (f_p0.Value.size : Int)) then (bnd ((bnd (eltS f_p0.Value s2) fun y2 => bif decide (y2 < 32) then (some true) else (some (decide (y2 > 95))) : Option Bool)) fun o7 => bif o7 then (some (.done (.inl false))) else (some (.next (IntKind.wrap .i64 (s2 + 1))))) else (some (.done (.inr ())))) 0) fun o5 => retOr o5 fun o6 => some true)) else (bif (f_p0.Kind == 3) then (bnd ((bif ((f_p0.Value.size : Int) == 0) then (some true) else (bif decide ((f_p0.Value.size : Int) ≥ 2) then (some (decide ((f_p0.Value.size : Int) ≤ 63))) else (some false)) : Option Bool)) fun o8 => some o8) else (some false))))

set_option maxHeartbeats 4000000 in
theorem c_ref02_Valid {f_p0 : T_Field} {r : Bool} (h : m_ref02_Valid f_p0 = some r) :
    Fun Tryd.prog 92 [.agg #[.int .i64 f_p0.Kind, .string f_p0.Value]] [] (Val (.bool r)) := by
  unfold m_ref02_Valid at h
  refine Fun.intro Tryd.func92 rfl rfl rfl fun w R => ?_
  refine St.seq ?_
  refine St.region ?_
  refine St.box rfl rfl fun g1 => ?_
  refine St.p rfl rfl ?_
  refine St.done ?_
  refine St.thenN ?_
  refine St.prune (Γ' := [(1, _)]) ⟨rfl, trivial⟩ (.k .z) ?_
  refine St.seq ?_
  refine St.region ?_
  refine St.p rfl rfl ?_
  refine St.loadB 1 rfl rfl (.head _) rfl rfl ?_
  refine St.p rfl rfl ?_
  refine St.p rfl rfl ?_
  refine St.done ?_
  refine St.thenN ?_
  refine St.prune (Γ' := [(1, _), (3, _)]) ⟨rfl, rfl, trivial⟩ (.k .z) ?_
  refine St.seq ?_
  refine St.seq ?_
  refine St.region ?_
  refine St.p rfl rfl ?_
  refine St.loadB 0 rfl rfl (.head _) rfl rfl ?_
  refine St.done ?_
  refine St.thenN ?_
  refine St.prune (Γ' := [(1, _), (3, _), (10, _)]) ⟨rfl, rfl, rfl, trivial⟩ (.k .z) ?_
  refine St.block ?_
  refine St.seq ?_
  refine St.region ?_
  refine St.p rfl rfl ?_
  refine St.p rfl rfl ?_
  refine St.done ?_
  refine St.thenN ?_
  refine St.prune (Γ' := [(1, _), (3, _), (10, _), (11, _)]) ⟨rfl, rfl, rfl, rfl, trivial⟩ (.k .z) ?_
  refine St.cond _ rfl (fun hb1 => ?_) (fun hb1 => ?_)
  · replace h := bif_t hb1 h
    refine St.seq ?_
    refine St.region ?_
    iterate 3 refine St.p rfl rfl ?_
    refine St.done ?_
    refine St.thenN ?_
    refine St.prune (Γ' := [(2, _)]) ⟨rfl, trivial⟩ (.d .z) ?_
    refine St.ret ?_
    repeat (first | refine St.thenR ?_ | refine St.blkR ?_)
    injection h with h
    subst h
    exact St.finR Tryd.results92 (.tmp rfl .nil) rfl [] ⟨rfl, rfl⟩ (fun _ w => (.z : Keep _ _).sat w)
  · replace h := bif_f hb1 h
    refine St.seq ?_
    refine St.region ?_
    refine St.p rfl rfl ?_
    refine St.p rfl rfl ?_
    refine St.done ?_
    refine St.thenN ?_
    refine St.prune (Γ' := [(1, _), (3, _), (10, _), (15, _)]) ⟨rfl, rfl, rfl, rfl, trivial⟩ (.k .z) ?_
    refine St.cond _ rfl (fun hb2 => ?_) (fun hb2 => ?_)
    · replace h := bif_t hb2 h
      refine St.seq ?_
      refine St.seq ?_
      obtain ⟨o1, hj1, h⟩ := bnd_e h
      refine St.cutE (fun (e1 : Unit) => [(1, .pointer (some ⟨g1, 0, none⟩)), (3, .int .i64 (f_p0.Value.size : Int)), (23, .bool o1)]) (fun e1 => .res (Box g1 60 [.int .i64 f_p0.Kind, .string f_p0.Value]) :: R) ?_ ?_
      · refine St.region ?_
        iterate 4 refine St.p rfl rfl ?_
        refine St.gSplit (dj := 20) _ rfl (fun hb3 => ?_) (fun hb3 => ?_)
        · replace hj1 := bif_t hb3 hj1
          refine St.gOff (dj := 20) rfl rfl rfl rfl ?_
          refine St.gOff (dj := 20) rfl rfl rfl rfl ?_
          refine St.p rfl rfl ?_
          refine St.done ?_
          injection hj1 with hj1
          subst hj1
          refine St.thenN ?_
          exact St.hereE () ⟨rfl, rfl, rfl, trivial⟩ (fun _ w => ((.k .z) : Keep _ _).sat w)
        · replace hj1 := bif_f hb3 hj1
          refine St.gOn (dj := 20) rfl rfl ?_
          refine St.p rfl rfl ?_
          refine St.gOn (dj := 20) rfl rfl ?_
          refine St.p rfl rfl ?_
          refine St.p rfl rfl ?_
          refine St.done ?_
          injection hj1 with hj1
          subst hj1
          refine St.thenN ?_
          exact St.hereE () ⟨rfl, rfl, rfl, trivial⟩ (fun _ w => ((.k .z) : Keep _ _).sat w)
      · rintro e1
        refine St.cond _ rfl (fun hb4 => ?_) (fun hb4 => ?_)
        · replace h := bif_t hb4 h
          refine St.seq ?_
          refine St.region ?_
          refine St.p rfl rfl ?_
          refine St.done ?_
          refine St.thenN ?_
          refine St.prune (Γ' := [(2, _)]) ⟨rfl, trivial⟩ (.d .z) ?_
          refine St.ret ?_
          repeat (first | refine St.thenR ?_ | refine St.blkR ?_)
          injection h with h
          subst h
          exact St.finR Tryd.results92 (.tmp rfl .nil) rfl [] ⟨rfl, rfl⟩ (fun _ w => (.z : Keep _ _).sat w)
        · replace h := bif_f hb4 h
          refine St.skip ?_
          refine St.thenN ?_
          refine St.prune (Γ' := [(1, _), (3, _)]) ⟨rfl, rfl, trivial⟩ (.k .z) ?_
          refine St.seq ?_
          refine St.seq ?_
          refine St.region ?_
          refine St.p rfl rfl ?_
          refine St.done ?_
          refine St.thenN ?_
          obtain ⟨o2, hl1, h⟩ := bnd_e h
          refine St.cutI (fun (o3 : Unit) (e3 : Unit) => []) (fun o3 e3 => R) (fun o3 => o2 = .inr o3) ?_ ?_
          · refine St.block ?_
            refine St.loop hl1 (fun (s1 : Int) (e2 : Unit) => [(1, .pointer (some ⟨g1, 0, none⟩)), (3, .int .i64 (f_p0.Value.size : Int)), (4, .int .i64 s1)]) (fun s1 e2 => .res (Box g1 60 [.int .i64 f_p0.Kind, .string f_p0.Value]) :: R) (fun _ _ => True) () trivial ⟨rfl, rfl, rfl, trivial⟩ (fun _ w => ((.k .z) : Keep _ _).sat w) ?_
            rintro s1 e2 - hit1
            obtain ⟨st1, hm1, hd1⟩ := iter_e hit1
            have h1 := hm1
            refine St.seq ?_
            refine St.seq ?_
            refine St.region ?_
            iterate 3 refine St.p rfl rfl ?_
            refine St.done ?_
            refine St.thenN ?_
            refine St.prune (Γ' := [(1, _), (3, _), (4, _), (26, _)]) ⟨rfl, rfl, rfl, rfl, trivial⟩ (.k .z) ?_
            refine St.cond _ rfl (fun hb5 => ?_) (fun hb5 => ?_)
            · replace h1 := bif_t hb5 h1
              refine St.skip ?_
              refine St.thenN ?_
              refine St.prune (Γ' := [(1, _), (3, _), (4, _)]) ⟨rfl, rfl, rfl, trivial⟩ (.k .z) ?_
              refine St.seq ?_
              refine St.block ?_
              refine St.seq ?_
              refine St.region ?_
              refine St.p rfl rfl ?_
              refine St.loadB 1 rfl rfl (.head _) rfl rfl ?_
              refine St.p rfl rfl ?_
              obtain ⟨y1, hy1, h1⟩ := bnd_e h1
              refine St.eltS rfl rfl rfl rfl rfl hy1 ?_
              obtain ⟨r1, hr1, h1⟩ := bnd_e h1
              refine St.callV (c_ref02_digit hr1) ent100 rfl rfl rfl rfl trivial ?_
              refine St.p rfl rfl ?_
              refine St.done ?_
              refine St.thenN ?_
              refine St.prune (Γ' := [(1, _), (3, _), (4, _), (34, _)]) ⟨rfl, rfl, rfl, rfl, trivial⟩ (.k .z) ?_
              refine St.cond _ rfl (fun hb6 => ?_) (fun hb6 => ?_)
              · replace h1 := bif_t hb6 h1
                refine St.seq ?_
                refine St.region ?_
                refine St.p rfl rfl ?_
                refine St.done ?_
                refine St.thenN ?_
                refine St.prune (Γ' := [(2, _)]) ⟨rfl, trivial⟩ (.d .z) ?_
                refine St.ret ?_
                repeat (first | refine St.thenR ?_ | refine St.blkR ?_)
                injection h1 with h1
                subst h1
                have ho := hd1 _ rfl
                subst ho
                have h : some _ = some _ := h
                injection h with h
                subst h
                exact St.finR Tryd.results92 (.tmp rfl .nil) rfl [] ⟨rfl, rfl⟩ (fun _ w => (.z : Keep _ _).sat w)
              · replace h1 := bif_f hb6 h1
                refine St.skip ?_
                refine St.blkN ?_
                refine St.thenN ?_
                refine St.prune (Γ' := [(1, _), (3, _), (4, _)]) ⟨rfl, rfl, rfl, trivial⟩ (.k .z) ?_
                refine St.region ?_
                iterate 3 refine St.p rfl rfl ?_
                refine St.done ?_
                injection h1 with h1
                subst h1
                refine St.thenN ?_
                exact St.again _ () hm1 trivial ⟨rfl, rfl, rfl, trivial⟩ (fun _ w => ((.k .z) : Keep _ _).sat w)
            · replace h1 := bif_f hb5 h1
              refine St.exit ?_
              repeat (first | refine St.thenX ?_ | refine St.blkMiss rfl ?_)
              refine St.blkHit ?_
              injection h1 with h1
              subst h1
              have ho := hd1 _ rfl
              subst ho
              refine St.thenN ?_
              exact St.hereI () () rfl trivial (fun _ w => ((.d .z) : Keep _ _).sat w)
          · rintro o3 e3 ho
            subst ho
            have h : _ = some _ := h
            refine St.seq ?_
            refine St.region ?_
            refine St.p rfl rfl ?_
            refine St.done ?_
            refine St.thenN ?_
            refine St.ret ?_
            repeat (first | refine St.thenR ?_ | refine St.blkR ?_)
            injection h with h
            subst h
            exact St.finR Tryd.results92 (.tmp rfl .nil) rfl [] ⟨rfl, rfl⟩ (fun _ w => (.z : Keep _ _).sat w)
    · replace h := bif_f hb2 h
      refine St.seq ?_
      refine St.region ?_
      refine St.p rfl rfl ?_
      refine St.p rfl rfl ?_
      refine St.done ?_
      refine St.thenN ?_
      refine St.prune (Γ' := [(1, _), (3, _), (10, _), (35, _)]) ⟨rfl, rfl, rfl, rfl, trivial⟩ (.k .z) ?_
      refine St.cond _ rfl (fun hb7 => ?_) (fun hb7 => ?_)
      · replace h := bif_t hb7 h
        refine St.seq ?_
        refine St.seq ?_
        obtain ⟨o4, hj2, h⟩ := bnd_e h
        refine St.cutE (fun (e4 : Unit) => [(1, .pointer (some ⟨g1, 0, none⟩)), (3, .int .i64 (f_p0.Value.size : Int)), (48, .bool o4)]) (fun e4 => .res (Box g1 60 [.int .i64 f_p0.Kind, .string f_p0.Value]) :: R) ?_ ?_
        · refine St.region ?_
          iterate 4 refine St.p rfl rfl ?_
          refine St.gSplit (dj := 40) _ rfl (fun hb8 => ?_) (fun hb8 => ?_)
          · replace hj2 := bif_t hb8 hj2
            refine St.gOff (dj := 40) rfl rfl rfl rfl ?_
            refine St.gOff (dj := 40) rfl rfl rfl rfl ?_
            refine St.p rfl rfl ?_
            refine St.p rfl rfl ?_
            refine St.gOff (dj := 44) rfl rfl rfl rfl ?_
            refine St.gOff (dj := 44) rfl rfl rfl rfl ?_
            refine St.gOff (dj := 44) rfl rfl rfl rfl ?_
            refine St.p rfl rfl ?_
            refine St.done ?_
            injection hj2 with hj2
            subst hj2
            refine St.thenN ?_
            exact St.hereE () ⟨rfl, rfl, rfl, trivial⟩ (fun _ w => ((.k .z) : Keep _ _).sat w)
          · replace hj2 := bif_f hb8 hj2
            refine St.gOn (dj := 40) rfl rfl ?_
            refine St.p rfl rfl ?_
            refine St.gOn (dj := 40) rfl rfl ?_
            iterate 3 refine St.p rfl rfl ?_
            refine St.gSplit (dj := 44) _ rfl (fun hb9 => ?_) (fun hb9 => ?_)
            · replace hj2 := bif_t hb9 hj2
              refine St.gOff (dj := 44) rfl rfl rfl rfl ?_
              refine St.gOff (dj := 44) rfl rfl rfl rfl ?_
              refine St.gOff (dj := 44) rfl rfl rfl rfl ?_
              refine St.p rfl rfl ?_
              refine St.done ?_
              injection hj2 with hj2
              subst hj2
              refine St.thenN ?_
              exact St.hereE () ⟨rfl, rfl, rfl, trivial⟩ (fun _ w => ((.k .z) : Keep _ _).sat w)
            · replace hj2 := bif_f hb9 hj2
              refine St.gOn (dj := 44) rfl rfl ?_
              refine St.p rfl rfl ?_
              refine St.gOn (dj := 44) rfl rfl ?_
              obtain ⟨r2, hr2, hj2⟩ := bnd_e hj2
              refine St.callV (c_ref02_sixBytes hr2) ent101 rfl rfl rfl rfl trivial ?_
              refine St.gOn (dj := 44) rfl rfl ?_
              refine St.p rfl rfl ?_
              refine St.p rfl rfl ?_
              refine St.done ?_
              injection hj2 with hj2
              subst hj2
              refine St.thenN ?_
              exact St.hereE () ⟨rfl, rfl, rfl, trivial⟩ (fun _ w => ((.k .z) : Keep _ _).sat w)
        · rintro e4
          refine St.cond _ rfl (fun hb10 => ?_) (fun hb10 => ?_)
          · replace h := bif_t hb10 h
            refine St.seq ?_
            refine St.region ?_
            refine St.p rfl rfl ?_
            refine St.done ?_
            refine St.thenN ?_
            refine St.prune (Γ' := [(2, _)]) ⟨rfl, trivial⟩ (.d .z) ?_
            refine St.ret ?_
            repeat (first | refine St.thenR ?_ | refine St.blkR ?_)
            injection h with h
            subst h
            exact St.finR Tryd.results92 (.tmp rfl .nil) rfl [] ⟨rfl, rfl⟩ (fun _ w => (.z : Keep _ _).sat w)
          · replace h := bif_f hb10 h
            refine St.skip ?_
            refine St.thenN ?_
            refine St.prune (Γ' := [(1, _), (3, _)]) ⟨rfl, rfl, trivial⟩ (.k .z) ?_
            refine St.seq ?_
            refine St.seq ?_
            refine St.region ?_
            refine St.p rfl rfl ?_
            refine St.done ?_
            refine St.thenN ?_
            obtain ⟨o5, hl2, h⟩ := bnd_e h
            refine St.cutI (fun (o6 : Unit) (e6 : Unit) => []) (fun o6 e6 => R) (fun o6 => o5 = .inr o6) ?_ ?_
            · refine St.block ?_
              refine St.loop hl2 (fun (s2 : Int) (e5 : Unit) => [(1, .pointer (some ⟨g1, 0, none⟩)), (3, .int .i64 (f_p0.Value.size : Int)), (5, .int .i64 s2)]) (fun s2 e5 => .res (Box g1 60 [.int .i64 f_p0.Kind, .string f_p0.Value]) :: R) (fun _ _ => True) () trivial ⟨rfl, rfl, rfl, trivial⟩ (fun _ w => ((.k .z) : Keep _ _).sat w) ?_
              rintro s2 e5 - hit2
              obtain ⟨st2, hm2, hd2⟩ := iter_e hit2
              have h2 := hm2
              refine St.seq ?_
              refine St.seq ?_
              refine St.region ?_
              iterate 3 refine St.p rfl rfl ?_
              refine St.done ?_
              refine St.thenN ?_
              refine St.prune (Γ' := [(1, _), (3, _), (5, _), (51, _)]) ⟨rfl, rfl, rfl, rfl, trivial⟩ (.k .z) ?_
              refine St.cond _ rfl (fun hb11 => ?_) (fun hb11 => ?_)
              · replace h2 := bif_t hb11 h2
                refine St.skip ?_
                refine St.thenN ?_
                refine St.prune (Γ' := [(1, _), (3, _), (5, _)]) ⟨rfl, rfl, rfl, trivial⟩ (.k .z) ?_
                refine St.seq ?_
                refine St.block ?_
                refine St.seq ?_
                obtain ⟨o7, hj3, h2⟩ := bnd_e h2
                refine St.cutE (fun (e7 : Unit) => [(1, .pointer (some ⟨g1, 0, none⟩)), (3, .int .i64 (f_p0.Value.size : Int)), (5, .int .i64 s2), (65, .bool o7)]) (fun e7 => .res (Box g1 60 [.int .i64 f_p0.Kind, .string f_p0.Value]) :: R) ?_ ?_
                · refine St.region ?_
                  refine St.p rfl rfl ?_
                  refine St.loadB 1 rfl rfl (.head _) rfl rfl ?_
                  refine St.p rfl rfl ?_
                  obtain ⟨y2, hy2, hj3⟩ := bnd_e hj3
                  refine St.eltS rfl rfl rfl rfl rfl hy2 ?_
                  refine St.p rfl rfl ?_
                  refine St.p rfl rfl ?_
                  refine St.gSplit (dj := 59) _ rfl (fun hb12 => ?_) (fun hb12 => ?_)
                  · replace hj3 := bif_t hb12 hj3
                    refine St.gOff (dj := 59) rfl rfl rfl rfl ?_
                    refine St.gOff (dj := 59) rfl rfl rfl rfl ?_
                    refine St.gOff (dj := 59) rfl rfl rfl rfl ?_
                    refine St.gOff (dj := 59) rfl rfl rfl rfl ?_
                    refine St.gOff (dj := 59) rfl rfl rfl rfl ?_
                    refine St.p rfl rfl ?_
                    refine St.done ?_
                    injection hj3 with hj3
                    subst hj3
                    refine St.thenN ?_
                    exact St.hereE () ⟨rfl, rfl, rfl, rfl, trivial⟩ (fun _ w => ((.k .z) : Keep _ _).sat w)
                  · replace hj3 := bif_f hb12 hj3
                    refine St.gOn (dj := 59) rfl rfl ?_
                    refine St.p rfl rfl ?_
                    refine St.gOn (dj := 59) rfl rfl ?_
                    refine St.loadB 1 rfl rfl (.head _) rfl rfl ?_
                    refine St.gOn (dj := 59) rfl rfl ?_
                    refine St.p rfl rfl ?_
                    refine St.gOn (dj := 59) rfl rfl ?_
                    refine St.eltS rfl rfl rfl rfl rfl hy2 ?_
                    refine St.gOn (dj := 59) rfl rfl ?_
                    refine St.p rfl rfl ?_
                    refine St.p rfl rfl ?_
                    refine St.done ?_
                    injection hj3 with hj3
                    subst hj3
                    refine St.thenN ?_
                    exact St.hereE () ⟨rfl, rfl, rfl, rfl, trivial⟩ (fun _ w => ((.k .z) : Keep _ _).sat w)
                · rintro e7
                  refine St.cond _ rfl (fun hb13 => ?_) (fun hb13 => ?_)
                  · replace h2 := bif_t hb13 h2
                    refine St.seq ?_
                    refine St.region ?_
                    refine St.p rfl rfl ?_
                    refine St.done ?_
                    refine St.thenN ?_
                    refine St.prune (Γ' := [(2, _)]) ⟨rfl, trivial⟩ (.d .z) ?_
                    refine St.ret ?_
                    repeat (first | refine St.thenR ?_ | refine St.blkR ?_)
                    injection h2 with h2
                    subst h2
                    have ho := hd2 _ rfl
                    subst ho
                    have h : some _ = some _ := h
                    injection h with h
                    subst h
                    exact St.finR Tryd.results92 (.tmp rfl .nil) rfl [] ⟨rfl, rfl⟩ (fun _ w => (.z : Keep _ _).sat w)
                  · replace h2 := bif_f hb13 h2
                    refine St.skip ?_
                    refine St.blkN ?_
                    refine St.thenN ?_
                    refine St.prune (Γ' := [(1, _), (3, _), (5, _)]) ⟨rfl, rfl, rfl, trivial⟩ (.k .z) ?_
                    refine St.region ?_
                    iterate 3 refine St.p rfl rfl ?_
                    refine St.done ?_
                    injection h2 with h2
                    subst h2
                    refine St.thenN ?_
                    exact St.again _ () hm2 trivial ⟨rfl, rfl, rfl, trivial⟩ (fun _ w => ((.k .z) : Keep _ _).sat w)
              · replace h2 := bif_f hb11 h2
                refine St.exit ?_
                repeat (first | refine St.thenX ?_ | refine St.blkMiss rfl ?_)
                refine St.blkHit ?_
                injection h2 with h2
                subst h2
                have ho := hd2 _ rfl
                subst ho
                refine St.thenN ?_
                exact St.hereI () () rfl trivial (fun _ w => ((.d .z) : Keep _ _).sat w)
            · rintro o6 e6 ho
              subst ho
              have h : _ = some _ := h
              refine St.seq ?_
              refine St.region ?_
              refine St.p rfl rfl ?_
              refine St.done ?_
              refine St.thenN ?_
              refine St.ret ?_
              repeat (first | refine St.thenR ?_ | refine St.blkR ?_)
              injection h with h
              subst h
              exact St.finR Tryd.results92 (.tmp rfl .nil) rfl [] ⟨rfl, rfl⟩ (fun _ w => (.z : Keep _ _).sat w)
      · replace h := bif_f hb7 h
        refine St.seq ?_
        refine St.region ?_
        refine St.p rfl rfl ?_
        refine St.p rfl rfl ?_
        refine St.done ?_
        refine St.thenN ?_
        refine St.prune (Γ' := [(3, _), (66, _)]) ⟨rfl, rfl, trivial⟩ (.d .z) ?_
        refine St.cond _ rfl (fun hb14 => ?_) (fun hb14 => ?_)
        · replace h := bif_t hb14 h
          refine St.seq ?_
          obtain ⟨o8, hj4, h⟩ := bnd_e h
          refine St.cutE (fun (e8 : Unit) => [(2, .bool o8)]) (fun e8 => R) ?_ ?_
          · refine St.region ?_
            iterate 3 refine St.p rfl rfl ?_
            refine St.gSplit (dj := 70) _ rfl (fun hb15 => ?_) (fun hb15 => ?_)
            · replace hj4 := bif_t hb15 hj4
              refine St.gOff (dj := 70) rfl rfl rfl rfl ?_
              refine St.gOff (dj := 70) rfl rfl rfl rfl ?_
              refine St.gOff (dj := 70) rfl rfl rfl rfl ?_
              refine St.gOff (dj := 73) rfl rfl rfl rfl ?_
              refine St.gOff (dj := 73) rfl rfl rfl rfl ?_
              refine St.gOff (dj := 70) rfl rfl rfl rfl ?_
              refine St.p rfl rfl ?_
              refine St.p rfl rfl ?_
              refine St.done ?_
              injection hj4 with hj4
              subst hj4
              refine St.thenN ?_
              exact St.hereE () ⟨rfl, trivial⟩ (fun _ w => (.z : Keep _ _).sat w)
            · replace hj4 := bif_f hb15 hj4
              refine St.gOn (dj := 70) rfl rfl ?_
              refine St.p rfl rfl ?_
              refine St.gOn (dj := 70) rfl rfl ?_
              refine St.p rfl rfl ?_
              refine St.gOn (dj := 70) rfl rfl ?_
              refine St.p rfl rfl ?_
              refine St.gSplit (dj := 73) _ rfl (fun hb16 => ?_) (fun hb16 => ?_)
              · replace hj4 := bif_t hb16 hj4
                refine St.gOn (dj := 73) rfl rfl ?_
                refine St.p rfl rfl ?_
                refine St.gOn (dj := 73) rfl rfl ?_
                refine St.p rfl rfl ?_
                refine St.gOn (dj := 70) rfl rfl ?_
                iterate 3 refine St.p rfl rfl ?_
                refine St.done ?_
                injection hj4 with hj4
                subst hj4
                refine St.thenN ?_
                exact St.hereE () ⟨rfl, trivial⟩ (fun _ w => (.z : Keep _ _).sat w)
              · replace hj4 := bif_f hb16 hj4
                refine St.gOff (dj := 73) rfl rfl rfl rfl ?_
                refine St.gOff (dj := 73) rfl rfl rfl rfl ?_
                refine St.gOn (dj := 70) rfl rfl ?_
                iterate 3 refine St.p rfl rfl ?_
                refine St.done ?_
                injection hj4 with hj4
                subst hj4
                refine St.thenN ?_
                exact St.hereE () ⟨rfl, trivial⟩ (fun _ w => (.z : Keep _ _).sat w)
          · rintro e8
            refine St.ret ?_
            repeat (first | refine St.thenR ?_ | refine St.blkR ?_)
            injection h with h
            subst h
            exact St.finR Tryd.results92 (.tmp rfl .nil) rfl [] ⟨rfl, rfl⟩ (fun _ w => (.z : Keep _ _).sat w)
        · replace h := bif_f hb14 h
          refine St.skip ?_
          refine St.blkN ?_
          refine St.thenN ?_
          refine St.prune (Γ' := []) trivial .z ?_
          refine St.seq ?_
          refine St.region ?_
          refine St.p rfl rfl ?_
          refine St.done ?_
          refine St.thenN ?_
          refine St.ret ?_
          repeat (first | refine St.thenR ?_ | refine St.blkR ?_)
          injection h with h
          subst h
          exact St.finR Tryd.results92 (.tmp rfl .nil) rfl [] ⟨rfl, rfl⟩ (fun _ w => (.z : Keep _ _).sat w)

theorem ent93 : Ent Tryd.prog 93 := ⟨_, Tryd.func93, by kernel_rfl, by kernel_rfl⟩

noncomputable def m_ref02_data (f_p0 : T_Field) : Option (List Int) :=
  bif (f_p0.Kind == 1) then (bnd (loopM (τ := List Int) (fun (s1 : List Int × Int) => bif decide ((IntKind.wrap .i64 (s1.2 + 1)) < (f_p0.Value.size : Int)) then (bnd (eltS f_p0.Value s1.2) fun y1 => bnd (m_ref02_digit y1) fun r1 => bnd (eltS f_p0.Value (IntKind.wrap .i64 (s1.2 + 1))) fun y2 => bnd (m_ref02_digit y2) fun r2 => bnd (app 1 s1.1 [IntKind.wrap .u8 (IntKind.wrap .i64 ((IntKind.wrap .i64 (16 * r1)) + r2))]) fun l1 => some (.next (l1, IntKind.wrap .i64 (s1.2 + 2)))) else (some (.done s1.1))) ([], 0)) fun o1 => some o1) else (bif (f_p0.Kind == 2) then (bnd (m_ref02_sixBytes (f_p0.Value.size : Int)) fun r3 => bnd (mkS 1 0 r3 r3) fun l2 => bnd (loopM (τ := List Int) (fun (s2 : Int × List Int) => bif decide (s2.1 < (f_p0.Value.size : Int)) then (bnd (eltS f_p0.Value s2.1) fun y3 => bnd (loopM (τ := List Int) (fun (s3 : Int × Int × List Int) => bif decide (s3.2.1 < 6) then (bif ((s3.1.tmod 2) == 1) then (bnd (elt s3.2.2 (IntKind.wrap .i64 ((IntKind.wrap .i64 ((IntKind.wrap .i64 (6 * s2.1)) + s3.2.1)).tdiv 8))) fun x1 => bnd (shlM .u8 1 (IntKind.wrap .u64 ((IntKind.wrap .i64 ((IntKind.wrap .i64 (6 * s2.1)) + s3.2.1)).tmod 8))) fun q1 => bnd (setE s3.2.2 (IntKind.wrap .i64 ((IntKind.wrap .i64 ((IntKind.wrap .i64 (6 * s2.1)) + s3.2.1)).tdiv 8)) (IntKind.wrap .u8 (x1 + q1))) fun l3 => some (.next (IntKind.wrap .i64 (s3.1.tdiv 2), IntKind.wrap .i64 (s3.2.1 + 1), l3))) else (some (.next (IntKind.wrap .i64 (s3.1.tdiv 2), IntKind.wrap .i64 (s3.2.1 + 1), s3.2.2)))) else (some (.done s3.2.2))) (IntKind.wrap .i64 ((IntKind.wrap .i64 y3) - 32), 0, s2.2)) fun o3 => some (.next (IntKind.wrap .i64 (s2.1 + 1), o3))) else (some (.done s2.2))) (0, l2)) fun o2 => some o2) else (bnd (loopM (τ := List Int) (fun (s4 : List Int × Int) => bif decide (s4.2 < (f_p0.Value.size : Int)) then (bnd (eltS f_p0.Value s4.2) fun y4 => bnd (app 1 s4.1 [y4]) fun l4 => some (.next (l4, IntKind.wrap .i64 (s4.2 + 1)))) else (some (.done s4.1))) ([], 0)) fun o4 => some o4))

set_option maxHeartbeats 4000000 in
theorem c_ref02_data {f_p0 : T_Field} {r : (List Int)} (h : m_ref02_data f_p0 = some r) :
    Fun Tryd.prog 93 [.agg #[.int .i64 f_p0.Kind, .string f_p0.Value]] [] (fun v_ F_ => ∃ (A1 : Option Addr) (c1 : Nat), v_ = .slice A1 r.length c1 ∧ F_ = [.res (OwnL eu8 5 A1 c1 r)]) := by
  unfold m_ref02_data at h
  refine Fun.intro Tryd.func93 rfl rfl rfl fun w R => ?_
  refine St.seq ?_
  refine St.region ?_
  refine St.box rfl rfl fun g1 => ?_
  refine St.p rfl rfl ?_
  refine St.done ?_
  refine St.thenN ?_
  refine St.prune (Γ' := [(1, _)]) ⟨rfl, trivial⟩ (.k .z) ?_
  refine St.seq ?_
  refine St.region ?_
  refine St.p rfl rfl ?_
  refine St.loadB 1 rfl rfl (.head _) rfl rfl ?_
  refine St.p rfl rfl ?_
  refine St.p rfl rfl ?_
  refine St.done ?_
  refine St.thenN ?_
  refine St.prune (Γ' := [(1, _), (3, _)]) ⟨rfl, rfl, trivial⟩ (.k .z) ?_
  refine St.seq ?_
  refine St.region ?_
  refine St.p rfl rfl ?_
  refine St.done ?_
  refine St.thenN ?_
  refine St.seq ?_
  refine St.seq ?_
  refine St.region ?_
  refine St.p rfl rfl ?_
  refine St.loadB 0 rfl rfl (.head _) rfl rfl ?_
  refine St.done ?_
  refine St.thenN ?_
  refine St.prune (Γ' := [(1, _), (3, _), (4, _), (15, _)]) ⟨rfl, rfl, rfl, rfl, trivial⟩ (.k .z) ?_
  refine St.block ?_
  refine St.seq ?_
  refine St.region ?_
  refine St.p rfl rfl ?_
  refine St.p rfl rfl ?_
  refine St.done ?_
  refine St.thenN ?_
  refine St.prune (Γ' := [(1, _), (3, _), (4, _), (15, _), (28, _)]) ⟨rfl, rfl, rfl, rfl, rfl, trivial⟩ (.k .z) ?_
  refine St.cond _ rfl (fun hb1 => ?_) (fun hb1 => ?_)
  · replace h := bif_t hb1 h
    refine St.seq ?_
    refine St.region ?_
    refine St.p rfl rfl ?_
    refine St.done ?_
    refine St.thenN ?_
    refine St.prune (Γ' := [(1, _), (3, _), (4, _), (5, _)]) ⟨rfl, rfl, rfl, rfl, trivial⟩ (.k .z) ?_
    refine St.asrt (fun _ w => w.nilL eu8 5) ?_
    obtain ⟨o1, hl1, h⟩ := bnd_e h
    refine St.selfThen ?_
    refine St.cutE (fun (e2 : Option Addr × Nat) => [(4, .slice e2.1 o1.length e2.2)]) (fun e2 => .res (OwnL eu8 5 e2.1 e2.2 o1) :: R) ?_ ?_
    · refine St.block ?_
      refine St.loop hl1 (fun (s1 : List Int × Int) (e1 : Option Addr × Nat) => [(1, .pointer (some ⟨g1, 0, none⟩)), (3, .int .i64 (f_p0.Value.size : Int)), (4, .slice e1.1 s1.1.length e1.2), (5, .int .i64 s1.2)]) (fun s1 e1 => .res (OwnL eu8 5 e1.1 e1.2 s1.1) :: .res (Box g1 60 [.int .i64 f_p0.Kind, .string f_p0.Value]) :: R) (fun _ _ => True) (none, 0) trivial ⟨rfl, rfl, rfl, rfl, trivial⟩ (fun _ w => ((.k (.k .z)) : Keep _ _).sat w) ?_
      rintro s1 ⟨A1, c1⟩ - hit1
      obtain ⟨st1, hm1, hd1⟩ := iter_e hit1
      have h1 := hm1
      refine St.seq ?_
      refine St.seq ?_
      refine St.region ?_
      iterate 4 refine St.p rfl rfl ?_
      refine St.done ?_
      refine St.thenN ?_
      refine St.prune (Γ' := [(1, _), (3, _), (4, _), (5, _), (33, _)]) ⟨rfl, rfl, rfl, rfl, rfl, trivial⟩ (.k (.k .z)) ?_
      refine St.cond _ rfl (fun hb2 => ?_) (fun hb2 => ?_)
      · replace h1 := bif_t hb2 h1
        refine St.skip ?_
        refine St.thenN ?_
        refine St.prune (Γ' := [(1, _), (3, _), (4, _), (5, _)]) ⟨rfl, rfl, rfl, rfl, trivial⟩ (.k (.k .z)) ?_
        refine St.seq ?_
        refine St.block ?_
        refine St.regionX (iL [(.fl, 0), (.fl, 1), (.fx, 2), (.fl, 3), (.fx, 4), (.qc, 5), (.fl, 6), (.fl, 7), (.fx, 8), (.fl, 9), (.fl, 10), (.fx, 11), (.qc, 12), (.fl, 13), (.fl, 14), (.ef, 15), (.ef, 16), (.fl, 17)] .nil) (.res (Box g1 60 [.int .i64 f_p0.Kind, .string f_p0.Value]) :: R) mixed (by kernel_rfl) (fun _ w => ((.d (.k .z)) : Keep _ _).sat w) ?_
        refine St.xfl (fun _ h => h) (Rd.p rfl) rfl ?_
        refine St.xfl (fun _ h => h) (Rd.p rfl) rfl ?_
        refine St.xfx (Rd.loadB 1 rfl (.tail _ (.head _)) rfl rfl) rfl ?_
        refine St.xfl (fun _ h => h) (Rd.p rfl) rfl ?_
        obtain ⟨y1, hy1, h1⟩ := bnd_e h1
        refine St.xfx (Rd.eltS hy1 rfl rfl rfl rfl) rfl ?_
        obtain ⟨r1, hr1, h1⟩ := bnd_e h1
        refine St.xqc (fun _ h => h) (c_ref02_digit hr1) ent100 rfl rfl rfl rfl trivial ?_
        refine St.xfl (fun _ h => h) (Rd.p rfl) rfl ?_
        refine St.xfl (fun _ h => h) (Rd.p rfl) rfl ?_
        refine St.xfx (Rd.loadB 1 rfl (.tail _ (.head _)) rfl rfl) rfl ?_
        refine St.xfl (fun _ h => h) (Rd.p rfl) rfl ?_
        refine St.xfl (fun _ h => h) (Rd.p rfl) rfl ?_
        obtain ⟨y2, hy2, h1⟩ := bnd_e h1
        refine St.xfx (Rd.eltS hy2 rfl rfl rfl rfl) rfl ?_
        obtain ⟨r2, hr2, h1⟩ := bnd_e h1
        refine St.xqc (fun _ h => h) (c_ref02_digit hr2) ent100 rfl rfl rfl rfl trivial ?_
        refine St.xfl (fun _ h => h) (Rd.p rfl) rfl ?_
        refine St.xfl (fun _ h => h) (Rd.p rfl) rfl ?_
        refine St.xef ?_
        refine St.buildSlice rfl rfl rfl rfl rfl rfl rfl rfl fun g2 => ?_
        refine St.xk (fun _ w => ((.d (.d (.k .z))) : Keep _ _).sat w) ?_
        refine St.xef ?_
        obtain ⟨l1, hl1, h1⟩ := bnd_e h1
        refine St.app (E := eu8) hl1 rfl rfl rfl (.s .z) rfl rfl rfl rfl rfl rfl rfl rfl (srcB (.head _) rfl rfl) rfl rfl fun A3 c3 => ?_
        refine St.xk (fun _ w => ((.d (.d (.k .z))) : Keep _ _).sat w) ?_
        refine St.xfl (fun _ h => h) (Rd.p rfl) rfl ?_
        refine St.xdone ?_
        refine St.blkN ?_
        refine St.thenN ?_
        refine St.prune (Γ' := [(1, _), (3, _), (4, _), (5, _)]) ⟨rfl, rfl, rfl, rfl, trivial⟩ (.k (.d (.k .z))) ?_
        refine St.region ?_
        iterate 3 refine St.p rfl rfl ?_
        refine St.done ?_
        injection h1 with h1
        subst h1
        refine St.thenN ?_
        exact St.again _ (A3, c3) hm1 trivial ⟨rfl, rfl, rfl, rfl, trivial⟩ (fun _ w => ((.k (.k .z)) : Keep _ _).sat w)
      · replace h1 := bif_f hb2 h1
        refine St.exit ?_
        repeat (first | refine St.thenX ?_ | refine St.blkMiss rfl ?_)
        refine St.blkHit ?_
        injection h1 with h1
        subst h1
        have ho := hd1 _ rfl
        subst ho
        refine St.thenN ?_
        exact St.hereE (A1, c1) ⟨rfl, trivial⟩ (fun _ w => ((.k (.d .z)) : Keep _ _).sat w)
    · rintro ⟨A2, c2⟩
      refine St.blkN ?_
      refine St.thenN ?_
      refine St.seq ?_
      refine St.region ?_
      refine St.p rfl rfl ?_
      refine St.p rfl rfl ?_
      refine St.done ?_
      refine St.thenN ?_
      refine St.prune (Γ' := [(2, _)]) ⟨rfl, trivial⟩ (.k .z) ?_
      refine St.ret ?_
      repeat (first | refine St.thenR ?_ | refine St.blkR ?_)
      injection h with h
      subst h
      exact St.finR Tryd.results93 (.tmp rfl .nil) rfl [.res (OwnL eu8 5 A2 c2 o1)] ⟨A2, c2, rfl, rfl⟩ (fun _ w => ((.k .z) : Keep _ _).sat w)
  · replace h := bif_f hb1 h
    refine St.seq ?_
    refine St.region ?_
    refine St.p rfl rfl ?_
    refine St.p rfl rfl ?_
    refine St.done ?_
    refine St.thenN ?_
    refine St.prune (Γ' := [(1, _), (3, _), (4, _), (53, _)]) ⟨rfl, rfl, rfl, rfl, trivial⟩ (.k .z) ?_
    refine St.cond _ rfl (fun hb3 => ?_) (fun hb3 => ?_)
    · replace h := bif_t hb3 h
      refine St.seq ?_
      refine St.region ?_
      refine St.p rfl rfl ?_
      obtain ⟨r3, hr3, h⟩ := bnd_e h
      refine St.callV (c_ref02_sixBytes hr3) ent101 rfl rfl rfl rfl trivial ?_
      obtain ⟨l2, hl2, h⟩ := bnd_e h
      refine St.mkL (E := eu8) 0 hl2 rfl rfl rfl rfl rfl rfl rfl rfl rfl rfl fun g3 => ?_
      refine St.p rfl rfl ?_
      refine St.done ?_
      refine St.thenN ?_
      refine St.prune (Γ' := [(1, _), (3, _), (4, _)]) ⟨rfl, rfl, rfl, trivial⟩ (.k (.k .z)) ?_
      refine St.seq ?_
      refine St.region ?_
      refine St.p rfl rfl ?_
      refine St.done ?_
      refine St.thenN ?_
      obtain ⟨o2, hl2, h⟩ := bnd_e h
      refine St.selfThen ?_
      refine St.cutE (fun (e4 : Option Addr × Nat) => [(4, .slice e4.1 o2.length e4.2)]) (fun e4 => .res (OwnL eu8 5 e4.1 e4.2 o2) :: R) ?_ ?_
      · refine St.block ?_
        refine St.loop hl2 (fun (s2 : Int × List Int) (e3 : Option Addr × Nat) => [(1, .pointer (some ⟨g1, 0, none⟩)), (3, .int .i64 (f_p0.Value.size : Int)), (4, .slice e3.1 s2.2.length e3.2), (6, .int .i64 s2.1)]) (fun s2 e3 => .res (OwnL eu8 5 e3.1 e3.2 s2.2) :: .res (Box g1 60 [.int .i64 f_p0.Kind, .string f_p0.Value]) :: R) (fun _ _ => True) ((some ⟨g3, 0, none⟩), (Int.toNat r3)) trivial ⟨rfl, rfl, rfl, rfl, trivial⟩ (fun _ w => ((.k (.k .z)) : Keep _ _).sat w) ?_
        rintro s2 ⟨A4, c4⟩ - hit2
        obtain ⟨st2, hm2, hd2⟩ := iter_e hit2
        have h2 := hm2
        refine St.seq ?_
        refine St.seq ?_
        refine St.region ?_
        iterate 3 refine St.p rfl rfl ?_
        refine St.done ?_
        refine St.thenN ?_
        refine St.prune (Γ' := [(1, _), (3, _), (4, _), (6, _), (60, _)]) ⟨rfl, rfl, rfl, rfl, rfl, trivial⟩ (.k (.k .z)) ?_
        refine St.cond _ rfl (fun hb4 => ?_) (fun hb4 => ?_)
        · replace h2 := bif_t hb4 h2
          refine St.skip ?_
          refine St.thenN ?_
          refine St.prune (Γ' := [(1, _), (3, _), (4, _), (6, _)]) ⟨rfl, rfl, rfl, rfl, trivial⟩ (.k (.k .z)) ?_
          refine St.seq ?_
          refine St.block ?_
          refine St.seq ?_
          refine St.region ?_
          refine St.p rfl rfl ?_
          refine St.loadB 1 rfl rfl (.tail _ (.head _)) rfl rfl ?_
          refine St.p rfl rfl ?_
          obtain ⟨y3, hy3, h2⟩ := bnd_e h2
          refine St.eltS rfl rfl rfl rfl rfl hy3 ?_
          iterate 3 refine St.p rfl rfl ?_
          refine St.done ?_
          refine St.thenN ?_
          refine St.prune (Γ' := [(1, _), (3, _), (4, _), (6, _), (7, _)]) ⟨rfl, rfl, rfl, rfl, rfl, trivial⟩ (.k (.k .z)) ?_
          refine St.seq ?_
          refine St.region ?_
          refine St.p rfl rfl ?_
          refine St.done ?_
          refine St.thenN ?_
          obtain ⟨o3, hl3, h2⟩ := bnd_e h2
          refine St.selfThen ?_
          refine St.cutE (fun (e6 : Option Addr × Nat) => [(1, .pointer (some ⟨g1, 0, none⟩)), (3, .int .i64 (f_p0.Value.size : Int)), (4, .slice e6.1 o3.length e6.2), (6, .int .i64 s2.1)]) (fun e6 => .res (OwnL eu8 5 e6.1 e6.2 o3) :: .res (Box g1 60 [.int .i64 f_p0.Kind, .string f_p0.Value]) :: R) ?_ ?_
          · refine St.block ?_
            refine St.loop hl3 (fun (s3 : Int × Int × List Int) (e5 : Option Addr × Nat) => [(1, .pointer (some ⟨g1, 0, none⟩)), (3, .int .i64 (f_p0.Value.size : Int)), (4, .slice e5.1 s3.2.2.length e5.2), (6, .int .i64 s2.1), (7, .int .i64 s3.1), (8, .int .i64 s3.2.1)]) (fun s3 e5 => .res (OwnL eu8 5 e5.1 e5.2 s3.2.2) :: .res (Box g1 60 [.int .i64 f_p0.Kind, .string f_p0.Value]) :: R) (fun _ _ => True) (A4, c4) trivial ⟨rfl, rfl, rfl, rfl, rfl, rfl, trivial⟩ (fun _ w => ((.k (.k .z)) : Keep _ _).sat w) ?_
            rintro s3 ⟨A6, c6⟩ - hit3
            obtain ⟨st3, hm3, hd3⟩ := iter_e hit3
            have h3 := hm3
            refine St.seq ?_
            refine St.seq ?_
            refine St.region ?_
            refine St.p rfl rfl ?_
            refine St.p rfl rfl ?_
            refine St.done ?_
            refine St.thenN ?_
            refine St.prune (Γ' := [(1, _), (3, _), (4, _), (6, _), (7, _), (8, _), (70, _)]) ⟨rfl, rfl, rfl, rfl, rfl, rfl, rfl, trivial⟩ (.k (.k .z)) ?_
            refine St.cond _ rfl (fun hb5 => ?_) (fun hb5 => ?_)
            · replace h3 := bif_t hb5 h3
              refine St.skip ?_
              refine St.thenN ?_
              refine St.prune (Γ' := [(1, _), (3, _), (4, _), (6, _), (7, _), (8, _)]) ⟨rfl, rfl, rfl, rfl, rfl, rfl, trivial⟩ (.k (.k .z)) ?_
              refine St.seq ?_
              refine St.block ?_
              refine St.seq ?_
              refine St.seq ?_
              refine St.region ?_
              iterate 3 refine St.p rfl rfl ?_
              refine St.done ?_
              refine St.thenN ?_
              refine St.prune (Γ' := [(1, _), (3, _), (4, _), (6, _), (7, _), (8, _), (75, _)]) ⟨rfl, rfl, rfl, rfl, rfl, rfl, rfl, trivial⟩ (.k (.k .z)) ?_
              refine St.cond _ rfl (fun hb6 => ?_) (fun hb6 => ?_)
              · replace h3 := bif_t hb6 h3
                refine St.seq ?_
                refine St.region ?_
                iterate 5 refine St.p rfl rfl ?_
                refine St.done ?_
                refine St.thenN ?_
                refine St.prune (Γ' := [(1, _), (3, _), (4, _), (6, _), (7, _), (8, _), (9, _)]) ⟨rfl, rfl, rfl, rfl, rfl, rfl, rfl, trivial⟩ (.k (.k .z)) ?_
                refine St.region ?_
                iterate 3 refine St.p rfl rfl ?_
                obtain ⟨x1, hx1, h3⟩ := bnd_e h3
                refine St.ixO hx1 rfl rfl rfl (.head _) rfl rfl rfl rfl rfl fun g4 hA => ?_
                subst hA
                refine St.ldO 0 hx1 rfl rfl (.head _) rfl rfl ?_
                iterate 3 refine St.p rfl rfl ?_
                obtain ⟨q1, hq1, h3⟩ := bnd_e h3
                refine St.shl rfl rfl rfl hq1 ?_
                refine St.p rfl rfl ?_
                refine St.ixO hx1 rfl rfl rfl (.head _) rfl rfl rfl rfl rfl fun g5 hA => ?_
                cases hA
                obtain ⟨l3, hl3, h3⟩ := bnd_e h3
                refine St.stO 0 hx1 hl3 rfl rfl .z rfl rfl rfl rfl rfl ?_
                refine St.slots (Γ' := [(1, _), (3, _), (4, .slice (some ⟨g4, 0, none⟩) l3.length c6), (6, _), (7, _), (8, _), (9, _), (80, .slice (some ⟨g4, 0, none⟩) l3.length c6), (81, _), (82, _), (83, _), (84, _), (85, _), (86, _), (87, _), (88, _), (89, _), (90, _)]) ⟨rfl, rfl, sl_len hl3, rfl, rfl, rfl, rfl, sl_len hl3, rfl, rfl, rfl, rfl, rfl, rfl, rfl, rfl, rfl, rfl, trivial⟩ ?_
                refine St.done ?_
                refine St.thenN ?_
                refine St.prune (Γ' := [(1, _), (3, _), (4, _), (6, _), (7, _), (8, _)]) ⟨rfl, rfl, rfl, rfl, rfl, rfl, trivial⟩ (.k (.k .z)) ?_
                refine St.region ?_
                iterate 3 refine St.p rfl rfl ?_
                refine St.done ?_
                refine St.blkN ?_
                refine St.thenN ?_
                refine St.prune (Γ' := [(1, _), (3, _), (4, _), (6, _), (7, _), (8, _)]) ⟨rfl, rfl, rfl, rfl, rfl, rfl, trivial⟩ (.k (.k .z)) ?_
                refine St.region ?_
                iterate 3 refine St.p rfl rfl ?_
                refine St.done ?_
                injection h3 with h3
                subst h3
                refine St.thenN ?_
                exact St.again _ ((some ⟨g4, 0, none⟩), c6) hm3 trivial ⟨rfl, rfl, rfl, rfl, rfl, rfl, trivial⟩ (fun _ w => ((.k (.k .z)) : Keep _ _).sat w)
              · replace h3 := bif_f hb6 h3
                refine St.skip ?_
                refine St.thenN ?_
                refine St.prune (Γ' := [(1, _), (3, _), (4, _), (6, _), (7, _), (8, _)]) ⟨rfl, rfl, rfl, rfl, rfl, rfl, trivial⟩ (.k (.k .z)) ?_
                refine St.region ?_
                iterate 3 refine St.p rfl rfl ?_
                refine St.done ?_
                refine St.blkN ?_
                refine St.thenN ?_
                refine St.prune (Γ' := [(1, _), (3, _), (4, _), (6, _), (7, _), (8, _)]) ⟨rfl, rfl, rfl, rfl, rfl, rfl, trivial⟩ (.k (.k .z)) ?_
                refine St.region ?_
                iterate 3 refine St.p rfl rfl ?_
                refine St.done ?_
                injection h3 with h3
                subst h3
                refine St.thenN ?_
                exact St.again _ (A6, c6) hm3 trivial ⟨rfl, rfl, rfl, rfl, rfl, rfl, trivial⟩ (fun _ w => ((.k (.k .z)) : Keep _ _).sat w)
            · replace h3 := bif_f hb5 h3
              refine St.exit ?_
              repeat (first | refine St.thenX ?_ | refine St.blkMiss rfl ?_)
              refine St.blkHit ?_
              injection h3 with h3
              subst h3
              have ho := hd3 _ rfl
              subst ho
              refine St.thenN ?_
              exact St.hereE (A6, c6) ⟨rfl, rfl, rfl, rfl, trivial⟩ (fun _ w => ((.k (.k .z)) : Keep _ _).sat w)
          · rintro ⟨A7, c7⟩
            refine St.blkN ?_
            refine St.thenN ?_
            refine St.region ?_
            iterate 3 refine St.p rfl rfl ?_
            refine St.done ?_
            injection h2 with h2
            subst h2
            refine St.thenN ?_
            exact St.again _ (A7, c7) hm2 trivial ⟨rfl, rfl, rfl, rfl, trivial⟩ (fun _ w => ((.k (.k .z)) : Keep _ _).sat w)
        · replace h2 := bif_f hb4 h2
          refine St.exit ?_
          repeat (first | refine St.thenX ?_ | refine St.blkMiss rfl ?_)
          refine St.blkHit ?_
          injection h2 with h2
          subst h2
          have ho := hd2 _ rfl
          subst ho
          refine St.thenN ?_
          exact St.hereE (A4, c4) ⟨rfl, trivial⟩ (fun _ w => ((.k (.d .z)) : Keep _ _).sat w)
      · rintro ⟨A5, c5⟩
        refine St.blkN ?_
        refine St.thenN ?_
        refine St.seq ?_
        refine St.region ?_
        refine St.p rfl rfl ?_
        refine St.p rfl rfl ?_
        refine St.done ?_
        refine St.thenN ?_
        refine St.prune (Γ' := [(2, _)]) ⟨rfl, trivial⟩ (.k .z) ?_
        refine St.ret ?_
        repeat (first | refine St.thenR ?_ | refine St.blkR ?_)
        injection h with h
        subst h
        exact St.finR Tryd.results93 (.tmp rfl .nil) rfl [.res (OwnL eu8 5 A5 c5 o2)] ⟨A5, c5, rfl, rfl⟩ (fun _ w => ((.k .z) : Keep _ _).sat w)
    · replace h := bif_f hb3 h
      refine St.seq ?_
      refine St.region ?_
      refine St.p rfl rfl ?_
      refine St.done ?_
      refine St.thenN ?_
      refine St.prune (Γ' := [(1, _), (3, _), (4, _), (10, _)]) ⟨rfl, rfl, rfl, rfl, trivial⟩ (.k .z) ?_
      refine St.asrt (fun _ w => w.nilL eu8 5) ?_
      obtain ⟨o4, hl4, h⟩ := bnd_e h
      refine St.selfThen ?_
      refine St.cutE (fun (e8 : Option Addr × Nat) => [(4, .slice e8.1 o4.length e8.2)]) (fun e8 => .res (OwnL eu8 5 e8.1 e8.2 o4) :: R) ?_ ?_
      · refine St.block ?_
        refine St.loop hl4 (fun (s4 : List Int × Int) (e7 : Option Addr × Nat) => [(1, .pointer (some ⟨g1, 0, none⟩)), (3, .int .i64 (f_p0.Value.size : Int)), (4, .slice e7.1 s4.1.length e7.2), (10, .int .i64 s4.2)]) (fun s4 e7 => .res (OwnL eu8 5 e7.1 e7.2 s4.1) :: .res (Box g1 60 [.int .i64 f_p0.Kind, .string f_p0.Value]) :: R) (fun _ _ => True) (none, 0) trivial ⟨rfl, rfl, rfl, rfl, trivial⟩ (fun _ w => ((.k (.k .z)) : Keep _ _).sat w) ?_
        rintro s4 ⟨A8, c8⟩ - hit4
        obtain ⟨st4, hm4, hd4⟩ := iter_e hit4
        have h4 := hm4
        refine St.seq ?_
        refine St.seq ?_
        refine St.region ?_
        iterate 3 refine St.p rfl rfl ?_
        refine St.done ?_
        refine St.thenN ?_
        refine St.prune (Γ' := [(1, _), (3, _), (4, _), (10, _), (18, _)]) ⟨rfl, rfl, rfl, rfl, rfl, trivial⟩ (.k (.k .z)) ?_
        refine St.cond _ rfl (fun hb7 => ?_) (fun hb7 => ?_)
        · replace h4 := bif_t hb7 h4
          refine St.skip ?_
          refine St.thenN ?_
          refine St.prune (Γ' := [(1, _), (3, _), (4, _), (10, _)]) ⟨rfl, rfl, rfl, rfl, trivial⟩ (.k (.k .z)) ?_
          refine St.seq ?_
          refine St.block ?_
          refine St.region ?_
          refine St.p rfl rfl ?_
          refine St.p rfl rfl ?_
          refine St.loadB 1 rfl rfl (.tail _ (.head _)) rfl rfl ?_
          refine St.p rfl rfl ?_
          obtain ⟨y4, hy4, h4⟩ := bnd_e h4
          refine St.eltS rfl rfl rfl rfl rfl hy4 ?_
          refine St.buildSlice rfl rfl rfl rfl rfl rfl rfl rfl fun g6 => ?_
          obtain ⟨l4, hl4, h4⟩ := bnd_e h4
          refine St.app (E := eu8) hl4 rfl rfl rfl (.s .z) rfl rfl rfl rfl rfl rfl rfl rfl (srcB (.head _) rfl rfl) rfl rfl fun A10 c10 => ?_
          refine St.p rfl rfl ?_
          refine St.done ?_
          refine St.blkN ?_
          refine St.thenN ?_
          refine St.prune (Γ' := [(1, _), (3, _), (4, _), (10, _)]) ⟨rfl, rfl, rfl, rfl, trivial⟩ (.k (.d (.k .z))) ?_
          refine St.region ?_
          iterate 3 refine St.p rfl rfl ?_
          refine St.done ?_
          injection h4 with h4
          subst h4
          refine St.thenN ?_
          exact St.again _ (A10, c10) hm4 trivial ⟨rfl, rfl, rfl, rfl, trivial⟩ (fun _ w => ((.k (.k .z)) : Keep _ _).sat w)
        · replace h4 := bif_f hb7 h4
          refine St.exit ?_
          repeat (first | refine St.thenX ?_ | refine St.blkMiss rfl ?_)
          refine St.blkHit ?_
          injection h4 with h4
          subst h4
          have ho := hd4 _ rfl
          subst ho
          refine St.thenN ?_
          exact St.hereE (A8, c8) ⟨rfl, trivial⟩ (fun _ w => ((.k (.d .z)) : Keep _ _).sat w)
      · rintro ⟨A9, c9⟩
        refine St.blkN ?_
        refine St.thenN ?_
        refine St.seq ?_
        refine St.region ?_
        refine St.p rfl rfl ?_
        refine St.p rfl rfl ?_
        refine St.done ?_
        refine St.thenN ?_
        refine St.prune (Γ' := [(2, _)]) ⟨rfl, trivial⟩ (.k .z) ?_
        refine St.ret ?_
        repeat (first | refine St.thenR ?_ | refine St.blkR ?_)
        injection h with h
        subst h
        exact St.finR Tryd.results93 (.tmp rfl .nil) rfl [.res (OwnL eu8 5 A9 c9 o4)] ⟨A9, c9, rfl, rfl⟩ (fun _ w => ((.k .z) : Keep _ _).sat w)

theorem ent81 : Ent Tryd.prog 81 := ⟨_, Tryd.func81, by kernel_rfl, by kernel_rfl⟩

noncomputable def m_ref02_Encode (f_p0 : T_Field) : Option ((List Int) × Int) :=
  bnd (m_ref02_Valid f_p0) fun r1 => bif !r1 then (some ([], 1)) else (bnd (m_ref02_data f_p0) fun r2 => bnd (app 1 ([IntKind.wrap .u8 (IntKind.wrap .i64 ((IntKind.wrap .i64 (64 * f_p0.Kind)) + (r2.length : Int)))]) r2) fun l1 => some (l1, 0))

theorem c_ref02_Encode {f_p0 : T_Field} {r : ((List Int) × Int)} (h : m_ref02_Encode f_p0 = some r) :
    Fun Tryd.prog 81 [.agg #[.int .i64 f_p0.Kind, .string f_p0.Value]] [] (fun v_ F_ => ∃ (A1 : Option Addr) (c1 : Nat), v_ = .tuple #[.slice A1 r.1.length c1, .int .i64 r.2] ∧ F_ = [.res (OwnL eu8 5 A1 c1 r.1)]) := by
  unfold m_ref02_Encode at h
  refine Fun.intro Tryd.func81 rfl rfl rfl fun w R => ?_
  refine St.seq ?_
  refine St.region ?_
  refine St.box rfl rfl fun g1 => ?_
  refine St.p rfl rfl ?_
  refine St.p rfl rfl ?_
  refine St.done ?_
  refine St.thenN ?_
  refine St.prune (Γ' := [(1, _)]) ⟨rfl, trivial⟩ (.k .z) ?_
  refine St.seq ?_
  refine St.seq ?_
  refine St.region ?_
  refine St.loadB 0 rfl rfl (.head _) rfl rfl ?_
  obtain ⟨r1, hr1, h⟩ := bnd_e h
  refine St.callV (c_ref02_Valid hr1) ent92 rfl rfl rfl rfl trivial ?_
  refine St.p rfl rfl ?_
  refine St.done ?_
  refine St.thenN ?_
  refine St.prune (Γ' := [(1, _), (7, _)]) ⟨rfl, rfl, trivial⟩ (.k .z) ?_
  refine St.cond _ rfl (fun hb1 => ?_) (fun hb1 => ?_)
  · replace h := bif_t hb1 h
    refine St.seq ?_
    refine St.region ?_
    refine St.p rfl rfl ?_
    refine St.p rfl rfl ?_
    refine St.done ?_
    refine St.thenN ?_
    refine St.prune (Γ' := [(2, _), (3, _)]) ⟨rfl, rfl, trivial⟩ (.d .z) ?_
    refine St.ret ?_
    repeat (first | refine St.thenR ?_ | refine St.blkR ?_)
    refine St.asrt (fun _ w => w.nilL eu8 5) ?_
    injection h with h
    subst h
    exact St.finR Tryd.results81 (.tmp rfl (.tmp rfl .nil)) rfl [.res (OwnL eu8 5 none 0 ([] : List Int))] ⟨none, 0, rfl, rfl⟩ (fun _ w => ((.k .z) : Keep _ _).sat w)
  · replace h := bif_f hb1 h
    refine St.skip ?_
    refine St.thenN ?_
    refine St.prune (Γ' := [(1, _)]) ⟨rfl, trivial⟩ (.k .z) ?_
    refine St.seq ?_
    refine St.region ?_
    refine St.loadB 0 rfl rfl (.head _) rfl rfl ?_
    obtain ⟨r2, hr2, h⟩ := bnd_e h
    refine St.call (c_ref02_data hr2) ent93 rfl rfl rfl (fun _ w => w) ?_
    rintro _ _ ⟨A1, c1, rfl, rfl⟩
    refine St.asrt (F' := .res (OwnL eu8 5 A1 c1 r2) :: .res (Box g1 60 [.int .i64 f_p0.Kind, .string f_p0.Value]) :: R) (fun _ w => w) ?_
    refine St.p rfl rfl ?_
    refine St.done ?_
    refine St.thenN ?_
    refine St.prune (Γ' := [(1, _), (4, _)]) ⟨rfl, rfl, trivial⟩ (.k (.k .z)) ?_
    refine St.seq ?_
    refine St.region ?_
    refine St.p rfl rfl ?_
    refine St.loadB 0 rfl rfl (.tail _ (.head _)) rfl rfl ?_
    iterate 5 refine St.p rfl rfl ?_
    refine St.buildSlice rfl rfl rfl rfl rfl rfl rfl rfl fun g2 => ?_
    refine St.p rfl rfl ?_
    refine St.asrt (fun _ w => (w.front (.s .z)).meltL) ?_
    refine St.asrt (fun _ w => (w.front (.s .z)).litL (E := eu8) (e := 5) [IntKind.wrap .u8 (IntKind.wrap .i64 ((IntKind.wrap .i64 (64 * f_p0.Kind)) + (r2.length : Int)))] rfl rfl) ?_
    obtain ⟨l1, hl1, h⟩ := bnd_e h
    refine St.app (E := eu8) hl1 rfl rfl rfl .z rfl rfl rfl rfl rfl rfl rfl rfl (srcL (.tail _ (.head _))) rfl rfl fun A2 c2 => ?_
    refine St.p rfl rfl ?_
    refine St.p rfl rfl ?_
    refine St.done ?_
    refine St.thenN ?_
    refine St.prune (Γ' := [(2, _), (3, _)]) ⟨rfl, rfl, trivial⟩ (.k (.d (.d .z))) ?_
    refine St.ret ?_
    repeat (first | refine St.thenR ?_ | refine St.blkR ?_)
    injection h with h
    subst h
    exact St.finR Tryd.results81 (.tmp rfl (.tmp rfl .nil)) rfl [.res (OwnL eu8 5 A2 c2 l1)] ⟨A2, c2, rfl, rfl⟩ (fun _ w => ((.k .z) : Keep _ _).sat w)

theorem ent69 : Ent Tryd.prog 69 := ⟨_, Tryd.func69, by kernel_rfl, by kernel_rfl⟩

noncomputable def m_ref02_EncodeList (l_p0 : (List T_Field)) : Option ((List Int) × Int) :=
  bif decide ((l_p0.length : Int) > 16) then (some ([], 3)) else (bnd (loopM (τ := ((List Int) × Int) ⊕ List Int) (fun (s1 : List Int × Int) => bif decide (s1.2 < (l_p0.length : Int)) then (bnd (elt l_p0 s1.2) fun x1 => bnd (m_ref02_Encode x1) fun r1 => bif (r1.2 != 0) then (some (.done (.inl ([], r1.2)))) else (bnd (app 1 s1.1 r1.1) fun l1 => some (.next (l1, IntKind.wrap .i64 (s1.2 + 1))))) else (some (.done (.inr s1.1)))) ([], 0)) fun o1 => retOr o1 fun o2 => bnd (app 1 o2 [193]) fun l2 => some (l2, 0))

theorem c_ref02_EncodeList {l_p0 : (List T_Field)} {A1 : Option Addr} {c1 : Nat} {r : ((List Int) × Int)} (h : m_ref02_EncodeList l_p0 = some r) :
    Fun Tryd.prog 69 [.slice A1 l_p0.length c1] [.ro (SlL e_Field A1 c1 l_p0)] (fun v_ F_ => ∃ (A1 : Option Addr) (c1 : Nat), v_ = .tuple #[.slice A1 r.1.length c1, .int .i64 r.2] ∧ F_ = [.res (OwnL eu8 5 A1 c1 r.1)]) := by
  unfold m_ref02_EncodeList at h
  refine Fun.intro Tryd.func69 rfl rfl rfl fun w R => ?_
  refine St.seq ?_
  refine St.region ?_
  refine St.p rfl rfl ?_
  refine St.p rfl rfl ?_
  refine St.done ?_
  refine St.thenN ?_
  refine St.prune (Γ' := [(0, _)]) ⟨rfl, trivial⟩ (.k .z) ?_
  refine St.seq ?_
  refine St.seq ?_
  refine St.region ?_
  iterate 3 refine St.p rfl rfl ?_
  refine St.done ?_
  refine St.thenN ?_
  refine St.prune (Γ' := [(0, _), (10, _)]) ⟨rfl, rfl, trivial⟩ (.k .z) ?_
  refine St.cond _ rfl (fun hb1 => ?_) (fun hb1 => ?_)
  · replace h := bif_t hb1 h
    refine St.seq ?_
    refine St.region ?_
    refine St.p rfl rfl ?_
    refine St.p rfl rfl ?_
    refine St.done ?_
    refine St.thenN ?_
    refine St.prune (Γ' := [(2, _), (3, _)]) ⟨rfl, rfl, trivial⟩ (.d .z) ?_
    refine St.ret ?_
    repeat (first | refine St.thenR ?_ | refine St.blkR ?_)
    refine St.asrt (fun _ w => w.nilL eu8 5) ?_
    injection h with h
    subst h
    exact St.finR Tryd.results69 (.tmp rfl (.tmp rfl .nil)) rfl [.res (OwnL eu8 5 none 0 ([] : List Int))] ⟨none, 0, rfl, rfl⟩ (fun _ w => ((.k .z) : Keep _ _).sat w)
  · replace h := bif_f hb1 h
    refine St.skip ?_
    refine St.thenN ?_
    refine St.prune (Γ' := [(0, _)]) ⟨rfl, trivial⟩ (.k .z) ?_
    refine St.seq ?_
    refine St.region ?_
    refine St.p rfl rfl ?_
    refine St.done ?_
    refine St.thenN ?_
    refine St.seq ?_
    refine St.seq ?_
    refine St.region ?_
    refine St.p rfl rfl ?_
    refine St.done ?_
    refine St.thenN ?_
    refine St.asrt (fun _ w => w.nilL eu8 5) ?_
    obtain ⟨o1, hl1, h⟩ := bnd_e h
    refine St.cutI (fun (o2 : List Int) (e2 : Option Addr × Nat) => [(4, .slice e2.1 o2.length e2.2)]) (fun o2 e2 => .res (OwnL eu8 5 e2.1 e2.2 o2) :: R) (fun o2 => o1 = .inr o2) ?_ ?_
    · refine St.block ?_
      refine St.loop hl1 (fun (s1 : List Int × Int) (e1 : Option Addr × Nat) => [(0, .slice A1 l_p0.length c1), (4, .slice e1.1 s1.1.length e1.2), (5, .int .i64 s1.2)]) (fun s1 e1 => .res (OwnL eu8 5 e1.1 e1.2 s1.1) :: .ro (SlL e_Field A1 c1 l_p0) :: R) (fun _ _ => True) (none, 0) trivial ⟨rfl, rfl, rfl, trivial⟩ (fun _ w => ((.k (.k .z)) : Keep _ _).sat w) ?_
      rintro s1 ⟨A2, c2⟩ - hit1
      obtain ⟨st1, hm1, hd1⟩ := iter_e hit1
      have h1 := hm1
      refine St.seq ?_
      refine St.seq ?_
      refine St.region ?_
      iterate 4 refine St.p rfl rfl ?_
      refine St.done ?_
      refine St.thenN ?_
      refine St.prune (Γ' := [(0, _), (4, _), (5, _), (14, _)]) ⟨rfl, rfl, rfl, rfl, trivial⟩ (.k (.k .z)) ?_
      refine St.cond _ rfl (fun hb2 => ?_) (fun hb2 => ?_)
      · replace h1 := bif_t hb2 h1
        refine St.skip ?_
        refine St.thenN ?_
        refine St.prune (Γ' := [(0, _), (4, _), (5, _)]) ⟨rfl, rfl, rfl, trivial⟩ (.k (.k .z)) ?_
        refine St.seq ?_
        refine St.block ?_
        refine St.seq ?_
        refine St.region ?_
        refine St.p rfl rfl ?_
        refine St.p rfl rfl ?_
        obtain ⟨x1, hx1, h1⟩ := bnd_e h1
        refine St.ixL hx1 rfl rfl rfl (.tail _ (.head _)) rfl rfl rfl rfl rfl fun b1 ob1 => ?_
        refine St.load ob1 0 rfl rfl (.head _) rfl rfl ?_
        obtain ⟨r1, hr1, h1⟩ := bnd_e h1
        refine St.call (c_ref02_Encode hr1) ent81 rfl rfl rfl (fun _ w => w) ?_
        rintro _ _ ⟨A4, c4, rfl, rfl⟩
        refine St.asrt (F' := .res (OwnL eu8 5 A4 c4 r1.1) :: .ro (Cells b1 ob1 [.int .i64 x1.Kind, .string x1.Value]) :: .res (OwnL eu8 5 A2 c2 s1.1) :: .ro (SlL e_Field A1 c1 l_p0) :: R) (fun _ w => w) ?_
        iterate 5 refine St.p rfl rfl ?_
        refine St.done ?_
        refine St.thenN ?_
        refine St.prune (Γ' := [(0, _), (4, _), (5, _), (6, _), (7, _)]) ⟨rfl, rfl, rfl, rfl, rfl, trivial⟩ (.k (.d (.k (.k .z)))) ?_
        refine St.seq ?_
        refine St.seq ?_
        refine St.region ?_
        refine St.p rfl rfl ?_
        refine St.p rfl rfl ?_
        refine St.done ?_
        refine St.thenN ?_
        refine St.prune (Γ' := [(0, _), (4, _), (5, _), (6, _), (7, _), (26, _)]) ⟨rfl, rfl, rfl, rfl, rfl, rfl, trivial⟩ (.k (.k (.k .z))) ?_
        refine St.cond _ rfl (fun hb3 => ?_) (fun hb3 => ?_)
        · replace h1 := bif_t hb3 h1
          refine St.seq ?_
          refine St.region ?_
          iterate 3 refine St.p rfl rfl ?_
          refine St.done ?_
          refine St.thenN ?_
          refine St.prune (Γ' := [(2, _), (3, _)]) ⟨rfl, rfl, trivial⟩ (.d (.d (.d .z))) ?_
          refine St.ret ?_
          repeat (first | refine St.thenR ?_ | refine St.blkR ?_)
          refine St.asrt (fun _ w => w.nilL eu8 5) ?_
          injection h1 with h1
          subst h1
          have ho := hd1 _ rfl
          subst ho
          have h : some _ = some _ := h
          injection h with h
          subst h
          exact St.finR Tryd.results69 (.tmp rfl (.tmp rfl .nil)) rfl [.res (OwnL eu8 5 none 0 ([] : List Int))] ⟨none, 0, rfl, rfl⟩ (fun _ w => ((.k .z) : Keep _ _).sat w)
        · replace h1 := bif_f hb3 h1
          refine St.skip ?_
          refine St.thenN ?_
          refine St.prune (Γ' := [(0, _), (4, _), (5, _), (6, _)]) ⟨rfl, rfl, rfl, rfl, trivial⟩ (.k (.k (.k .z))) ?_
          refine St.region ?_
          refine St.p rfl rfl ?_
          refine St.p rfl rfl ?_
          refine St.asrt (fun _ w => (w.front .z).meltL) ?_
          obtain ⟨l1, hl1, h1⟩ := bnd_e h1
          refine St.app (E := eu8) hl1 rfl rfl rfl (.s .z) rfl rfl rfl rfl rfl rfl rfl rfl (srcL (.head _)) rfl rfl fun A5 c5 => ?_
          refine St.p rfl rfl ?_
          refine St.done ?_
          refine St.blkN ?_
          refine St.thenN ?_
          refine St.prune (Γ' := [(0, _), (4, _), (5, _)]) ⟨rfl, rfl, rfl, trivial⟩ (.k (.d (.k .z))) ?_
          refine St.region ?_
          iterate 3 refine St.p rfl rfl ?_
          refine St.done ?_
          injection h1 with h1
          subst h1
          refine St.thenN ?_
          exact St.again _ (A5, c5) hm1 trivial ⟨rfl, rfl, rfl, trivial⟩ (fun _ w => ((.k (.k .z)) : Keep _ _).sat w)
      · replace h1 := bif_f hb2 h1
        refine St.exit ?_
        repeat (first | refine St.thenX ?_ | refine St.blkMiss rfl ?_)
        refine St.blkHit ?_
        injection h1 with h1
        subst h1
        have ho := hd1 _ rfl
        subst ho
        refine St.thenN ?_
        exact St.hereI s1.1 (A2, c2) rfl ⟨rfl, trivial⟩ (fun _ w => ((.k (.d .z)) : Keep _ _).sat w)
    · rintro o2 ⟨A3, c3⟩ ho
      subst ho
      have h : _ = some _ := h
      refine St.seq ?_
      refine St.region ?_
      refine St.p rfl rfl ?_
      refine St.buildSlice rfl rfl rfl rfl rfl rfl rfl rfl fun g1 => ?_
      obtain ⟨l2, hl2, h⟩ := bnd_e h
      refine St.app (E := eu8) hl2 rfl rfl rfl (.s .z) rfl rfl rfl rfl rfl rfl rfl rfl (srcB (.head _) rfl rfl) rfl rfl fun A6 c6 => ?_
      refine St.p rfl rfl ?_
      refine St.p rfl rfl ?_
      refine St.done ?_
      refine St.thenN ?_
      refine St.prune (Γ' := [(2, _), (3, _)]) ⟨rfl, rfl, trivial⟩ (.k (.d .z)) ?_
      refine St.ret ?_
      repeat (first | refine St.thenR ?_ | refine St.blkR ?_)
      injection h with h
      subst h
      exact St.finR Tryd.results69 (.tmp rfl (.tmp rfl .nil)) rfl [.res (OwnL eu8 5 A6 c6 l2)] ⟨A6, c6, rfl, rfl⟩ (fun _ w => ((.k .z) : Keep _ _).sat w)

theorem ent70 : Ent Tryd.prog 70 := ⟨_, Tryd.func70, by kernel_rfl, by kernel_rfl⟩

noncomputable def m_ref01_Little (v_p0 : Int) (n_p1 : Int) : Option (List Int) :=
  bnd (loopM (τ := List Int) (fun (s1 : Int × List Int × Int) => bif decide (s1.2.2 < n_p1) then (bnd (app 1 s1.2.1 [IntKind.wrap .u8 (s1.1.tmod 256)]) fun l1 => some (.next (IntKind.wrap .u64 (s1.1.tdiv 256), l1, IntKind.wrap .i64 (s1.2.2 + 1)))) else (some (.done s1.2.1))) (v_p0, [], 0)) fun o1 => some o1

theorem c_ref01_Little {v_p0 : Int} {n_p1 : Int} {r : (List Int)} (h : m_ref01_Little v_p0 n_p1 = some r) :
    Fun Tryd.prog 70 [.int .u64 v_p0, .int .i64 n_p1] [] (fun v_ F_ => ∃ (A1 : Option Addr) (c1 : Nat), v_ = .slice A1 r.length c1 ∧ F_ = [.res (OwnL eu8 5 A1 c1 r)]) := by
  unfold m_ref01_Little at h
  refine Fun.intro Tryd.func70 rfl rfl rfl fun w R => ?_
  refine St.seq ?_
  refine St.region ?_
  refine St.p rfl rfl ?_
  refine St.done ?_
  refine St.thenN ?_
  refine St.prune (Γ' := [(0, _), (1, _)]) ⟨rfl, rfl, trivial⟩ .z ?_
  refine St.seq ?_
  refine St.region ?_
  refine St.p rfl rfl ?_
  refine St.done ?_
  refine St.thenN ?_
  refine St.seq ?_
  refine St.seq ?_
  refine St.region ?_
  refine St.p rfl rfl ?_
  refine St.done ?_
  refine St.thenN ?_
  refine St.asrt (fun _ w => w.nilL eu8 5) ?_
  obtain ⟨o1, hl1, h⟩ := bnd_e h
  refine St.cutE (fun (e2 : Option Addr × Nat) => [(5, .slice e2.1 o1.length e2.2)]) (fun e2 => .res (OwnL eu8 5 e2.1 e2.2 o1) :: R) ?_ ?_
  · refine St.block ?_
    refine St.loop hl1 (fun (s1 : Int × List Int × Int) (e1 : Option Addr × Nat) => [(0, .int .u64 s1.1), (1, .int .i64 n_p1), (5, .slice e1.1 s1.2.1.length e1.2), (6, .int .i64 s1.2.2)]) (fun s1 e1 => .res (OwnL eu8 5 e1.1 e1.2 s1.2.1) :: R) (fun _ _ => True) (none, 0) trivial ⟨rfl, rfl, rfl, rfl, trivial⟩ (fun _ w => ((.k .z) : Keep _ _).sat w) ?_
    rintro s1 ⟨A1, c1⟩ - hit1
    obtain ⟨st1, hm1, hd1⟩ := iter_e hit1
    have h1 := hm1
    refine St.seq ?_
    refine St.seq ?_
    refine St.region ?_
    iterate 3 refine St.p rfl rfl ?_
    refine St.done ?_
    refine St.thenN ?_
    refine St.prune (Γ' := [(0, _), (1, _), (5, _), (6, _), (9, _)]) ⟨rfl, rfl, rfl, rfl, rfl, trivial⟩ (.k .z) ?_
    refine St.cond _ rfl (fun hb1 => ?_) (fun hb1 => ?_)
    · replace h1 := bif_t hb1 h1
      refine St.skip ?_
      refine St.thenN ?_
      refine St.prune (Γ' := [(0, _), (1, _), (5, _), (6, _)]) ⟨rfl, rfl, rfl, rfl, trivial⟩ (.k .z) ?_
      refine St.seq ?_
      refine St.block ?_
      refine St.seq ?_
      refine St.region ?_
      iterate 4 refine St.p rfl rfl ?_
      refine St.buildSlice rfl rfl rfl rfl rfl rfl rfl rfl fun g1 => ?_
      obtain ⟨l1, hl1, h1⟩ := bnd_e h1
      refine St.app (E := eu8) hl1 rfl rfl rfl (.s .z) rfl rfl rfl rfl rfl rfl rfl rfl (srcB (.head _) rfl rfl) rfl rfl fun A3 c3 => ?_
      refine St.p rfl rfl ?_
      refine St.done ?_
      refine St.thenN ?_
      refine St.prune (Γ' := [(0, _), (1, _), (5, _), (6, _)]) ⟨rfl, rfl, rfl, rfl, trivial⟩ (.k (.d .z)) ?_
      refine St.region ?_
      iterate 3 refine St.p rfl rfl ?_
      refine St.done ?_
      refine St.blkN ?_
      refine St.thenN ?_
      refine St.prune (Γ' := [(0, _), (1, _), (5, _), (6, _)]) ⟨rfl, rfl, rfl, rfl, trivial⟩ (.k .z) ?_
      refine St.region ?_
      iterate 3 refine St.p rfl rfl ?_
      refine St.done ?_
      injection h1 with h1
      subst h1
      refine St.thenN ?_
      exact St.again _ (A3, c3) hm1 trivial ⟨rfl, rfl, rfl, rfl, trivial⟩ (fun _ w => ((.k .z) : Keep _ _).sat w)
    · replace h1 := bif_f hb1 h1
      refine St.exit ?_
      repeat (first | refine St.thenX ?_ | refine St.blkMiss rfl ?_)
      refine St.blkHit ?_
      injection h1 with h1
      subst h1
      have ho := hd1 _ rfl
      subst ho
      refine St.thenN ?_
      exact St.hereE (A1, c1) ⟨rfl, trivial⟩ (fun _ w => ((.k .z) : Keep _ _).sat w)
  · rintro ⟨A2, c2⟩
    refine St.seq ?_
    refine St.region ?_
    refine St.p rfl rfl ?_
    refine St.p rfl rfl ?_
    refine St.done ?_
    refine St.thenN ?_
    refine St.prune (Γ' := [(4, _)]) ⟨rfl, trivial⟩ (.k .z) ?_
    refine St.ret ?_
    repeat (first | refine St.thenR ?_ | refine St.blkR ?_)
    injection h with h
    subst h
    exact St.finR Tryd.results70 (.tmp rfl .nil) rfl [.res (OwnL eu8 5 A2 c2 o1)] ⟨A2, c2, rfl, rfl⟩ (fun _ w => ((.k .z) : Keep _ _).sat w)

theorem ent43 : Ent Tryd.prog 43 := ⟨_, Tryd.func43, by kernel_rfl, by kernel_rfl⟩

noncomputable def m_ref01_Copy (b_p0 : (List Int)) : Option (List Int) :=
  bnd (loopM (τ := List Int) (fun (s1 : List Int × Int) => bif decide (s1.2 < (b_p0.length : Int)) then (bnd (elt b_p0 s1.2) fun x1 => bnd (app 1 s1.1 [x1]) fun l1 => some (.next (l1, IntKind.wrap .i64 (s1.2 + 1)))) else (some (.done s1.1))) ([], 0)) fun o1 => some o1

theorem c_ref01_Copy {b_p0 : (List Int)} {A1 : Option Addr} {c1 : Nat} {r : (List Int)} (h : m_ref01_Copy b_p0 = some r) :
    Fun Tryd.prog 43 [.slice A1 b_p0.length c1] [.ro (SlL eu8 A1 c1 b_p0)] (fun v_ F_ => ∃ (A1 : Option Addr) (c1 : Nat), v_ = .slice A1 r.length c1 ∧ F_ = [.res (OwnL eu8 5 A1 c1 r)]) := by
  unfold m_ref01_Copy at h
  refine Fun.intro Tryd.func43 rfl rfl rfl fun w R => ?_
  refine St.seq ?_
  refine St.region ?_
  refine St.p rfl rfl ?_
  refine St.done ?_
  refine St.thenN ?_
  refine St.prune (Γ' := [(0, _)]) ⟨rfl, trivial⟩ (.k .z) ?_
  refine St.seq ?_
  refine St.region ?_
  refine St.p rfl rfl ?_
  refine St.done ?_
  refine St.thenN ?_
  refine St.seq ?_
  refine St.seq ?_
  refine St.region ?_
  refine St.p rfl rfl ?_
  refine St.done ?_
  refine St.thenN ?_
  refine St.asrt (fun _ w => w.nilL eu8 5) ?_
  obtain ⟨o1, hl1, h⟩ := bnd_e h
  refine St.cutE (fun (e2 : Option Addr × Nat) => [(3, .slice e2.1 o1.length e2.2)]) (fun e2 => .res (OwnL eu8 5 e2.1 e2.2 o1) :: R) ?_ ?_
  · refine St.block ?_
    refine St.loop hl1 (fun (s1 : List Int × Int) (e1 : Option Addr × Nat) => [(0, .slice A1 b_p0.length c1), (3, .slice e1.1 s1.1.length e1.2), (4, .int .i64 s1.2)]) (fun s1 e1 => .res (OwnL eu8 5 e1.1 e1.2 s1.1) :: .ro (SlL eu8 A1 c1 b_p0) :: R) (fun _ _ => True) (none, 0) trivial ⟨rfl, rfl, rfl, trivial⟩ (fun _ w => ((.k (.k .z)) : Keep _ _).sat w) ?_
    rintro s1 ⟨A2, c2⟩ - hit1
    obtain ⟨st1, hm1, hd1⟩ := iter_e hit1
    have h1 := hm1
    refine St.seq ?_
    refine St.seq ?_
    refine St.region ?_
    iterate 4 refine St.p rfl rfl ?_
    refine St.done ?_
    refine St.thenN ?_
    refine St.prune (Γ' := [(0, _), (3, _), (4, _), (8, _)]) ⟨rfl, rfl, rfl, rfl, trivial⟩ (.k (.k .z)) ?_
    refine St.cond _ rfl (fun hb1 => ?_) (fun hb1 => ?_)
    · replace h1 := bif_t hb1 h1
      refine St.skip ?_
      refine St.thenN ?_
      refine St.prune (Γ' := [(0, _), (3, _), (4, _)]) ⟨rfl, rfl, rfl, trivial⟩ (.k (.k .z)) ?_
      refine St.seq ?_
      refine St.block ?_
      refine St.region ?_
      iterate 3 refine St.p rfl rfl ?_
      obtain ⟨x1, hx1, h1⟩ := bnd_e h1
      refine St.ixL hx1 rfl rfl rfl (.tail _ (.head _)) rfl rfl rfl rfl rfl fun b1 ob1 => ?_
      refine St.load ob1 0 rfl rfl (.head _) rfl rfl ?_
      refine St.buildSlice rfl rfl rfl rfl rfl rfl rfl rfl fun g1 => ?_
      obtain ⟨l1, hl1, h1⟩ := bnd_e h1
      refine St.app (E := eu8) hl1 rfl rfl rfl (.s (.s .z)) rfl rfl rfl rfl rfl rfl rfl rfl (srcB (.head _) rfl rfl) rfl rfl fun A4 c4 => ?_
      refine St.p rfl rfl ?_
      refine St.done ?_
      refine St.blkN ?_
      refine St.thenN ?_
      refine St.prune (Γ' := [(0, _), (3, _), (4, _)]) ⟨rfl, rfl, rfl, trivial⟩ (.k (.d (.d (.k .z)))) ?_
      refine St.region ?_
      iterate 3 refine St.p rfl rfl ?_
      refine St.done ?_
      injection h1 with h1
      subst h1
      refine St.thenN ?_
      exact St.again _ (A4, c4) hm1 trivial ⟨rfl, rfl, rfl, trivial⟩ (fun _ w => ((.k (.k .z)) : Keep _ _).sat w)
    · replace h1 := bif_f hb1 h1
      refine St.exit ?_
      repeat (first | refine St.thenX ?_ | refine St.blkMiss rfl ?_)
      refine St.blkHit ?_
      injection h1 with h1
      subst h1
      have ho := hd1 _ rfl
      subst ho
      refine St.thenN ?_
      exact St.hereE (A2, c2) ⟨rfl, trivial⟩ (fun _ w => ((.k (.d .z)) : Keep _ _).sat w)
  · rintro ⟨A3, c3⟩
    refine St.seq ?_
    refine St.region ?_
    refine St.p rfl rfl ?_
    refine St.p rfl rfl ?_
    refine St.done ?_
    refine St.thenN ?_
    refine St.prune (Γ' := [(2, _)]) ⟨rfl, trivial⟩ (.k .z) ?_
    refine St.ret ?_
    repeat (first | refine St.thenR ?_ | refine St.blkR ?_)
    injection h with h
    subst h
    exact St.finR Tryd.results43 (.tmp rfl .nil) rfl [.res (OwnL eu8 5 A3 c3 o1)] ⟨A3, c3, rfl, rfl⟩ (fun _ w => ((.k .z) : Keep _ _).sat w)

theorem ent30 : Ent Tryd.prog 30 := ⟨_, Tryd.func30, by kernel_rfl, by kernel_rfl⟩

noncomputable def m_ref01_Sum8 (b_p0 : (List Int)) : Option Int :=
  bnd (loopM (τ := Int) (fun (s1 : Int × Int) => bif decide (s1.2 < (b_p0.length : Int)) then (bnd (elt b_p0 s1.2) fun x1 => some (.next ((IntKind.wrap .i64 (s1.1 + (IntKind.wrap .i64 x1))).tmod 256, IntKind.wrap .i64 (s1.2 + 1)))) else (some (.done s1.1))) (0, 0)) fun o1 => some (IntKind.wrap .u8 ((IntKind.wrap .i64 (256 - o1)).tmod 256))

theorem c_ref01_Sum8 {b_p0 : (List Int)} {A1 : Option Addr} {c1 : Nat} {r : Int} (h : m_ref01_Sum8 b_p0 = some r) :
    Fun Tryd.prog 30 [.slice A1 b_p0.length c1] [.ro (SlL eu8 A1 c1 b_p0)] (Val (.int .u8 r)) := by
  unfold m_ref01_Sum8 at h
  refine Fun.intro Tryd.func30 rfl rfl rfl fun w R => ?_
  refine St.seq ?_
  refine St.region ?_
  refine St.p rfl rfl ?_
  refine St.done ?_
  refine St.thenN ?_
  refine St.prune (Γ' := [(0, _)]) ⟨rfl, trivial⟩ (.k .z) ?_
  refine St.seq ?_
  refine St.region ?_
  refine St.p rfl rfl ?_
  refine St.done ?_
  refine St.thenN ?_
  refine St.seq ?_
  refine St.seq ?_
  refine St.region ?_
  refine St.p rfl rfl ?_
  refine St.done ?_
  refine St.thenN ?_
  obtain ⟨o1, hl1, h⟩ := bnd_e h
  refine St.cutE (fun (e2 : Unit) => [(3, .int .i64 o1)]) (fun e2 => R) ?_ ?_
  · refine St.block ?_
    refine St.loop hl1 (fun (s1 : Int × Int) (e1 : Unit) => [(0, .slice A1 b_p0.length c1), (3, .int .i64 s1.1), (4, .int .i64 s1.2)]) (fun s1 e1 => .ro (SlL eu8 A1 c1 b_p0) :: R) (fun _ _ => True) () trivial ⟨rfl, rfl, rfl, trivial⟩ (fun _ w => ((.k .z) : Keep _ _).sat w) ?_
    rintro s1 e1 - hit1
    obtain ⟨st1, hm1, hd1⟩ := iter_e hit1
    have h1 := hm1
    refine St.seq ?_
    refine St.seq ?_
    refine St.region ?_
    iterate 4 refine St.p rfl rfl ?_
    refine St.done ?_
    refine St.thenN ?_
    refine St.prune (Γ' := [(0, _), (3, _), (4, _), (8, _)]) ⟨rfl, rfl, rfl, rfl, trivial⟩ (.k .z) ?_
    refine St.cond _ rfl (fun hb1 => ?_) (fun hb1 => ?_)
    · replace h1 := bif_t hb1 h1
      refine St.skip ?_
      refine St.thenN ?_
      refine St.prune (Γ' := [(0, _), (3, _), (4, _)]) ⟨rfl, rfl, rfl, trivial⟩ (.k .z) ?_
      refine St.seq ?_
      refine St.block ?_
      refine St.region ?_
      iterate 3 refine St.p rfl rfl ?_
      obtain ⟨x1, hx1, h1⟩ := bnd_e h1
      refine St.ixL hx1 rfl rfl rfl (.head _) rfl rfl rfl rfl rfl fun b1 ob1 => ?_
      refine St.load ob1 0 rfl rfl (.head _) rfl rfl ?_
      iterate 4 refine St.p rfl rfl ?_
      refine St.done ?_
      refine St.blkN ?_
      refine St.thenN ?_
      refine St.prune (Γ' := [(0, _), (3, _), (4, _)]) ⟨rfl, rfl, rfl, trivial⟩ (.d (.k .z)) ?_
      refine St.region ?_
      iterate 3 refine St.p rfl rfl ?_
      refine St.done ?_
      injection h1 with h1
      subst h1
      refine St.thenN ?_
      exact St.again _ () hm1 trivial ⟨rfl, rfl, rfl, trivial⟩ (fun _ w => ((.k .z) : Keep _ _).sat w)
    · replace h1 := bif_f hb1 h1
      refine St.exit ?_
      repeat (first | refine St.thenX ?_ | refine St.blkMiss rfl ?_)
      refine St.blkHit ?_
      injection h1 with h1
      subst h1
      have ho := hd1 _ rfl
      subst ho
      refine St.thenN ?_
      exact St.hereE () ⟨rfl, trivial⟩ (fun _ w => ((.d .z) : Keep _ _).sat w)
  · rintro e2
    refine St.seq ?_
    refine St.region ?_
    iterate 5 refine St.p rfl rfl ?_
    refine St.done ?_
    refine St.thenN ?_
    refine St.prune (Γ' := [(2, _)]) ⟨rfl, trivial⟩ .z ?_
    refine St.ret ?_
    repeat (first | refine St.thenR ?_ | refine St.blkR ?_)
    injection h with h
    subst h
    exact St.finR Tryd.results30 (.tmp rfl .nil) rfl [] ⟨rfl, rfl⟩ (fun _ w => (.z : Keep _ _).sat w)

theorem ent52 : Ent Tryd.prog 52 := ⟨_, Tryd.func52, by kernel_rfl, by kernel_rfl⟩

noncomputable def m_ref01_Seal8 (b_p0 : (List Int)) : Option (List Int) :=
  bnd (m_ref01_Copy b_p0) fun r1 => bnd (m_ref01_Sum8 b_p0) fun r2 => bnd (app 1 r1 [r2]) fun l1 => some l1

theorem c_ref01_Seal8 {b_p0 : (List Int)} {A1 : Option Addr} {c1 : Nat} {r : (List Int)} (h : m_ref01_Seal8 b_p0 = some r) :
    Fun Tryd.prog 52 [.slice A1 b_p0.length c1] [.ro (SlL eu8 A1 c1 b_p0)] (fun v_ F_ => ∃ (A1 : Option Addr) (c1 : Nat), v_ = .slice A1 r.length c1 ∧ F_ = [.res (OwnL eu8 5 A1 c1 r)]) := by
  unfold m_ref01_Seal8 at h
  refine Fun.intro Tryd.func52 rfl rfl rfl fun w R => ?_
  refine St.seq ?_
  refine St.region ?_
  refine St.p rfl rfl ?_
  refine St.done ?_
  refine St.thenN ?_
  refine St.prune (Γ' := [(0, _)]) ⟨rfl, trivial⟩ (.k .z) ?_
  refine St.seq ?_
  refine St.region ?_
  refine St.p rfl rfl ?_
  obtain ⟨r1, hr1, h⟩ := bnd_e h
  refine St.call (c_ref01_Copy hr1) ent43 rfl rfl rfl (fun _ w => Sat.dup (G := [.ro (SlL eu8 A1 c1 b_p0)]) rfl ⟨(.head _), trivial⟩ w) ?_
  rintro _ _ ⟨A2, c2, rfl, rfl⟩
  refine St.asrt (F' := .res (OwnL eu8 5 A2 c2 r1) :: .ro (SlL eu8 A1 c1 b_p0) :: R) (fun _ w => w) ?_
  refine St.p rfl rfl ?_
  obtain ⟨r2, hr2, h⟩ := bnd_e h
  refine St.callV (c_ref01_Sum8 hr2) ent30 rfl rfl rfl rfl ⟨(.tail _ (.head _)), trivial⟩ ?_
  refine St.buildSlice rfl rfl rfl rfl rfl rfl rfl rfl fun g1 => ?_
  obtain ⟨l1, hl1, h⟩ := bnd_e h
  refine St.app (E := eu8) hl1 rfl rfl rfl (.s .z) rfl rfl rfl rfl rfl rfl rfl rfl (srcB (.head _) rfl rfl) rfl rfl fun A3 c3 => ?_
  refine St.p rfl rfl ?_
  refine St.done ?_
  refine St.thenN ?_
  refine St.prune (Γ' := [(2, _)]) ⟨rfl, trivial⟩ (.k (.d (.d .z))) ?_
  refine St.ret ?_
  repeat (first | refine St.thenR ?_ | refine St.blkR ?_)
  injection h with h
  subst h
  exact St.finR Tryd.results52 (.tmp rfl .nil) rfl [.res (OwnL eu8 5 A3 c3 l1)] ⟨A3, c3, rfl, rfl⟩ (fun _ w => ((.k .z) : Keep _ _).sat w)

theorem ent51 : Ent Tryd.prog 51 := ⟨_, Tryd.func51, by kernel_rfl, by kernel_rfl⟩

noncomputable def m_ref17_area (kind : Int) (a_p1 : T_Area) : Option ((List Int) × Bool) :=
  bif !a_p1.Present then (bnd ((bif (a_p1.Code == 0) then (bif (a_p1.Minutes == 0) then (some ((a_p1.Fields.length : Int) == 0)) else (some false)) else (some false) : Option Bool)) fun o1 => some ([], o1)) else (bnd ((bnd (m_ref17_least kind) fun r1 => bif decide ((a_p1.Fields.length : Int) < r1) then (some true) else (bif decide (a_p1.Minutes ≥ 16777216) then (some true) else (bif (kind != 1) then (some (a_p1.Minutes != 0)) else (some false))) : Option Bool)) fun o2 => bif o2 then (some ([], false)) else (bnd (m_ref02_EncodeList a_p1.Fields) fun r2 => bif (r2.2 != 0) then (some ([], false)) else (bnd ((bif (kind == 1) then (bnd (m_ref01_Little (IntKind.wrap .u64 a_p1.Minutes) 3) fun r3 => bnd (app 1 ([1, 0, a_p1.Code]) r3) fun l1 => some l1) else (some ([1, 0, a_p1.Code])) : Option (List Int))) fun o3 => bnd (app 1 o3 r2.1) fun l2 => bnd (loopM (τ := List Int) (fun (s1 : List Int) => bif (((s1.length : Int).tmod 8) != 7) then (bnd (app 1 s1 [0]) fun l3 => some (.next l3)) else (some (.done s1))) l2) fun o4 => bif decide ((IntKind.wrap .i64 ((o4.length : Int) + 1)) > 2040) then (some ([], false)) else (bnd (elt o4 1) fun x1 => bnd (setE o4 1 (IntKind.wrap .u8 (IntKind.wrap .i64 ((IntKind.wrap .i64 ((o4.length : Int) + 1)).tdiv 8)))) fun l4 => bnd (m_ref01_Seal8 l4) fun r4 => some (r4, true)))))

set_option maxHeartbeats 4000000 in
theorem c_ref17_area {kind : Int} {a_p1 : T_Area} {A1 : Option Addr} {c1 : Nat} {r : ((List Int) × Bool)} (h : m_ref17_area kind a_p1 = some r) :
    Fun Tryd.prog 51 [.int .i64 kind, .agg (bx_T_Area a_p1 A1 c1).toArray] [.ro (SlL e_Field A1 c1 a_p1.Fields)] (fun v_ F_ => ∃ (A1 : Option Addr) (c1 : Nat), v_ = .tuple #[.slice A1 r.1.length c1, .bool r.2] ∧ F_ = [.res (OwnL eu8 5 A1 c1 r.1)]) := by
  unfold m_ref17_area at h
  refine Fun.intro Tryd.func51 rfl rfl rfl fun w R => ?_
  refine St.seq ?_
  refine St.region ?_
  refine St.box rfl rfl fun g1 => ?_
  refine St.p rfl rfl ?_
  refine St.p rfl rfl ?_
  refine St.done ?_
  refine St.thenN ?_
  refine St.prune (Γ' := [(0, _), (3, _)]) ⟨rfl, rfl, trivial⟩ (.k (.k .z)) ?_
  refine St.seq ?_
  refine St.seq ?_
  refine St.region ?_
  refine St.p rfl rfl ?_
  refine St.loadB 0 rfl rfl (.head _) rfl rfl ?_
  refine St.p rfl rfl ?_
  refine St.done ?_
  refine St.thenN ?_
  refine St.prune (Γ' := [(0, _), (3, _), (11, _)]) ⟨rfl, rfl, rfl, trivial⟩ (.k (.k .z)) ?_
  refine St.cond _ rfl (fun hb1 => ?_) (fun hb1 => ?_)
  · replace h := bif_t hb1 h
    refine St.seq ?_
    obtain ⟨o1, hj1, h⟩ := bnd_e h
    refine St.cutE (fun (e1 : Unit) => [(4, .slice none 0 0), (5, .bool o1)]) (fun e1 => R) ?_ ?_
    · refine St.regionF mixed (by kernel_rfl) ?_
      refine St.p rfl rfl ?_
      refine St.loadB 1 rfl rfl (.head _) rfl rfl ?_
      refine St.p rfl rfl ?_
      refine St.p rfl rfl ?_
      refine St.gSplit (dj := 15) _ rfl (fun hb2 => ?_) (fun hb2 => ?_)
      · replace hj1 := bif_t hb2 hj1
        refine St.gOn (dj := 15) rfl rfl ?_
        refine St.p rfl rfl ?_
        refine St.gOn (dj := 15) rfl rfl ?_
        refine St.loadB 2 rfl rfl (.head _) rfl rfl ?_
        refine St.gOn (dj := 15) rfl rfl ?_
        iterate 3 refine St.p rfl rfl ?_
        refine St.gSplit (dj := 20) _ rfl (fun hb3 => ?_) (fun hb3 => ?_)
        · replace hj1 := bif_t hb3 hj1
          refine St.gOn (dj := 20) rfl rfl ?_
          refine St.p rfl rfl ?_
          refine St.gOn (dj := 20) rfl rfl ?_
          refine St.loadB 3 rfl rfl (.head _) rfl rfl ?_
          refine St.gOn (dj := 20) rfl rfl ?_
          refine St.p rfl rfl ?_
          refine St.gOn (dj := 20) rfl rfl ?_
          iterate 4 refine St.p rfl rfl ?_
          refine St.doneQ ?_
          injection hj1 with hj1
          subst hj1
          refine St.thenN ?_
          exact St.hereE () ⟨rfl, rfl, trivial⟩ (fun _ w => ((.d (.d .z)) : Keep _ _).sat w)
        · replace hj1 := bif_f hb3 hj1
          refine St.gOff (dj := 20) rfl rfl rfl rfl ?_
          refine St.gOff (dj := 20) rfl rfl rfl rfl ?_
          refine St.gOff (dj := 20) rfl rfl rfl rfl ?_
          refine St.gOff (dj := 20) rfl rfl rfl rfl ?_
          iterate 3 refine St.p rfl rfl ?_
          refine St.doneQ ?_
          injection hj1 with hj1
          subst hj1
          refine St.thenN ?_
          exact St.hereE () ⟨rfl, rfl, trivial⟩ (fun _ w => ((.d (.d .z)) : Keep _ _).sat w)
      · replace hj1 := bif_f hb2 hj1
        refine St.gOff (dj := 15) rfl rfl rfl rfl ?_
        refine St.gOff (dj := 15) rfl rfl rfl rfl ?_
        refine St.gOff (dj := 15) rfl rfl rfl rfl ?_
        refine St.p rfl rfl ?_
        refine St.p rfl rfl ?_
        refine St.gOff (dj := 20) rfl rfl rfl rfl ?_
        refine St.gOff (dj := 20) rfl rfl rfl rfl ?_
        refine St.gOff (dj := 20) rfl rfl rfl rfl ?_
        refine St.gOff (dj := 20) rfl rfl rfl rfl ?_
        iterate 3 refine St.p rfl rfl ?_
        refine St.doneQ ?_
        injection hj1 with hj1
        subst hj1
        refine St.thenN ?_
        exact St.hereE () ⟨rfl, rfl, trivial⟩ (fun _ w => ((.d (.d .z)) : Keep _ _).sat w)
    · rintro e1
      refine St.ret ?_
      repeat (first | refine St.thenR ?_ | refine St.blkR ?_)
      refine St.asrt (fun _ w => w.nilL eu8 5) ?_
      injection h with h
      subst h
      exact St.finR Tryd.results51 (.tmp rfl (.tmp rfl .nil)) rfl [.res (OwnL eu8 5 none 0 ([] : List Int))] ⟨none, 0, rfl, rfl⟩ (fun _ w => ((.k .z) : Keep _ _).sat w)
  · replace h := bif_f hb1 h
    refine St.skip ?_
    refine St.thenN ?_
    refine St.prune (Γ' := [(0, _), (3, _)]) ⟨rfl, rfl, trivial⟩ (.k (.k .z)) ?_
    refine St.seq ?_
    refine St.seq ?_
    obtain ⟨o2, hj2, h⟩ := bnd_e h
    refine St.cutE (fun (e2 : Unit) => [(0, .int .i64 kind), (3, .pointer (some ⟨g1, 0, none⟩)), (45, .bool o2)]) (fun e2 => .res (Box g1 25 (bx_T_Area a_p1 A1 c1)) :: .ro (SlL e_Field A1 c1 a_p1.Fields) :: R) ?_ ?_
    · refine St.regionF mixed (by kernel_rfl) ?_
      refine St.p rfl rfl ?_
      refine St.loadB 3 rfl rfl (.head _) rfl rfl ?_
      refine St.p rfl rfl ?_
      refine St.p rfl rfl ?_
      obtain ⟨r1, hr1, hj2⟩ := bnd_e hj2
      refine St.callV (c_ref17_least hr1) ent68 rfl rfl rfl rfl trivial ?_
      refine St.p rfl rfl ?_
      refine St.p rfl rfl ?_
      refine St.gSplit (dj := 32) _ rfl (fun hb4 => ?_) (fun hb4 => ?_)
      · replace hj2 := bif_t hb4 hj2
        refine St.gOff (dj := 32) rfl rfl rfl rfl ?_
        refine St.gOff (dj := 32) rfl rfl rfl rfl ?_
        refine St.gOff (dj := 32) rfl rfl rfl rfl ?_
        refine St.p rfl rfl ?_
        refine St.p rfl rfl ?_
        refine St.gOff (dj := 37) rfl rfl rfl rfl ?_
        refine St.gOff (dj := 37) rfl rfl rfl rfl ?_
        refine St.gOff (dj := 37) rfl rfl rfl rfl ?_
        refine St.gOff (dj := 40) rfl rfl rfl rfl ?_
        refine St.gOff (dj := 40) rfl rfl rfl rfl ?_
        refine St.gOff (dj := 40) rfl rfl rfl rfl ?_
        refine St.gOff (dj := 37) rfl rfl rfl rfl ?_
        refine St.p rfl rfl ?_
        refine St.doneQ ?_
        injection hj2 with hj2
        subst hj2
        refine St.thenN ?_
        exact St.hereE () ⟨rfl, rfl, rfl, trivial⟩ (fun _ w => ((.k (.k .z)) : Keep _ _).sat w)
      · replace hj2 := bif_f hb4 hj2
        refine St.gOn (dj := 32) rfl rfl ?_
        refine St.p rfl rfl ?_
        refine St.gOn (dj := 32) rfl rfl ?_
        refine St.loadB 2 rfl rfl (.head _) rfl rfl ?_
        refine St.gOn (dj := 32) rfl rfl ?_
        iterate 3 refine St.p rfl rfl ?_
        refine St.gSplit (dj := 37) _ rfl (fun hb5 => ?_) (fun hb5 => ?_)
        · replace hj2 := bif_t hb5 hj2
          refine St.gOff (dj := 37) rfl rfl rfl rfl ?_
          refine St.gOff (dj := 37) rfl rfl rfl rfl ?_
          refine St.gOff (dj := 37) rfl rfl rfl rfl ?_
          refine St.gOff (dj := 40) rfl rfl rfl rfl ?_
          refine St.gOff (dj := 40) rfl rfl rfl rfl ?_
          refine St.gOff (dj := 40) rfl rfl rfl rfl ?_
          refine St.gOff (dj := 37) rfl rfl rfl rfl ?_
          refine St.p rfl rfl ?_
          refine St.doneQ ?_
          injection hj2 with hj2
          subst hj2
          refine St.thenN ?_
          exact St.hereE () ⟨rfl, rfl, rfl, trivial⟩ (fun _ w => ((.k (.k .z)) : Keep _ _).sat w)
        · replace hj2 := bif_f hb5 hj2
          refine St.gOn (dj := 37) rfl rfl ?_
          refine St.p rfl rfl ?_
          refine St.gOn (dj := 37) rfl rfl ?_
          refine St.p rfl rfl ?_
          refine St.gOn (dj := 37) rfl rfl ?_
          refine St.p rfl rfl ?_
          refine St.gSplit (dj := 40) _ rfl (fun hb6 => ?_) (fun hb6 => ?_)
          · replace hj2 := bif_t hb6 hj2
            refine St.gOn (dj := 40) rfl rfl ?_
            refine St.p rfl rfl ?_
            refine St.gOn (dj := 40) rfl rfl ?_
            refine St.loadB 2 rfl rfl (.head _) rfl rfl ?_
            refine St.gOn (dj := 40) rfl rfl ?_
            refine St.p rfl rfl ?_
            refine St.gOn (dj := 37) rfl rfl ?_
            refine St.p rfl rfl ?_
            refine St.p rfl rfl ?_
            refine St.doneQ ?_
            injection hj2 with hj2
            subst hj2
            refine St.thenN ?_
            exact St.hereE () ⟨rfl, rfl, rfl, trivial⟩ (fun _ w => ((.k (.k .z)) : Keep _ _).sat w)
          · replace hj2 := bif_f hb6 hj2
            refine St.gOff (dj := 40) rfl rfl rfl rfl ?_
            refine St.gOff (dj := 40) rfl rfl rfl rfl ?_
            refine St.gOff (dj := 40) rfl rfl rfl rfl ?_
            refine St.gOn (dj := 37) rfl rfl ?_
            refine St.p rfl rfl ?_
            refine St.p rfl rfl ?_
            refine St.doneQ ?_
            injection hj2 with hj2
            subst hj2
            refine St.thenN ?_
            exact St.hereE () ⟨rfl, rfl, rfl, trivial⟩ (fun _ w => ((.k (.k .z)) : Keep _ _).sat w)
    · rintro e2
      refine St.cond _ rfl (fun hb7 => ?_) (fun hb7 => ?_)
      · replace h := bif_t hb7 h
        refine St.seq ?_
        refine St.region ?_
        refine St.p rfl rfl ?_
        refine St.p rfl rfl ?_
        refine St.done ?_
        refine St.thenN ?_
        refine St.prune (Γ' := [(4, _), (5, _)]) ⟨rfl, rfl, trivial⟩ (.d (.d .z)) ?_
        refine St.ret ?_
        repeat (first | refine St.thenR ?_ | refine St.blkR ?_)
        refine St.asrt (fun _ w => w.nilL eu8 5) ?_
        injection h with h
        subst h
        exact St.finR Tryd.results51 (.tmp rfl (.tmp rfl .nil)) rfl [.res (OwnL eu8 5 none 0 ([] : List Int))] ⟨none, 0, rfl, rfl⟩ (fun _ w => ((.k .z) : Keep _ _).sat w)
      · replace h := bif_f hb7 h
        refine St.skip ?_
        refine St.thenN ?_
        refine St.prune (Γ' := [(0, _), (3, _)]) ⟨rfl, rfl, trivial⟩ (.k (.k .z)) ?_
        refine St.seq ?_
        refine St.region ?_
        refine St.p rfl rfl ?_
        refine St.loadB 3 rfl rfl (.head _) rfl rfl ?_
        obtain ⟨r2, hr2, h⟩ := bnd_e h
        refine St.call (c_ref02_EncodeList hr2) ent69 rfl rfl rfl (fun _ w => Sat.dup (G := [.ro (SlL e_Field A1 c1 a_p1.Fields)]) rfl ⟨(.tail _ (.head _)), trivial⟩ w) ?_
        rintro _ _ ⟨A2, c2, rfl, rfl⟩
        refine St.asrt (F' := .res (OwnL eu8 5 A2 c2 r2.1) :: .res (Box g1 25 (bx_T_Area a_p1 A1 c1)) :: .ro (SlL e_Field A1 c1 a_p1.Fields) :: R) (fun _ w => w) ?_
        iterate 5 refine St.p rfl rfl ?_
        refine St.done ?_
        refine St.thenN ?_
        refine St.prune (Γ' := [(0, _), (3, _), (6, _), (7, _)]) ⟨rfl, rfl, rfl, rfl, trivial⟩ (.k (.k (.k .z))) ?_
        refine St.seq ?_
        refine St.seq ?_
        refine St.region ?_
        refine St.p rfl rfl ?_
        refine St.p rfl rfl ?_
        refine St.done ?_
        refine St.thenN ?_
        refine St.prune (Γ' := [(0, _), (3, _), (6, _), (53, _)]) ⟨rfl, rfl, rfl, rfl, trivial⟩ (.k (.k (.k .z))) ?_
        refine St.cond _ rfl (fun hb8 => ?_) (fun hb8 => ?_)
        · replace h := bif_t hb8 h
          refine St.seq ?_
          refine St.region ?_
          refine St.p rfl rfl ?_
          refine St.p rfl rfl ?_
          refine St.done ?_
          refine St.thenN ?_
          refine St.prune (Γ' := [(4, _), (5, _)]) ⟨rfl, rfl, trivial⟩ (.d (.d (.d .z))) ?_
          refine St.ret ?_
          repeat (first | refine St.thenR ?_ | refine St.blkR ?_)
          refine St.asrt (fun _ w => w.nilL eu8 5) ?_
          injection h with h
          subst h
          exact St.finR Tryd.results51 (.tmp rfl (.tmp rfl .nil)) rfl [.res (OwnL eu8 5 none 0 ([] : List Int))] ⟨none, 0, rfl, rfl⟩ (fun _ w => ((.k .z) : Keep _ _).sat w)
        · replace h := bif_f hb8 h
          refine St.skip ?_
          refine St.thenN ?_
          refine St.prune (Γ' := [(0, _), (3, _), (6, _)]) ⟨rfl, rfl, rfl, trivial⟩ (.k (.k (.k .z))) ?_
          refine St.seq ?_
          refine St.region ?_
          refine St.p rfl rfl ?_
          refine St.loadB 1 rfl rfl (.tail _ (.head _)) rfl rfl ?_
          refine St.buildSlice rfl rfl rfl rfl rfl rfl rfl rfl fun g2 => ?_
          refine St.p rfl rfl ?_
          refine St.done ?_
          refine St.thenN ?_
          refine St.prune (Γ' := [(0, _), (3, _), (6, _), (8, _)]) ⟨rfl, rfl, rfl, rfl, trivial⟩ (.k (.k (.k (.k .z)))) ?_
          refine St.seq ?_
          obtain ⟨o3, hj3, h⟩ := bnd_e h
          refine St.cutE (fun (e3 : Option Addr × Nat) => [(6, .slice A2 r2.1.length c2), (8, .slice e3.1 o3.length e3.2)]) (fun e3 => .res (OwnL eu8 5 e3.1 e3.2 o3) :: .res (OwnL eu8 5 A2 c2 r2.1) :: R) ?_ ?_
          · refine St.seq ?_
            refine St.region ?_
            refine St.p rfl rfl ?_
            refine St.p rfl rfl ?_
            refine St.done ?_
            refine St.thenN ?_
            refine St.prune (Γ' := [(3, _), (6, _), (8, _), (58, _)]) ⟨rfl, rfl, rfl, rfl, trivial⟩ (.k (.k (.k (.k .z)))) ?_
            refine St.cond _ rfl (fun hb9 => ?_) (fun hb9 => ?_)
            · replace hj3 := bif_t hb9 hj3
              refine St.region ?_
              refine St.p rfl rfl ?_
              refine St.p rfl rfl ?_
              refine St.loadB 2 rfl rfl (.tail _ (.tail _ (.head _))) rfl rfl ?_
              refine St.p rfl rfl ?_
              obtain ⟨r3, hr3, hj3⟩ := bnd_e hj3
              refine St.call (c_ref01_Little hr3) ent70 rfl rfl rfl (fun _ w => w) ?_
              rintro _ _ ⟨A4, c4, rfl, rfl⟩
              refine St.asrt (F' := .res (OwnL eu8 5 A4 c4 r3) :: .res (Box g2 5 [.int .u8 1, .int .u8 0, .int .u8 a_p1.Code]) :: .res (OwnL eu8 5 A2 c2 r2.1) :: .res (Box g1 25 (bx_T_Area a_p1 A1 c1)) :: .ro (SlL e_Field A1 c1 a_p1.Fields) :: R) (fun _ w => w) ?_
              refine St.asrt (fun _ w => (w.front .z).meltL) ?_
              refine St.asrt (fun _ w => (w.front (.s .z)).litL (E := eu8) (e := 5) [1, 0, a_p1.Code] rfl rfl) ?_
              obtain ⟨l1, hl1, hj3⟩ := bnd_e hj3
              refine St.app (E := eu8) hl1 rfl rfl rfl .z rfl rfl rfl rfl rfl rfl rfl rfl (srcL (.tail _ (.head _))) rfl rfl fun A5 c5 => ?_
              refine St.p rfl rfl ?_
              refine St.done ?_
              injection hj3 with hj3
              subst hj3
              refine St.thenN ?_
              exact St.hereE (A5, c5) ⟨rfl, rfl, trivial⟩ (fun _ w => ((.k (.d (.k (.d (.d .z))))) : Keep _ _).sat w)
            · replace hj3 := bif_f hb9 hj3
              refine St.skip ?_
              refine St.asrt (fun _ w => (w.front .z).litL (E := eu8) (e := 5) [1, 0, a_p1.Code] rfl rfl) ?_
              injection hj3 with hj3
              subst hj3
              refine St.thenN ?_
              exact St.hereE ((some ⟨g2, 0, none⟩), ([1, 0, a_p1.Code] : List Int).length) ⟨rfl, rfl, trivial⟩ (fun _ w => ((.k (.k (.d (.d .z)))) : Keep _ _).sat w)
          · rintro ⟨A3, c3⟩
            refine St.seq ?_
            refine St.region ?_
            refine St.p rfl rfl ?_
            refine St.p rfl rfl ?_
            refine St.asrt (fun _ w => (w.front (.s .z)).meltL) ?_
            obtain ⟨l2, hl2, h⟩ := bnd_e h
            refine St.app (E := eu8) hl2 rfl rfl rfl (.s .z) rfl rfl rfl rfl rfl rfl rfl rfl (srcL (.head _)) rfl rfl fun A6 c6 => ?_
            refine St.p rfl rfl ?_
            refine St.done ?_
            refine St.thenN ?_
            refine St.prune (Γ' := [(8, _)]) ⟨rfl, trivial⟩ (.k (.d .z)) ?_
            refine St.seq ?_
            obtain ⟨o4, hl1, h⟩ := bnd_e h
            refine St.cutE (fun (e5 : Option Addr × Nat) => [(8, .slice e5.1 o4.length e5.2)]) (fun e5 => .res (OwnL eu8 5 e5.1 e5.2 o4) :: R) ?_ ?_
            · refine St.block ?_
              refine St.loop hl1 (fun (s1 : List Int) (e4 : Option Addr × Nat) => [(8, .slice e4.1 s1.length e4.2)]) (fun s1 e4 => .res (OwnL eu8 5 e4.1 e4.2 s1) :: R) (fun _ _ => True) (A6, c6) trivial ⟨rfl, trivial⟩ (fun _ w => ((.k .z) : Keep _ _).sat w) ?_
              rintro s1 ⟨A7, c7⟩ - hit1
              obtain ⟨st1, hm1, hd1⟩ := iter_e hit1
              have h1 := hm1
              refine St.seq ?_
              refine St.seq ?_
              refine St.region ?_
              iterate 4 refine St.p rfl rfl ?_
              refine St.done ?_
              refine St.thenN ?_
              refine St.prune (Γ' := [(8, _), (71, _)]) ⟨rfl, rfl, trivial⟩ (.k .z) ?_
              refine St.cond _ rfl (fun hb10 => ?_) (fun hb10 => ?_)
              · replace h1 := bif_t hb10 h1
                refine St.skip ?_
                refine St.thenN ?_
                refine St.prune (Γ' := [(8, _)]) ⟨rfl, trivial⟩ (.k .z) ?_
                refine St.block ?_
                refine St.region ?_
                refine St.p rfl rfl ?_
                refine St.buildSlice rfl rfl rfl rfl rfl rfl rfl rfl fun g3 => ?_
                obtain ⟨l3, hl3, h1⟩ := bnd_e h1
                refine St.app (E := eu8) hl3 rfl rfl rfl (.s .z) rfl rfl rfl rfl rfl rfl rfl rfl (srcB (.head _) rfl rfl) rfl rfl fun A9 c9 => ?_
                refine St.p rfl rfl ?_
                refine St.done ?_
                refine St.blkN ?_
                injection h1 with h1
                subst h1
                refine St.thenN ?_
                exact St.again _ (A9, c9) hm1 trivial ⟨rfl, trivial⟩ (fun _ w => ((.k (.d .z)) : Keep _ _).sat w)
              · replace h1 := bif_f hb10 h1
                refine St.exit ?_
                repeat (first | refine St.thenX ?_ | refine St.blkMiss rfl ?_)
                refine St.blkHit ?_
                injection h1 with h1
                subst h1
                have ho := hd1 _ rfl
                subst ho
                refine St.thenN ?_
                exact St.hereE (A7, c7) ⟨rfl, trivial⟩ (fun _ w => ((.k .z) : Keep _ _).sat w)
            · rintro ⟨A8, c8⟩
              refine St.seq ?_
              refine St.seq ?_
              refine St.region ?_
              iterate 4 refine St.p rfl rfl ?_
              refine St.done ?_
              refine St.thenN ?_
              refine St.prune (Γ' := [(8, _), (78, _)]) ⟨rfl, rfl, trivial⟩ (.k .z) ?_
              refine St.cond _ rfl (fun hb11 => ?_) (fun hb11 => ?_)
              · replace h := bif_t hb11 h
                refine St.seq ?_
                refine St.region ?_
                refine St.p rfl rfl ?_
                refine St.p rfl rfl ?_
                refine St.done ?_
                refine St.thenN ?_
                refine St.prune (Γ' := [(4, _), (5, _)]) ⟨rfl, rfl, trivial⟩ (.d .z) ?_
                refine St.ret ?_
                repeat (first | refine St.thenR ?_ | refine St.blkR ?_)
                refine St.asrt (fun _ w => w.nilL eu8 5) ?_
                injection h with h
                subst h
                exact St.finR Tryd.results51 (.tmp rfl (.tmp rfl .nil)) rfl [.res (OwnL eu8 5 none 0 ([] : List Int))] ⟨none, 0, rfl, rfl⟩ (fun _ w => ((.k .z) : Keep _ _).sat w)
              · replace h := bif_f hb11 h
                refine St.skip ?_
                refine St.thenN ?_
                refine St.prune (Γ' := [(8, _)]) ⟨rfl, trivial⟩ (.k .z) ?_
                refine St.seq ?_
                refine St.region ?_
                iterate 6 refine St.p rfl rfl ?_
                obtain ⟨x1, hx1, h⟩ := bnd_e h
                refine St.ixO hx1 rfl rfl rfl (.head _) rfl rfl rfl rfl rfl fun g4 hA => ?_
                subst hA
                obtain ⟨l4, hl4, h⟩ := bnd_e h
                refine St.stO 0 hx1 hl4 rfl rfl .z rfl rfl rfl rfl rfl ?_
                refine St.slots (Γ' := [(8, .slice (some ⟨g4, 0, none⟩) l4.length c8), (79, .slice (some ⟨g4, 0, none⟩) l4.length c8), (80, .slice (some ⟨g4, 0, none⟩) l4.length c8), (81, _), (82, _), (83, _), (84, _), (85, _)]) ⟨sl_len hl4, sl_len hl4, sl_len hl4, rfl, rfl, rfl, rfl, rfl, trivial⟩ ?_
                refine St.done ?_
                refine St.thenN ?_
                refine St.prune (Γ' := [(8, _)]) ⟨rfl, trivial⟩ (.k .z) ?_
                refine St.seq ?_
                refine St.region ?_
                refine St.p rfl rfl ?_
                refine St.asrt (fun _ w => (w.front .z).meltL) ?_
                obtain ⟨r4, hr4, h⟩ := bnd_e h
                refine St.call (c_ref01_Seal8 hr4) ent52 rfl rfl rfl (fun _ w => Sat.dup (G := [.ro (SlL eu8 (some ⟨g4, 0, none⟩) c8 l4)]) rfl ⟨(.head _), trivial⟩ w) ?_
                rintro _ _ ⟨A10, c10, rfl, rfl⟩
                refine St.asrt (F' := .res (OwnL eu8 5 A10 c10 r4) :: .ro (SlL eu8 (some ⟨g4, 0, none⟩) c8 l4) :: R) (fun _ w => w) ?_
                refine St.p rfl rfl ?_
                refine St.p rfl rfl ?_
                refine St.done ?_
                refine St.thenN ?_
                refine St.prune (Γ' := [(4, _), (5, _)]) ⟨rfl, rfl, trivial⟩ (.k (.d .z)) ?_
                refine St.ret ?_
                repeat (first | refine St.thenR ?_ | refine St.blkR ?_)
                injection h with h
                subst h
                exact St.finR Tryd.results51 (.tmp rfl (.tmp rfl .nil)) rfl [.res (OwnL eu8 5 A10 c10 r4)] ⟨A10, c10, rfl, rfl⟩ (fun _ w => ((.k .z) : Keep _ _).sat w)

theorem ent36 : Ent Tryd.prog 36 := ⟨_, Tryd.func36, by kernel_rfl, by kernel_rfl⟩

noncomputable def m_ref17_bytes (i_p0 : T_Info) : Option ((List Int) × Bool) :=
  bnd ((bnd (m_ref17_area 0 i_p0.Chassis) fun r1 => bif !r1.2 then (some (.inl ([], false))) else (bif decide ((r1.1.length : Int) > 0) then (bnd (app 1 ([]) r1.1) fun l1 => some (.inr (l1, IntKind.wrap .u8 (IntKind.wrap .i64 ((8 : Int).tdiv 8))))) else (bnd (app 1 ([]) r1.1) fun l2 => some (.inr (l2, 0)))) : Option (((List Int) × Bool) ⊕ (List Int × Int)))) fun o1 => retOr o1 fun o2 => bnd ((bnd (m_ref17_area 1 i_p0.Board) fun r2 => bif !r2.2 then (some (.inl ([], false))) else (bif decide ((r2.1.length : Int) > 0) then (bnd (app 1 o2.1 r2.1) fun l3 => some (.inr (l3, IntKind.wrap .u8 (IntKind.wrap .i64 ((IntKind.wrap .i64 (8 + (o2.1.length : Int))).tdiv 8))))) else (bnd (app 1 o2.1 r2.1) fun l4 => some (.inr (l4, 0)))) : Option (((List Int) × Bool) ⊕ (List Int × Int)))) fun o3 => retOr o3 fun o4 => bnd ((bnd (m_ref17_area 2 i_p0.Product) fun r3 => bif !r3.2 then (some (.inl ([], false))) else (bif decide ((r3.1.length : Int) > 0) then (bnd (app 1 o4.1 r3.1) fun l5 => some (.inr (l5, IntKind.wrap .u8 (IntKind.wrap .i64 ((IntKind.wrap .i64 (8 + (o4.1.length : Int))).tdiv 8))))) else (bnd (app 1 o4.1 r3.1) fun l6 => some (.inr (l6, 0)))) : Option (((List Int) × Bool) ⊕ (List Int × Int)))) fun o5 => retOr o5 fun o6 => bnd ((bif decide ((i_p0.Multi.length : Int) > 2048) then (some true) else (some (decide ((IntKind.wrap .i64 ((IntKind.wrap .i64 (8 + (o6.1.length : Int))) + (i_p0.Multi.length : Int))) > 2048))) : Option Bool)) fun o7 => bif o7 then (some ([], false)) else (bif decide ((i_p0.Multi.length : Int) > 0) then (bnd (m_ref01_Seal8 ([1, 0, o2.2, o4.2, o6.2, IntKind.wrap .u8 (IntKind.wrap .i64 ((IntKind.wrap .i64 (8 + (o6.1.length : Int))).tdiv 8)), 0])) fun r4 => bnd (app 1 r4 o6.1) fun l7 => bnd (app 1 l7 i_p0.Multi) fun l8 => some (l8, true)) else (bnd (m_ref01_Seal8 ([1, 0, o2.2, o4.2, o6.2, 0, 0])) fun r5 => bnd (app 1 r5 o6.1) fun l9 => bnd (app 1 l9 i_p0.Multi) fun l10 => some (l10, true)))

end Go.Proofs.YtcekbbbjagfacaaDoor
