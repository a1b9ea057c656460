/-
  Models of functions of the program, and that the functions compute them.
  Conditions: none.
-/
import Derived.Test.YtcekbbbjagfacaaDoorGen1
namespace Go.Proofs.YtcekbbbjagfacaaDoor
open Go
set_option linter.unusedVariables false
set_option maxRecDepth 4000

theorem c_law17_awake  {r : Bool} (h : m_law17_awake = some r) :
    Fun Tryd.prog 10 [] [.ro (SlL ei64 (some ⟨0, 0, none⟩) 3 ([2, 5, 7] : List Int))] (Val (.bool r)) := by
  unfold m_law17_awake at h
  refine Fun.intro Tryd.func10 rfl rfl rfl fun w R => ?_
  refine St.seq ?_
  refine St.region ?_
  refine St.p rfl rfl ?_
  refine St.done ?_
  refine St.thenN ?_
  refine St.prune (Γ' := []) trivial (.k .z) ?_
  refine St.seq ?_
  refine St.region ?_
  refine St.p rfl rfl ?_
  refine St.alloc rfl rfl fun g1 => ?_
  refine St.store 0 rfl rfl rfl rfl rfl rfl .z rfl ?_
  refine St.done ?_
  refine St.thenN ?_
  refine St.prune (Γ' := [(1, _)]) ⟨rfl, trivial⟩ (.k (.k .z)) ?_
  refine St.seq ?_
  refine St.region ?_
  refine St.loadB 0 rfl rfl (.head _) rfl rfl ?_
  refine St.loadB 0 rfl rfl (.head _) rfl rfl ?_
  refine St.buildSlice rfl rfl rfl rfl rfl rfl rfl rfl fun g2 => ?_
  refine St.p rfl rfl ?_
  refine St.p rfl rfl ?_
  refine St.asrt (fun _ w => (w.front .z).litL (E := e_Field) (e := 60) [(⟨3, ⟨#[]⟩⟩ : T_Field), (⟨3, ⟨#[]⟩⟩ : T_Field)] rfl rfl) ?_
  refine St.asrt (fun _ w => (w.front .z).meltL) ?_
  refine St.asrt (fun _ w => w.nilSl (cod e_Field)) ?_
  refine St.asrt (fun _ w => w.nilSl (cod e_Field)) ?_
  refine St.asrt (fun _ w => w.nilSl (cod eu8)) ?_
  obtain ⟨r1, hr1, h⟩ := bnd_e h
  refine St.call (c_unitinfo_Encode hr1) ent14 rfl rfl rfl (fun _ w => Sat.dup (G := [.ro (SlL e_Field (some ⟨g2, 0, none⟩) ([(⟨3, ⟨#[]⟩⟩ : T_Field), (⟨3, ⟨#[]⟩⟩ : T_Field)] : List T_Field).length ([(⟨3, ⟨#[]⟩⟩ : T_Field), (⟨3, ⟨#[]⟩⟩ : T_Field)])), .ro (SlL e_Field none 0 ([] : List T_Field)), .ro (SlL e_Field none 0 ([] : List T_Field)), .ro (SlL eu8 none 0 ([] : List Int)), .ro (SlL ei64 (some ⟨0, 0, none⟩) 3 ([2, 5, 7] : List Int))]) rfl ⟨(.tail _ (.tail _ (.tail _ (.head _)))), (.tail _ (.head _)), (.tail _ (.head _)), (.head _), (.tail _ (.tail _ (.tail _ (.tail _ (.tail _ (.head _)))))), trivial⟩ w) ?_
  rintro _ _ ⟨A1, c1, rfl, rfl⟩
  refine St.asrt (F' := .res (OwnL eu8 5 A1 c1 r1.1) :: .ro (SlL eu8 none 0 ([] : List Int)) :: .ro (SlL e_Field none 0 ([] : List T_Field)) :: .ro (SlL e_Field none 0 ([] : List T_Field)) :: .ro (SlL e_Field (some ⟨g2, 0, none⟩) ([(⟨3, ⟨#[]⟩⟩ : T_Field), (⟨3, ⟨#[]⟩⟩ : T_Field)] : List T_Field).length ([(⟨3, ⟨#[]⟩⟩ : T_Field), (⟨3, ⟨#[]⟩⟩ : T_Field)])) :: .res (Box g1 60 [.int .i64 3, .string (⟨#[]⟩)]) :: .ro (SlL ei64 (some ⟨0, 0, none⟩) 3 ([2, 5, 7] : List Int)) :: R) (fun _ w => w) ?_
  iterate 5 refine St.p rfl rfl ?_
  refine St.done ?_
  refine St.thenN ?_
  refine St.prune (Γ' := [(2, _), (3, _)]) ⟨rfl, rfl, trivial⟩ (.k (.d (.d (.d (.d (.d (.k .z))))))) ?_
  refine St.seq ?_
  obtain ⟨o1, hj1, h⟩ := bnd_e h
  refine St.cutE (fun (e1 : Unit) => [(0, .bool o1)]) (fun e1 => .ro (SlL ei64 (some ⟨0, 0, none⟩) 3 ([2, 5, 7] : List Int)) :: R) ?_ ?_
  · refine St.region ?_
    iterate 3 refine St.p rfl rfl ?_
    refine St.gSplit (dj := 16) _ rfl (fun hb1 => ?_) (fun hb1 => ?_)
    · replace hj1 := bif_t hb1 hj1
      refine St.gOn (dj := 16) rfl rfl ?_
      refine St.p rfl rfl ?_
      refine St.gOn (dj := 16) rfl rfl ?_
      refine St.p rfl rfl ?_
      refine St.gOn (dj := 16) rfl rfl ?_
      iterate 3 refine St.p rfl rfl ?_
      refine St.gSplit (dj := 21) _ rfl (fun hb2 => ?_) (fun hb2 => ?_)
      · replace hj1 := bif_t hb2 hj1
        refine St.gOn (dj := 21) rfl rfl ?_
        refine St.p rfl rfl ?_
        refine St.gOn (dj := 21) rfl rfl ?_
        refine St.asrt (fun _ w => (w.front .z).meltL) ?_
        obtain ⟨l1, hl1, hj1⟩ := bnd_e hj1
        refine St.sub (E := (cod eu8)) rfl rfl (.head _) rfl rfl rfl rfl rfl rfl rfl hl1 fun A2 c2 => ?_
        refine St.gOn (dj := 21) rfl rfl ?_
        refine St.buildSlice rfl rfl rfl rfl rfl rfl rfl rfl fun g3 => ?_
        refine St.gOn (dj := 21) rfl rfl ?_
        refine St.asrt (fun _ w => (w.front .z).litL (E := eu8) (e := 5) [1, 1, 23, 192, 192, 193, 0, 166] rfl rfl) ?_
        refine St.asrt (fun _ w => (w.front .z).meltL) ?_
        obtain ⟨r2, hr2, hj1⟩ := bnd_e hj1
        refine St.callV (c_ref01_Same hr2) ent18 rfl rfl rfl rfl ⟨(.tail _ (.head _)), (.head _), trivial⟩ ?_
        refine St.p rfl rfl ?_
        refine St.p rfl rfl ?_
        refine St.done ?_
        injection hj1 with hj1
        subst hj1
        refine St.thenN ?_
        exact St.hereE () ⟨rfl, trivial⟩ (fun _ w => ((.d (.d (.d (.k .z)))) : Keep _ _).sat w)
      · replace hj1 := bif_f hb2 hj1
        refine St.gOff (dj := 21) rfl rfl rfl rfl ?_
        refine St.gOff (dj := 21) rfl rfl rfl rfl ?_
        refine St.gOff (dj := 21) rfl rfl rfl rfl ?_
        refine St.gOff (dj := 21) rfl rfl rfl rfl ?_
        refine St.p rfl rfl ?_
        refine St.p rfl rfl ?_
        refine St.done ?_
        injection hj1 with hj1
        subst hj1
        refine St.thenN ?_
        exact St.hereE () ⟨rfl, trivial⟩ (fun _ w => ((.d (.k .z)) : Keep _ _).sat w)
    · replace hj1 := bif_f hb1 hj1
      refine St.gOff (dj := 16) rfl rfl rfl rfl ?_
      refine St.gOff (dj := 16) rfl rfl rfl rfl ?_
      refine St.gOff (dj := 16) rfl rfl rfl rfl ?_
      refine St.p rfl rfl ?_
      refine St.p rfl rfl ?_
      refine St.gOff (dj := 21) rfl rfl rfl rfl ?_
      refine St.gOff (dj := 21) rfl rfl rfl rfl ?_
      refine St.gOff (dj := 21) rfl rfl rfl rfl ?_
      refine St.gOff (dj := 21) rfl rfl rfl rfl ?_
      refine St.p rfl rfl ?_
      refine St.p rfl rfl ?_
      refine St.done ?_
      injection hj1 with hj1
      subst hj1
      refine St.thenN ?_
      exact St.hereE () ⟨rfl, trivial⟩ (fun _ w => ((.d (.k .z)) : Keep _ _).sat w)
  · rintro e1
    refine St.ret ?_
    repeat (first | refine St.thenR ?_ | refine St.blkR ?_)
    injection h with h
    subst h
    exact St.finR Tryd.results10 (.tmp rfl .nil) rfl [] ⟨rfl, rfl⟩ (fun _ w => ((.d .z) : Keep _ _).sat w)

theorem ent21 : Ent Tryd.prog 21 := ⟨_, Tryd.func21, by kernel_rfl, by kernel_rfl⟩

noncomputable def m_made_Mod (n_p0 : Int) (m_p1 : Int) : Option Int :=
  bnd (remM n_p0 m_p1) fun q1 => bif decide (q1 < 0) then (some (IntKind.wrap .i64 (q1 + m_p1))) else (some q1)

theorem c_made_Mod {n_p0 : Int} {m_p1 : Int} {r : Int} (h : m_made_Mod n_p0 m_p1 = some r) :
    Fun Tryd.prog 21 [.int .i64 n_p0, .int .i64 m_p1] [] (Val (.int .i64 r)) := by
  unfold m_made_Mod at h
  refine Fun.intro Tryd.func21 rfl rfl rfl fun w R => ?_
  refine St.seq ?_
  refine St.region ?_
  refine St.p rfl rfl ?_
  refine St.done ?_
  refine St.thenN ?_
  refine St.prune (Γ' := [(0, _), (1, _)]) ⟨rfl, rfl, trivial⟩ .z ?_
  refine St.seq ?_
  refine St.region ?_
  refine St.p rfl rfl ?_
  refine St.p rfl rfl ?_
  obtain ⟨q1, hq1, h⟩ := bnd_e h
  refine St.rem rfl rfl rfl hq1 ?_
  refine St.p rfl rfl ?_
  refine St.done ?_
  refine St.thenN ?_
  refine St.prune (Γ' := [(0, _), (1, _)]) ⟨rfl, rfl, trivial⟩ .z ?_
  refine St.seq ?_
  refine St.seq ?_
  refine St.region ?_
  refine St.p rfl rfl ?_
  refine St.p rfl rfl ?_
  refine St.done ?_
  refine St.thenN ?_
  refine St.prune (Γ' := [(0, _), (1, _), (9, _)]) ⟨rfl, rfl, rfl, trivial⟩ .z ?_
  refine St.cond _ rfl (fun hb1 => ?_) (fun hb1 => ?_)
  · replace h := bif_t hb1 h
    refine St.region ?_
    iterate 4 refine St.p rfl rfl ?_
    refine St.done ?_
    refine St.thenN ?_
    refine St.prune (Γ' := [(0, _)]) ⟨rfl, trivial⟩ .z ?_
    refine St.seq ?_
    refine St.region ?_
    refine St.p rfl rfl ?_
    refine St.p rfl rfl ?_
    refine St.done ?_
    refine St.thenN ?_
    refine St.prune (Γ' := [(4, _)]) ⟨rfl, trivial⟩ .z ?_
    refine St.ret ?_
    repeat (first | refine St.thenR ?_ | refine St.blkR ?_)
    injection h with h
    subst h
    exact St.finR Tryd.results21 (.tmp rfl .nil) rfl [] ⟨rfl, rfl⟩ (fun _ w => (.z : Keep _ _).sat w)
  · replace h := bif_f hb1 h
    refine St.skip ?_
    refine St.thenN ?_
    refine St.prune (Γ' := [(0, _)]) ⟨rfl, trivial⟩ .z ?_
    refine St.seq ?_
    refine St.region ?_
    refine St.p rfl rfl ?_
    refine St.p rfl rfl ?_
    refine St.done ?_
    refine St.thenN ?_
    refine St.prune (Γ' := [(4, _)]) ⟨rfl, trivial⟩ .z ?_
    refine St.ret ?_
    repeat (first | refine St.thenR ?_ | refine St.blkR ?_)
    injection h with h
    subst h
    exact St.finR Tryd.results21 (.tmp rfl .nil) rfl [] ⟨rfl, rfl⟩ (fun _ w => (.z : Keep _ _).sat w)

end Go.Proofs.YtcekbbbjagfacaaDoor
